/-
  Chapter 17: lists of extensions copied, some of them left out, one set. The conditions: rows of at most a million elements.
-/
import Derived.Test.YtaagjnlkinojcaaGreatO5
import Derived.Test.YtaagjnlkinojcaaGreatW16
import Derived.Test.YtaagjnlkinojcaaGreatO3
import Derived.Test.YtaagjnlkinojcaaGreatC4
import Derived.Test.YtaagjnlkinojcaaGreatTy
namespace Go.Proofs.YtaagjnlkinojcaaGreat
set_option linter.unusedSimpArgs false
set_option linter.unusedVariables false
open Go.Sx
set_option maxRecDepth 10000
theorem zbE (n : Int) (h : 0 ≤ n ∧ n < 4611686018427387904) : IntKind.i64.wrap (BitVec.ofInt IntKind.i64.bits n &&& BitVec.ofInt IntKind.i64.bits 127).toNat = n % 128 := by
 obtain ⟨n, rfl⟩ : ∃ m : Nat, n = m := ⟨n.toNat, by omega⟩
 have e3 : ((n : Int) % 128) = ((n % 128 : Nat) : Int) := by simp
 rw [e3]
 have hm : n &&& 127 = n % 128 := Nat.and_two_pow_sub_one_eq_mod n 7
 have hlt : n % 128 < 128 := Nat.mod_lt _ (by decide)
 rw [← hm] at hlt ⊢
 have e1 : (BitVec.ofInt IntKind.i64.bits (n : Int)).toNat = n := by
   rw [BitVec.toNat_ofInt]; simp only [IntKind.bits]; omega
 have e2 : (BitVec.ofInt IntKind.i64.bits (127 : Int)).toNat = 127 := by decide
 rw [BitVec.toNat_and, e1, e2]
 generalize n &&& 127 = z at *
 simp only [IntKind.wrap, IntKind.signed, IntKind.bits]
 simp
 omega
theorem znA : ∀ x : Nat, x < 128 → IntKind.u8.wrap (BitVec.ofInt IntKind.u8.bits (x : Int) ||| BitVec.ofInt IntKind.u8.bits 128).toNat = (x : Int) + 128 := by decide +kernel
def z2Z : Nat → Nat → List Int
 | 0, _ => []
 | k + 1, n => if n = 0 then [] else (((n % 128 : Nat) : Int) + 128) :: z2Z k (n / 128)
def z11 (n : Nat) : List Int := (((n % 128 : Nat) : Int) :: z2Z 5 (n / 128)).reverse
theorem zaz : ∀ (k n : Nat), (z2Z k n).length ≤ k
 | 0, n => by simp [z2Z]
 | k + 1, n => by
   have := zaz k (n / 128)
   unfold z2Z
   split <;> simp <;> omega
theorem z51 (n : Nat) : (z11 n).length ≤ 6 := by
 have := zaz 5 (n / 128)
 simp [z11]; omega
structure PS where
 n : Nat
 k : Nat
 d : List Int
theorem zlP (acc : List Int) (n : Nat) (hn0 : n < 4294967296) (hl : acc.length ≤ 16000000) :
   CtM Tryz.prog 242 [lv (.int .i64 (n : Int)), .c (.ptr 0 0)] [.cells [.own 1 1 0 acc.length], .row (.ints .u8 acc)] (.tup [])
     [.cells [.own 2 1 0 (acc.length + (z11 n).length)], .gone] [.row (.ints .u8 (acc ++ z11 n))] := by
 have ha := zbE (n : Int) (by omega)
 obtain ⟨A, hA⟩ : ∃ A, z11 n = A := ⟨_, rfl⟩
 have hAl : A.length ≤ 6 := by rw [← hA]; exact z51 n
 rw [hA]
 refine z2y Tryz.func242 rfl rfl rfl rfl rfl (fun E hn hb => ?_)
 repeat (refine nst ?_)
 have e1 : (n : Int) % 128 = ((n % 128 : Nat) : Int) := by omega
 rw [ha, e1]
 refine z1l rfl rfl rfl (by rw [hn]; rfl) (z0j Tryz.underlying28 rfl rfl) (z2p) (by exact vcs) ⟨by decide, rfl⟩ ?_
 repeat (refine nst ?_)
 have e9 : (n : Int) / 2 ^ min (Int.toNat 7) IntKind.i64.bits = ((n / 128 : Nat) : Int) := by
   have : min (Int.toNat 7) IntKind.i64.bits = 7 := by decide
   rw [this]
   omega
 rw [e9]
 refine z0d (St.le_of (l := [(0, lv (.int .i64 ((n / 128 : Nat) : Int))), (1, .c (.ptr 0 0)), (3, .c (.own 71 1 0 [((n % 128 : Nat) : Int)].length))]) (h := [(0, .cells [.own 1 1 0 acc.length]), (1, .row (.ints .u8 acc)), (71, .row (.ints .u8 [((n % 128 : Nat) : Int)]))]) (by refine ⟨?_, ?_⟩ <;> (repeat' (first | exact trivial | exact rfl | refine ⟨?_, ?_⟩)) <;> first | exact rfl | (simp; done) | skip)) ?_
 refine z0l (ι := {s : PS // (s.d ++ z2Z s.k s.n).reverse = A ∧ s.n < 128 ^ s.k ∧ s.n < 4294967296 ∧ s.d.length ≤ 6}) (fun s => St.of [(0, lv (.int .i64 (s.1.n : Int))), (1, .c (.ptr 0 0)), (3, .c (.own 71 1 0 s.1.d.length))] [(0, .cells [.own 1 1 0 acc.length]), (1, .row (.ints .u8 acc)), (71, .row (.ints .u8 s.1.d))]) (fun s => s.1.k) (fun s => ?_) ⟨⟨n / 128, 5, [((n % 128 : Nat) : Int)]⟩, hA, by dsimp only; omega, by dsimp only; omega, by simp⟩
 obtain ⟨⟨n, k, d⟩, h1, h2, h3, h4⟩ := s
 dsimp only at h1 h2 h3 h4 ⊢
 clear ha e1 e9 hn0 hA
 repeat (refine nst ?_)
 refine z04 rfl (by simp) (fun hc => ?_) (fun hc => ?_)
 · have hnp : 0 < n := by simpa using hc
   obtain ⟨k, rfl⟩ : ∃ k', k = k' + 1 := by
     cases k with
     | zero => simp at h2; omega
     | succ k => exact ⟨k, rfl⟩
   unfold z2Z at h1
   rw [if_neg (by omega)] at h1
   have ha := zbE (n : Int) (by omega)
   have e1 : (n : Int) % 128 = ((n % 128 : Nat) : Int) := by omega
   have ho := znA (n % 128) (Nat.mod_lt _ (by decide))
   repeat (refine nst ?_)
   rw [ha, e1]
   repeat (refine nst ?_)
   rw [ho]
   have h5 : ((d ++ [((n % 128 : Nat) : Int) + 128]) ++ z2Z k (n / 128)).reverse = A := by rw [List.append_assoc]; exact h1
   have h6 : (d ++ [((n % 128 : Nat) : Int) + 128]).length ≤ 6 := by
     have := congrArg List.length h5
     simp at this ⊢
     omega
   have h7 : n / 128 < 128 ^ k := by
     rw [Nat.pow_succ] at h2
     exact Nat.div_lt_of_lt_mul (by rw [Nat.mul_comm]; exact h2)
   have e9 : (n : Int) / 2 ^ min (Int.toNat 7) IntKind.i64.bits = ((n / 128 : Nat) : Int) := by
     have : min (Int.toNat 7) IntKind.i64.bits = 7 := by decide
     rw [this]
     omega
   refine z1l rfl rfl rfl (by rw [hn]; rfl) (z0j Tryz.underlying28 rfl rfl) (z2p) (by exact vcs) ⟨by decide, rfl⟩ ?_
   repeat (refine nst ?_)
   refine z1U rfl rfl rfl rfl rfl rfl (by rw [hn]; rfl) (z0j Tryz.underlying28 rfl rfl) rfl rfl rfl rfl (by exact vcs) (by first | rfl | (simp; done) | (simp; omega)) ⟨by first | (simp; done) | (simp; omega) | (simp at *; omega), by decide⟩ ?_
   repeat (refine nst ?_)
   rw [e9]
   (refine z0a ?i1 ?i2 ?i3; (case i1 => exact ⟨⟨n / 128, k, d ++ [((n % 128 : Nat) : Int) + 128]⟩, h5, h7, by dsimp only; omega, h6⟩); (case i2 => (dsimp only; omega)); (case i3 => refine St.le_of ⟨?_, ?_⟩ <;> (repeat' (first | exact trivial | exact rfl | refine ⟨?_, ?_⟩)) <;> first | exact rfl | (simp; done) | skip))
 · have hn0 : n = 0 := by simp at hc; omega
   subst hn0
   have e1 : z2Z k 0 = [] := by cases k <;> rfl
   rw [e1, List.append_nil] at h1
   have hrv := z6l d (by omega)
   have hdl : d.length = A.length := by rw [← h1]; simp
   rw [h1, hdl] at hrv
   rw [hdl]
   repeat (refine nst ?_)
   refine z0r [71] hrv rfl rfl (by rw [hn]; rfl) rfl rfl (by trivial) ⟨rfl, rfl, (by simp [z0f]), rfl⟩ ?_
   repeat (refine nst ?_)
   refine z5d 95 rfl rfl rfl rfl rfl (by rw [hn]; rfl) (z0j Tryz.underlying28 rfl rfl) rfl rfl rfl rfl ?_ (by simp) ⟨by simp; omega, by decide⟩ ?_ ?_
   · simp [z03]
   · repeat (refine nst ?_)
     refine z0h rfl rfl rfl rfl rfl (by exact vcs) rfl rfl rfl (by rw [z2A]; rfl) (by rw [z3X]; rfl) rfl rfl ?_
     rw [List.take_length, Nat.zero_add acc.length, List.take_length]
     repeat (refine nst ?_)
     exact z53 [1] rfl (by trivial) ⟨rfl, ⟨.inr rfl, .inl rfl⟩, rfl, rfl⟩ hb rfl
   · repeat (refine nst ?_)
     refine z0h rfl rfl rfl rfl rfl (by exact vcs) rfl rfl rfl (by rw [z2A]; rfl) (by rw [z3X]; rfl) rfl rfl ?_
     rw [List.take_length, Nat.zero_add acc.length, List.take_length, List.drop_zero]
     repeat (refine nst ?_)
     exact z53 [95] rfl (by trivial) ⟨rfl, ⟨.inr rfl, .inl rfl⟩, rfl, rfl⟩ hb rfl

def z0p (l : List Int) : List Int := l.flatMap fun x => z11 x.toNat
def z0P : List Int → List Int
 | a :: b :: t => (40 * a + b) :: t
 | _ => []
def z7f (o : List Int) : Av := if z0N o then .tup [B8 (z0p (z0P o)), lv (.int .i64 0)] else .tup [B8 [], lv (.int .i64 1)]
theorem z5k : ∀ l : List Int, (z0p l).length ≤ 6 * l.length
 | [] => by simp [z0p]
 | x :: l => by
   have := z5k l
   have := z51 x.toNat
   simp [z0p] at *
   omega
theorem z8l {l : List Int} {i : Nat} (h : i < l.length) : z0p (l.take (i + 1)) = z0p (l.take i) ++ z11 (l.getD i 0).toNat := by
 rw [List.take_add_one, List.getElem?_eq_getElem h, List.getD_eq_getElem?_getD, List.getElem?_eq_getElem h]
 simp only [z0p, List.flatMap_append, Option.toList_some, List.flatMap_singleton, Option.getD_some]
theorem z3c {o : List Int} (h : z0N o = true) : ∃ a b t, o = a :: b :: t ∧ 0 ≤ a ∧ a ≤ 2 ∧ 0 ≤ b ∧ b ≤ 2147483567 ∧ t.length ≤ 30 ∧ (∀ x ∈ t, 0 ≤ x ∧ x ≤ 2147483647) ∧ (a < 2 → b < 40) := by
 match o, h with
 | a :: b :: t, h =>
 rw [z1m] at h
 by_cases h30 : 30 < t.length
 · rw [if_pos h30] at h; cases h
 rw [if_neg h30] at h
 by_cases ha : (a :: b :: t).all inR = false
 · rw [if_pos ha] at h; cases h
 rw [if_neg ha] at h
 have ha : ∀ x ∈ a :: b :: t, inR x = true := List.all_eq_true.1 (by simpa using ha)
 have hx : ∀ x ∈ a :: b :: t, 0 ≤ x ∧ x ≤ 2147483647 := fun x hx => by
   have := ha x hx
   simp [inR] at this
   exact this
 have h1 := hx a (by simp)
 have h2 := hx b (by simp)
 refine ⟨a, b, t, rfl, h1.1, ?_, h2.1, ?_, by omega, fun x hm => hx x (by simp [hm]), ?_⟩
 · by_cases e : a = 0 ∨ a = 1
   · omega
   · rw [if_neg e] at h
     by_cases e2 : a = 2
     · omega
     · rw [if_neg e2] at h; cases h
 · by_cases e : a = 0 ∨ a = 1
   · rw [if_pos e] at h; simp at h; omega
   · rw [if_neg e] at h
     by_cases e2 : a = 2
     · rw [if_pos e2] at h; simpa using h
     · rw [if_neg e2] at h; cases h
 · intro h3
   rw [if_pos (by omega)] at h
   simpa using h
theorem zfy (o : List Int) (hl : o.length ≤ 16000000) : Ct Tryz.prog 236 [I64 o] [] (z7f o) [] [] := by
 by_cases hr : z0N o = true
 · obtain ⟨a, b, t, rfl, ha0, ha2, hb0, hb1, ht, hx, _⟩ := z3c hr
   have hR : z7f (a :: b :: t) = .tup [B8 (z0p ((40 * a + b) :: t)), lv (.int .i64 0)] := by rw [z7f, if_pos hr]; rfl
   rw [hR]
   have h1 := z9y (a :: b :: t) hl
   rw [hr] at h1
   have h2 := zde a b t ⟨ha0, ha2⟩ ⟨hb0, by omega⟩ (by omega)
   obtain ⟨N, hN⟩ : ∃ N, (40 * a + b) :: t = N := ⟨_, rfl⟩
   have hNl : N.length ≤ 31 := by rw [← hN]; simp; omega
   have hNx : ∀ x ∈ N, 0 ≤ x ∧ x ≤ 2147483647 := by
     rw [← hN]
     intro x hm
     rcases List.mem_cons.1 hm with rfl | hm
     · omega
     · exact hx x hm
   rw [hN] at h2 ⊢
   refine z00 Tryz.func236 rfl rfl rfl rfl rfl (fun E hn hb => ?_)
   repeat (refine nst ?_)
   refine z1e h1 rfl rfl rfl (by rw [hn]; rfl) rfl rfl (by exact vcs) rfl rfl rfl ?_
   repeat (refine nst ?_)
   refine z04 rfl (by simp) (fun hc => ?_) (fun hc => ?_)
   · simp at hc
   repeat (refine nst ?_)
   refine z0w rfl rfl rfl (by rw [hn]; rfl) rfl z9N ?_
   repeat (refine nst ?_)
   refine zcq (fun a w h => SR.cell_nil (cs := [.lf (.v (.slice none 0 0))]) (cs' := [.own 900 1 0 0]) 68 0 900 rfl rfl rfl rfl rfl h) ?_
   refine z1e h2 rfl rfl rfl (by rw [hn]; rfl) rfl rfl (by exact vcs) rfl rfl rfl ?_
   repeat (refine nst ?_)
   refine z0d (St.le_of (l := [(4, .c (.ptr 68 0)), (5, .c (.fn (.func 242) [] [.ptr 68 0])), (13, I64 N), (14, lv (.int .i64 (N.length : Int))), (15, lv (.int .i64 ((0 : Nat) : Int)))]) (h := [(68, .cells [.own 900 1 0 ([] : List Int).length]), (900, .row (.ints .u8 []))]) (by refine ⟨?_, ?_⟩ <;> (repeat' (first | exact trivial | exact rfl | refine ⟨?_, ?_⟩)) <;> first | exact rfl | (simp; done) | skip)) ?_
   refine z0l (ι := {s : Nat × List Int // s.1 ≤ N.length ∧ s.2 = z0p (N.take s.1)}) (fun s => St.of [(4, .c (.ptr 68 0)), (5, .c (.fn (.func 242) [] [.ptr 68 0])), (13, I64 N), (14, lv (.int .i64 (N.length : Int))), (15, lv (.int .i64 (s.1.1 : Int)))] [(68, .cells [.own 900 1 0 s.1.2.length]), (900, .row (.ints .u8 s.1.2))]) (fun s => N.length - s.1.1) (fun s => ?_) ⟨(0, []), by dsimp only; omega, rfl⟩
   obtain ⟨⟨i, acc⟩, hi, he⟩ := s
   dsimp only at hi he ⊢
   repeat (refine nst ?_)
   refine z04 rfl (by simp) (fun hc => ?_) (fun hc => ?_)
   · have hi2 : i < N.length := by simpa using hc
     have hal : acc.length ≤ 1000 := by
       have := z5k (N.take i)
       rw [he]
       simp at this
       omega
     have hxi : N.getD i 0 ∈ N := by rw [List.getD_eq_getElem?_getD, List.getElem?_eq_getElem hi2]; exact List.getElem_mem hi2
     have hxb := hNx _ hxi
     have hnext := z8l hi2
     rw [← he] at hnext
     generalize hX : N.getD i 0 = X at *
     obtain ⟨x, rfl⟩ : ∃ x : Nat, X = x := ⟨X.toNat, by omega⟩
     rw [Int.toNat_natCast] at hnext
     have hput := zlP acc x (by omega) (by omega)
     have e8 : acc.length + (z11 x).length = (acc ++ z11 x).length := by simp
     rw [e8] at hput
     repeat (refine nst ?_)
     rw [show N.getD (Int.toNat (i : Int)) 0 = (x : Int) from hX]
     repeat (refine nst ?_)
     refine z5L [68, 900] hput rfl rfl (by rw [hn]; rfl) rfl rfl (by trivial) ⟨rfl, ⟨rfl, rfl⟩, (by simp [z0f]), rfl⟩ ?_
     repeat (refine nst ?_)
     refine z4T (fun a w h => SR.mv 85 900 rfl rfl rfl rfl rfl h) ?_
     refine z0a ⟨(i + 1, acc ++ z11 x), by dsimp only; omega, hnext.symm⟩ (by dsimp only; omega) (St.le_of ⟨⟨rfl, rfl, rfl, rfl, rfl⟩, ⟨rfl, rfl⟩⟩)
   · have hi2 : i = N.length := by simp at hc; omega
     subst hi2
     rw [List.take_length] at he
     subst he
     repeat (refine nst ?_)
     refine zau 900 [(2, B8 (z0p N))] rfl hb ⟨⟨rfl, rfl, rfl, by simp, by simp⟩, rfl⟩ ?_
     exact rt1 []
 · have hr' : z0N o = false := by simpa using hr
   have hR : z7f o = .tup [B8 [], lv (.int .i64 1)] := by rw [z7f, if_neg hr]
   rw [hR]
   have h1 := z9y o hl
   rw [hr'] at h1
   refine z00 Tryz.func236 rfl rfl rfl rfl rfl (fun E hn hb => ?_)
   repeat (refine nst ?_)
   refine z1e h1 rfl rfl rfl (by rw [hn]; rfl) rfl rfl (by exact vcs) rfl rfl rfl ?_
   repeat (refine nst ?_)
   refine z04 rfl (by simp) (fun hc => ?_) (fun hc => ?_)
   · repeat (refine nst ?_)
     refine zav [] rfl (by simp) (r' := .tup [B8 [], lv (.int .i64 1)]) ⟨.inr ⟨rfl, .inl ⟨_, rfl⟩⟩, .inl rfl, trivial⟩ ⟨rfl, trivial, trivial, rfl⟩ hb rfl trivial
   · simp at hc

theorem z7p (o : List Int) (hl : o.length ≤ 16000000) : Ct Tryz.prog 212 [I64 o] [] (lv (.bool (z0N o))) [] [] := by
 obtain ⟨R, hR⟩ : ∃ R, z0N o = R := ⟨_, rfl⟩
 rw [hR]
 refine z00 Tryz.func212 rfl rfl rfl rfl rfl (fun E hn hb => ?_)
 repeat (refine nst ?_)
 refine z04 rfl (by simp) (fun hc => ?_) (fun hc => ?_)
 · have : R = false := by
     rw [← hR]
     simp at hc
     match o, hc with
     | [], _ => rfl
     | [_], _ => rfl
     | a :: b :: t, hc => simp at hc; rw [z1m, if_pos (by omega)]
   subst this
   repeat (refine nst ?_)
   exact rt1 []
 · have hlen : 2 ≤ o.length ∧ o.length ≤ 32 := by simp at hc; omega
   repeat (refine nst ?_)
   refine z0d (St.le_of (l := [(0, I64 o), (3, lv (.int .i64 ((0 : Nat) : Int)))]) (h := []) (by refine ⟨?_, ?_⟩ <;> (repeat' (first | exact trivial | exact rfl | refine ⟨?_, ?_⟩)) <;> first | exact rfl | (simp; done) | skip)) ?_
   refine z0l (ι := {i : Nat // i ≤ o.length ∧ (o.take i).all inR = true}) (fun i => St.of [(0, I64 o), (3, lv (.int .i64 (i.1 : Int)))] []) (fun i => o.length - i.1) (fun i => ?_) ⟨0, by omega, by simp⟩
   obtain ⟨i, hi, ha⟩ := i
   dsimp only
   repeat (refine nst ?_)
   refine z04 rfl (by simp) (fun hc => ?_) (fun hc => ?_)
   · have hi2 : i < o.length := by simpa using hc
     repeat (refine nst ?_)
     refine z04 rfl (by simp) (fun h2 => ?_) (fun h2 => ?_)
     · have : R = false := by
         rw [← hR]
         have hg := zbS hi2 (by simp [Bool.cond_eq_ite] at h2; simp only [inR, Bool.not_eq_false', Bool.or_eq_true, decide_eq_true_eq]; rw [List.getD_eq_getElem?_getD]; omega)
         match o, hlen, hg with
         | a :: b :: t, hlen, hg => rw [z1m, hg]; simp
       subst this
       repeat (refine nst ?_)
       exact rt1 []
     · repeat (refine nst ?_)
       (refine z0a ?i1 ?i2 ?i3; (case i1 => exact ⟨i + 1, by omega, zaU hi2 ha (by simp [Bool.cond_eq_ite] at h2; simp only [inR, Bool.not_eq_true', Bool.or_eq_false_iff, decide_eq_false_iff_not]; rw [List.getD_eq_getElem?_getD]; omega)⟩); (case i2 => (dsimp only; omega)); (case i3 => refine St.le_of ⟨?_, ?_⟩ <;> (repeat' (first | exact trivial | exact rfl | refine ⟨?_, ?_⟩)) <;> first | exact rfl | (simp; done) | skip))
   · have : i = o.length := by simp at hc; omega
     subst this
     rw [List.take_length] at ha
     clear hi
     match o, hlen, ha, hR with
     | a :: b :: t, hlen, ha, hR =>
     have h30 : ¬ 30 < t.length := by simp at hlen; omega
     have ha0 : 0 ≤ a := by
       have := List.all_eq_true.1 ha a (by simp)
       simp [inR] at this
       exact this.1
     rw [z1m, if_neg h30, ha, if_neg (by simp)] at hR
     repeat (refine nst ?_)
     refine rt2 [] ?_ ?_
     · refine congrArg (fun x => lv (.bool x)) (?_ : (bif bif decide (a < 2) then decide (b < 40) else false then true else bif a == 2 then decide (b ≤ 2147483567) else false) = R)
       rw [← hR]
       by_cases h0 : a = 0 ∨ a = 1
       · have h1 : a < 2 := by omega
         have h2 : (a == 2) = false := by simp; omega
         rw [if_pos h0, h2]
         simp [h1]
       · have h1 : ¬ a < 2 := by omega
         rw [if_neg h0]
         by_cases h2 : a = 2
         · simp [h2]
         · simp [h1, h2]
     · trivial
theorem zcS (a b : List Int) (ha : a.length ≤ 16000000) (hb' : b.length ≤ 16000000) : Ct Tryz.prog 140 [I64 a, I64 b] [] (lv (.bool (decide (a = b)))) [] [] := by
 refine z00 Tryz.func140 rfl rfl rfl rfl rfl (fun E hn hb => ?_)
 repeat (refine nst ?_)
 refine z1e (zeF a b ha hb') rfl rfl rfl (by rw [hn]; rfl) rfl rfl (by exact vcs) rfl rfl rfl ?_
 repeat (refine nst ?_)
 refine rt2 [] ?_ ?_
 · refine congrArg (fun x => lv (.bool x)) (?_ : (z0v a b == 0) = decide (a = b))
   rw [Bool.eq_iff_iff]
   simp [z90]
 · trivial
theorem z3Q {n : Nat} (h : n < 128) : z11 n = [(n : Int)] := by
 have h1 : n / 128 = 0 := Nat.div_eq_of_lt h
 have h2 : n % 128 = n := Nat.mod_eq_of_lt h
 rw [z11, h1, h2]
 rfl
theorem z9m : ∀ (k n : Nat), n < 128 ^ k → z2Z (k + 1) n = z2Z k n
 | 0, n, h => by
   have : n = 0 := by simpa using h
   subst this
   rfl
 | k + 1, n, h => by
   have h1 : n / 128 < 128 ^ k := by
     rw [Nat.pow_succ] at h
     exact Nat.div_lt_of_lt_mul (by rw [Nat.mul_comm]; exact h)
   have := z9m k (n / 128) h1
   unfold z2Z
   split
   · rfl
   · rw [this]
theorem z67 {n : Nat} (h : ¬ n < 128) (h0 : n < 4294967296) : ∃ L, z11 (n / 128) = L ++ [((n / 128 % 128 : Nat) : Int)] ∧ z11 n = (L ++ [((n / 128 % 128 : Nat) : Int) + 128]) ++ [((n % 128 : Nat) : Int)] := by
 refine ⟨(z2Z 5 (n / 128 / 128)).reverse, by simp [z11], ?_⟩
 have h1 : n / 128 ≠ 0 := by omega
 have h2 := z9m 4 (n / 128 / 128) (by omega)
 rw [z11]
 conv => lhs; unfold z2Z
 rw [if_neg h1, ← h2]
 simp
set_option maxHeartbeats 1000000 in
theorem z52 : ∀ (k n : Nat), n < 128 ^ (k + 1) → n < 4294967296 → Ct Tryz.prog 238 [lv (.int .i64 (n : Int))] [] (.c (.own 0 1 0 (z11 n).length)) [] [.row (.ints .u8 (z11 n))]
 | k, n, h, h0 => by
   by_cases h1 : n < 128
   · rw [z3Q h1]
     refine z00 Tryz.func238 rfl rfl rfl rfl rfl (fun E hn hb => ?_)
     repeat (refine nst ?_)
     refine z04 rfl (by simp) (fun hc => ?_) (fun hc => ?_)
     · repeat (refine nst ?_)
       refine z1l rfl rfl rfl (by rw [hn]; rfl) (z0j Tryz.underlying28 rfl rfl) (z2p) (by exact vcs) ⟨by decide, rfl⟩ ?_
       repeat (refine nst ?_)
       exact rt1 [72]
     · simp at hc; omega
   · obtain ⟨k, rfl⟩ : ∃ k', k = k' + 1 := by
       cases k with
       | zero => simp at h; omega
       | succ k => exact ⟨k, rfl⟩
     have ih := z52 k (n / 128) (by
       rw [Nat.pow_succ] at h
       exact Nat.div_lt_of_lt_mul (by rw [Nat.mul_comm]; exact h)) (by omega)
     obtain ⟨L, e1, e2⟩ := z67 h1 h0
     have hLl : L.length ≤ 10 := by
       have := z51 (n / 128)
       rw [e1] at this
       simp at this
       omega
     have hx : n / 128 % 128 < 128 := Nat.mod_lt _ (by decide)
     rw [e1] at ih
     rw [e2]
     generalize n / 128 % 128 = x at *
     have el : (L ++ [((x : Nat) : Int)]).length = L.length + 1 := by simp
     rw [el] at ih
     have hq : (n : Int) / 128 = ((n / 128 : Nat) : Int) := by omega
     have hm : (n : Int) % 128 = ((n % 128 : Nat) : Int) := by omega
     refine z00 Tryz.func238 rfl rfl rfl rfl rfl (fun E hn hb => ?_)
     repeat (refine nst ?_)
     refine z04 rfl (by simp) (fun hc => ?_) (fun hc => ?_)
     · simp at hc; omega
     · repeat (refine nst ?_)
       rw [hq]
       have ei : 0 + ((((L.length + 1 : Nat) : Int)) - 1).toNat = L.length := by omega
       have eg : (L ++ [((x : Nat) : Int)]).getD L.length 0 = x := by simp
       have es : (L ++ [((x : Nat) : Int)]).set L.length ((x : Int) + 128) = L ++ [(x : Int) + 128] := by simp
       refine z8M ih rfl rfl rfl (by rw [hn]; rfl) rfl rfl (by exact vcs) rfl rfl rfl ?_
       repeat (refine nst ?_)
       rw [ei, eg]
       repeat (refine nst ?_)
       refine za7 rfl rfl rfl rfl rfl (by exact vcs) rfl (by rw [z6j]) (by first | (simp; done) | (simp; omega) | (simp at *; omega)) ?_
       rw [es]
       repeat (refine nst ?_)
       rw [hm]
       refine z1l rfl rfl rfl (by rw [hn]; rfl) (z0j Tryz.underlying28 rfl rfl) (z2p) (by exact vcs) ⟨by decide, rfl⟩ ?_
       repeat (refine nst ?_)
       have ef : (L ++ [(x : Int) + 128] ++ [((n % 128 : Nat) : Int)]).length = L.length + 1 + 1 := by simp
       have eL : L.length + 1 = (L ++ [(x : Int) + 128]).length := by simp
       rw [eL]
       refine z1U rfl rfl rfl rfl rfl rfl (by rw [hn]; rfl) (z0j Tryz.underlying28 rfl rfl) rfl rfl rfl rfl (by exact vcs) (by first | rfl | (simp; done) | (simp; omega)) ⟨by first | (simp; done) | (simp; omega) | (simp at *; omega), by decide⟩ ?_
       repeat (refine nst ?_)
       exact rt1 [75]
theorem zdX (o : List Int) (hr : z0N o = true) : Ct Tryz.prog 229 [I64 o] [] (B8 (z0p (z0P o))) [] [] := by
 obtain ⟨a, b, t, rfl, ha0, ha2, hb0, hb1, ht, hx, _⟩ := z3c hr
 have h1 := z52 4 (40 * a + b).toNat (by omega) (by omega)
 rw [Int.toNat_of_nonneg (by omega)] at h1
 show Ct Tryz.prog 229 [I64 (a :: b :: t)] [] (B8 (z0p ((40 * a + b) :: t))) [] []
 have e0 : z0p ((40 * a + b) :: t) = z11 (40 * a + b).toNat ++ z0p t := rfl
 rw [e0]
 generalize hA : z11 (40 * a + b).toNat = A at *
 have hAl : A.length ≤ 6 := by rw [← hA]; exact z51 _
 refine z00 Tryz.func229 rfl rfl rfl rfl rfl (fun E hn hb => ?_)
 repeat (refine nst ?_)
 refine z04 rfl (by simp) (fun hc => ?_) (fun hc => ?_)
 · simp at hc; omega
 repeat (refine nst ?_)
 refine z2u 8 (by kernel_rfl) (by kernel_rfl) (by kernel_rfl) (by rw [hn]; rfl) rfl rfl ?_
 repeat (first | refine dp1 ?_ | refine dg1 ?_ | refine z0E ?_)
 repeat (refine nst ?_)
 refine z8M h1 rfl rfl rfl (by rw [hn]; rfl) rfl rfl (by exact vcs) rfl rfl rfl ?_
 repeat (refine nst ?_)
 have hlen : (a :: b :: t).length = t.length + 2 := rfl
 rw [hlen]
 refine z0d (St.le_of (l := [(0, I64 (a :: b :: t)), (3, .c (.own 80 1 0 A.length)), (4, lv (.int .i64 (((0 : Nat) : Int) + 2)))]) (h := [(80, .row (.ints .u8 A))]) (by refine ⟨?_, ?_⟩ <;> (repeat' (first | exact trivial | exact rfl | refine ⟨?_, ?_⟩)) <;> first | exact rfl | (simp; done) | skip)) ?_
 refine z0l (ι := {s : Nat × List Int // s.1 ≤ t.length ∧ s.2 = A ++ z0p (t.take s.1)}) (fun s => St.of [(0, I64 (a :: b :: t)), (3, .c (.own 80 1 0 s.1.2.length)), (4, lv (.int .i64 ((s.1.1 : Int) + 2)))] [(80, .row (.ints .u8 s.1.2))]) (fun s => t.length - s.1.1) (fun s => ?_) ⟨(0, A), by dsimp only; omega, by simp [z0p]⟩
 obtain ⟨⟨i, acc⟩, hi, he⟩ := s
 dsimp only at hi he ⊢
 repeat (refine nst ?_)
 refine z04 rfl (by simp) (fun hc => ?_) (fun hc => ?_)
 · have hi2 : i < t.length := by
     have h3 : (i : Int) + 2 < ((a :: b :: t).length : Int) := by simpa using hc
     rw [hlen] at h3
     omega
   have hal : acc.length ≤ 1000 := by
     have := z5k (t.take i)
     rw [he]
     simp at this ⊢
     omega
   have hxi : t.getD i 0 ∈ t := by rw [List.getD_eq_getElem?_getD, List.getElem?_eq_getElem hi2]; exact List.getElem_mem hi2
   have hxb := hx _ hxi
   have hnext := z8l hi2
   have hd := z52 4 (t.getD i 0).toNat (by omega) (by omega)
   rw [Int.toNat_of_nonneg hxb.1] at hd
   have hl2 := z51 (t.getD i 0).toNat
   have hg : (a :: b :: t).getD (((i : Int) + 2).toNat) 0 = t.getD i 0 := by
     have : ((i : Int) + 2).toNat = i + 2 := by omega
     rw [this]; rfl
   generalize hB : z11 (t.getD i 0).toNat = B at *
   generalize hX : t.getD i 0 = X at *
   repeat (refine nst ?_)
   rw [hg]
   refine z8M hd rfl rfl rfl (by rw [hn]; rfl) rfl rfl (by exact vcs) rfl rfl rfl ?_
   repeat (refine nst ?_)
   refine z1U rfl rfl rfl rfl rfl rfl (by rw [hn]; rfl) (z0j Tryz.underlying28 rfl rfl) rfl rfl rfl rfl (by exact vcs) (by first | rfl | (simp; done) | (simp; omega)) ⟨by first | (simp; done) | (simp; omega) | (simp at *; omega), by decide⟩ ?_
   repeat (refine nst ?_)
   have e2 : (i : Int) + 2 + 1 = ((i + 1 : Nat) : Int) + 2 := by omega
   rw [e2]
   rw [List.take_length]
   (refine z0a ?i1 ?i2 ?i3; (case i1 => exact ⟨(i + 1, acc ++ B), by dsimp only; omega, by dsimp only; rw [hnext, he, List.append_assoc]⟩); (case i2 => (dsimp only; omega)); (case i3 => refine St.le_of ⟨?_, ?_⟩ <;> (repeat' (first | exact trivial | exact rfl | refine ⟨?_, ?_⟩)) <;> first | exact rfl | (simp; done) | skip))
 · have hi2 : i = t.length := by
     have h3 : ¬ (i : Int) + 2 < ((a :: b :: t).length : Int) := by simpa using hc
     rw [hlen] at h3
     omega
   subst hi2
   rw [List.take_length] at he
   subst he
   generalize A ++ z0p t = X at *
   repeat (refine nst ?_)
   refine zau 80 [(2, B8 X)] rfl hb ⟨⟨rfl, rfl, rfl, by simp, by simp⟩, rfl⟩ ?_
   exact rt1 []

abbrev ExT : Type := List Int × Bool × List Int
theorem zbm (l : List Int) (hl : l.length ≤ 16000000) : Ct Tryz.prog 135 [I64 l] [] (.c (.own 0 1 0 l.length)) [] [.row (.ints .i64 l)] := by
 refine z00 Tryz.func135 rfl rfl rfl rfl rfl (fun E hn hb => ?_)
 repeat (refine nst ?_)
 refine z6E (neg := false) rfl rfl (by rw [hn]; rfl) Tryz.underlying22 rfl (by simp) (by simp [szD]) (fun b hbl => ?_)
 simp [z0c] at hbl
 repeat (refine nst ?_)
 refine z04 rfl (by simp) (fun hc => ?_) (fun hc => ?_)
 · have := hbl hc
   subst this
   repeat (refine nst ?_)
   refine z5g 2 64 1 (.ints .i64 []) rfl rfl (.inr (.inl ⟨_, rfl⟩)) ?_
   exact z7U [64] rfl trivial ⟨rfl, trivial, rfl, rfl⟩ hb rfl trivial
 · repeat (refine nst ?_)
   refine z1l rfl rfl rfl (by rw [hn]; rfl) (z0j Tryz.underlying22 rfl rfl) (zm3) (by exact vcs) ⟨by decide, rfl⟩ ?_
   repeat (refine nst ?_)
   refine z1U rfl rfl rfl rfl rfl rfl (by rw [hn]; rfl) (z0j Tryz.underlying22 rfl rfl) rfl rfl rfl rfl (by exact vcs) (by first | rfl | (simp; done) | (simp; omega)) ⟨by first | (simp; done) | (simp; omega) | (simp at *; omega), by decide⟩ ?_
   repeat (refine nst ?_)
   exact z7U [69] rfl trivial ⟨rfl, trivial, rfl, rfl⟩ hb rfl trivial
theorem z8m (l : List Int) (hl : l.length ≤ 16000000) : Ct Tryz.prog 135 [I64 l] [] (I64 l) [] [] :=
 (zbm l hl).freeze ⟨rfl, rfl, rfl, by simp, by simp⟩ rfl

theorem z7q {α : Type} [Inhabited α] (p : α → Bool) (l : List α) (i : Nat) (h : i < l.length) : (l.take (i + 1)).filter p = (l.take i).filter p ++ (if p (l.getD i default) = true then [l.getD i default] else []) := by
 rw [List.take_add_one, List.filter_append, List.getD_eq_getElem?_getD, List.getElem?_eq_getElem h]
 simp only [Option.toList_some, Option.getD_some, List.filter_cons, List.filter_nil]
end Go.Proofs.YtaagjnlkinojcaaGreat

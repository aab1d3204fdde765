/-
  Chapter 17: the next extension at a cursor. The conditions: rows of at most a million bytes.
-/
import Derived.Test.YtaagjnlkinojcaaGreatO6
import Derived.Test.YtaagjnlkinojcaaGreatO3
import Derived.Test.YtaagjnlkinojcaaGreatC4
import Derived.Test.YtaagjnlkinojcaaGreatW16
import Derived.Test.YtaagjnlkinojcaaGreatTy
import Derived.Test.YtaagjnlkinojcaaGreatC12
import Derived.Test.YtaagjnlkinojcaaGreatC8
namespace Go.Proofs.YtaagjnlkinojcaaGreat
set_option linter.unusedSimpArgs false
set_option linter.unusedVariables false
open Go.Sx
set_option maxRecDepth 10000
def z0E (l : List Int) : List Int := l.flatMap fun x => z1A x.toNat
def z17 : List Int → List Int
 | a :: b :: t => (40 * a + b) :: t
 | _ => []
def z7z (o : List Int) : Av := if z0S o then .tup [B8 (z0E (z17 o)), lv (.int .i64 0)] else .tup [B8 [], lv (.int .i64 1)]
theorem z5q : ∀ l : List Int, (z0E l).length ≤ 6 * l.length
 | [] => by simp [z0E]
 | x :: l => by
   have := z5q l
   have := z55 x.toNat
   simp [z0E] at *
   omega
theorem z8S {l : List Int} {i : Nat} (h : i < l.length) : z0E (l.take (i + 1)) = z0E (l.take i) ++ z1A (l.getD i 0).toNat := by
 rw [List.take_add_one, List.getElem?_eq_getElem h, List.getD_eq_getElem?_getD, List.getElem?_eq_getElem h]
 simp only [z0E, List.flatMap_append, Option.toList_some, List.flatMap_singleton, Option.getD_some]
theorem z40 {o : List Int} (h : z0S o = true) : ∃ a b t, o = a :: b :: t ∧ 0 ≤ a ∧ a ≤ 2 ∧ 0 ≤ b ∧ b ≤ 2147483567 ∧ t.length ≤ 30 ∧ (∀ x ∈ t, 0 ≤ x ∧ x ≤ 2147483647) ∧ (a < 2 → b < 40) := by
 match o, h with
 | a :: b :: t, h =>
 rw [z1n] at h
 by_cases h30 : 30 < t.length
 · rw [if_pos h30] at h; cases h
 rw [if_neg h30] at h
 by_cases ha : (a :: b :: t).all inR = false
 · rw [if_pos ha] at h; cases h
 rw [if_neg ha] at h
 have ha : ∀ x ∈ a :: b :: t, inR x = true := List.all_eq_true.1 (by simpa using ha)
 have hx : ∀ x ∈ a :: b :: t, 0 ≤ x ∧ x ≤ 2147483647 := fun x hx => by
   have := ha x hx
   simp [inR] at this
   exact this
 have h1 := hx a (by simp)
 have h2 := hx b (by simp)
 refine ⟨a, b, t, rfl, h1.1, ?_, h2.1, ?_, by omega, fun x hm => hx x (by simp [hm]), ?_⟩
 · by_cases e : a = 0 ∨ a = 1
   · omega
   · rw [if_neg e] at h
     by_cases e2 : a = 2
     · omega
     · rw [if_neg e2] at h; cases h
 · by_cases e : a = 0 ∨ a = 1
   · rw [if_pos e] at h; simp at h; omega
   · rw [if_neg e] at h
     by_cases e2 : a = 2
     · rw [if_pos e2] at h; simpa using h
     · rw [if_neg e2] at h; cases h
 · intro h3
   rw [if_pos (by omega)] at h
   simpa using h
theorem zgo (o : List Int) (hl : o.length ≤ 1000000) : Ct Tryz.prog 236 [I64 o] [] (z7z o) [] [] := by
 by_cases hr : z0S o = true
 · obtain ⟨a, b, t, rfl, ha0, ha2, hb0, hb1, ht, hx, _⟩ := z40 hr
   have hR : z7z (a :: b :: t) = .tup [B8 (z0E ((40 * a + b) :: t)), lv (.int .i64 0)] := by rw [z7z, if_pos hr]; rfl
   rw [hR]
   have h1 := z9R (a :: b :: t) hl
   rw [hr] at h1
   have h2 := zd8 a b t ⟨ha0, ha2⟩ ⟨hb0, by omega⟩ (by omega)
   obtain ⟨N, hN⟩ : ∃ N, (40 * a + b) :: t = N := ⟨_, rfl⟩
   have hNl : N.length ≤ 31 := by rw [← hN]; simp; omega
   have hNx : ∀ x ∈ N, 0 ≤ x ∧ x ≤ 2147483647 := by
     rw [← hN]
     intro x hm
     rcases List.mem_cons.1 hm with rfl | hm
     · omega
     · exact hx x hm
   rw [hN] at h2 ⊢
   refine z00 Tryz.func236 rfl rfl rfl rfl rfl (fun E hn hb => ?_)
   repeat (refine nst ?_)
   refine z18 h1 rfl rfl rfl (by rw [hn]; rfl) rfl rfl (by exact vcs) rfl rfl rfl ?_
   repeat (refine nst ?_)
   refine z05 rfl (by simp) (fun hc => ?_) (fun hc => ?_)
   · simp at hc
   repeat (refine nst ?_)
   refine z0u rfl rfl rfl (by rw [hn]; rfl) rfl zal ?_
   repeat (refine nst ?_)
   refine zgM (fun a w h => SR.cell_nil (cs := [.lf (.v (.slice none 0 0))]) (cs' := [.own 900 1 0 0]) 68 0 900 rfl rfl rfl rfl rfl h) ?_
   refine z18 h2 rfl rfl rfl (by rw [hn]; rfl) rfl rfl (by exact vcs) rfl rfl rfl ?_
   repeat (refine nst ?_)
   refine z0a (St.le_of (l := [(4, .c (.ptr 68 0)), (5, .c (.fn (.func 242) [] [.ptr 68 0])), (13, I64 N), (14, lv (.int .i64 (N.length : Int))), (15, lv (.int .i64 ((0 : Nat) : Int)))]) (h := [(68, .cells [.own 900 1 0 ([] : List Int).length]), (900, .row (.ints .u8 []))]) (by refine ⟨?_, ?_⟩ <;> (repeat' (first | exact trivial | exact rfl | refine ⟨?_, ?_⟩)) <;> first | exact rfl | (simp; done) | skip)) ?_
   refine z0j (ι := {s : Nat × List Int // s.1 ≤ N.length ∧ s.2 = z0E (N.take s.1)}) (fun s => St.of [(4, .c (.ptr 68 0)), (5, .c (.fn (.func 242) [] [.ptr 68 0])), (13, I64 N), (14, lv (.int .i64 (N.length : Int))), (15, lv (.int .i64 (s.1.1 : Int)))] [(68, .cells [.own 900 1 0 s.1.2.length]), (900, .row (.ints .u8 s.1.2))]) (fun s => N.length - s.1.1) (fun s => ?_) ⟨(0, []), by dsimp only; omega, rfl⟩
   obtain ⟨⟨i, acc⟩, hi, he⟩ := s
   dsimp only at hi he ⊢
   repeat (refine nst ?_)
   refine z05 rfl (by simp) (fun hc => ?_) (fun hc => ?_)
   · have hi2 : i < N.length := by simpa using hc
     have hal : acc.length ≤ 1000 := by
       have := z5q (N.take i)
       rw [he]
       simp at this
       omega
     have hxi : N.getD i 0 ∈ N := by rw [List.getD_eq_getElem?_getD, List.getElem?_eq_getElem hi2]; exact List.getElem_mem hi2
     have hxb := hNx _ hxi
     have hnext := z8S hi2
     rw [← he] at hnext
     generalize hX : N.getD i 0 = X at *
     obtain ⟨x, rfl⟩ : ∃ x : Nat, X = x := ⟨X.toNat, by omega⟩
     rw [Int.toNat_natCast] at hnext
     have hput := zlA acc x (by omega) (by omega)
     have e8 : acc.length + (z1A x).length = (acc ++ z1A x).length := by simp
     rw [e8] at hput
     repeat (refine nst ?_)
     rw [show N.getD (Int.toNat (i : Int)) 0 = (x : Int) from hX]
     repeat (refine nst ?_)
     refine z9h [68, 900] hput rfl rfl (by rw [hn]; rfl) rfl rfl (by trivial) ⟨rfl, ⟨rfl, rfl⟩, (by simp [z0i]), rfl⟩ ?_
     repeat (refine nst ?_)
     refine z54 (fun a w h => SR.mv 85 900 rfl rfl rfl rfl rfl h) ?_
     refine z06 ⟨(i + 1, acc ++ z1A x), by dsimp only; omega, hnext.symm⟩ (by dsimp only; omega) (St.le_of ⟨⟨rfl, rfl, rfl, rfl, rfl⟩, ⟨rfl, rfl⟩⟩)
   · have hi2 : i = N.length := by simp at hc; omega
     subst hi2
     rw [List.take_length] at he
     subst he
     repeat (refine nst ?_)
     refine zb3 900 [(2, B8 (z0E N))] rfl hb ⟨⟨rfl, rfl, rfl, by simp, by simp⟩, rfl⟩ ?_
     exact rt1 []
 · have hr' : z0S o = false := by simpa using hr
   have hR : z7z o = .tup [B8 [], lv (.int .i64 1)] := by rw [z7z, if_neg hr]
   rw [hR]
   have h1 := z9R o hl
   rw [hr'] at h1
   refine z00 Tryz.func236 rfl rfl rfl rfl rfl (fun E hn hb => ?_)
   repeat (refine nst ?_)
   refine z18 h1 rfl rfl rfl (by rw [hn]; rfl) rfl rfl (by exact vcs) rfl rfl rfl ?_
   repeat (refine nst ?_)
   refine z05 rfl (by simp) (fun hc => ?_) (fun hc => ?_)
   · repeat (refine nst ?_)
     refine z5K [] rfl (by simp) (r' := .tup [B8 [], lv (.int .i64 1)]) ⟨.inr ⟨rfl, .inl ⟨_, rfl⟩⟩, .inl rfl, trivial⟩ ⟨rfl, trivial, trivial, rfl⟩ hb rfl trivial
   · simp at hc

theorem z7J (o : List Int) (hl : o.length ≤ 1000000) : Ct Tryz.prog 212 [I64 o] [] (lv (.bool (z0S o))) [] [] := by
 obtain ⟨R, hR⟩ : ∃ R, z0S o = R := ⟨_, rfl⟩
 rw [hR]
 refine z00 Tryz.func212 rfl rfl rfl rfl rfl (fun E hn hb => ?_)
 repeat (refine nst ?_)
 refine z05 rfl (by simp) (fun hc => ?_) (fun hc => ?_)
 · have : R = false := by
     rw [← hR]
     simp at hc
     match o, hc with
     | [], _ => rfl
     | [_], _ => rfl
     | a :: b :: t, hc => simp at hc; rw [z1n, if_pos (by omega)]
   subst this
   repeat (refine nst ?_)
   exact rt1 []
 · have hlen : 2 ≤ o.length ∧ o.length ≤ 32 := by simp at hc; omega
   repeat (refine nst ?_)
   refine z0a (St.le_of (l := [(0, I64 o), (3, lv (.int .i64 ((0 : Nat) : Int)))]) (h := []) (by refine ⟨?_, ?_⟩ <;> (repeat' (first | exact trivial | exact rfl | refine ⟨?_, ?_⟩)) <;> first | exact rfl | (simp; done) | skip)) ?_
   refine z0j (ι := {i : Nat // i ≤ o.length ∧ (o.take i).all inR = true}) (fun i => St.of [(0, I64 o), (3, lv (.int .i64 (i.1 : Int)))] []) (fun i => o.length - i.1) (fun i => ?_) ⟨0, by omega, by simp⟩
   obtain ⟨i, hi, ha⟩ := i
   dsimp only
   repeat (refine nst ?_)
   refine z05 rfl (by simp) (fun hc => ?_) (fun hc => ?_)
   · have hi2 : i < o.length := by simpa using hc
     repeat (refine nst ?_)
     refine z05 rfl (by simp) (fun h2 => ?_) (fun h2 => ?_)
     · have : R = false := by
         rw [← hR]
         have hg := zcq hi2 (by simp [Bool.cond_eq_ite] at h2; simp only [inR, Bool.not_eq_false', Bool.or_eq_true, decide_eq_true_eq]; rw [List.getD_eq_getElem?_getD]; omega)
         match o, hlen, hg with
         | a :: b :: t, hlen, hg => rw [z1n, hg]; simp
       subst this
       repeat (refine nst ?_)
       exact rt1 []
     · repeat (refine nst ?_)
       (refine z06 ?i1 ?i2 ?i3; (case i1 => exact ⟨i + 1, by omega, zbg hi2 ha (by simp [Bool.cond_eq_ite] at h2; simp only [inR, Bool.not_eq_true', Bool.or_eq_false_iff, decide_eq_false_iff_not]; rw [List.getD_eq_getElem?_getD]; omega)⟩); (case i2 => (dsimp only; omega)); (case i3 => refine St.le_of ⟨?_, ?_⟩ <;> (repeat' (first | exact trivial | exact rfl | refine ⟨?_, ?_⟩)) <;> first | exact rfl | (simp; done) | skip))
   · have : i = o.length := by simp at hc; omega
     subst this
     rw [List.take_length] at ha
     clear hi
     match o, hlen, ha, hR with
     | a :: b :: t, hlen, ha, hR =>
     have h30 : ¬ 30 < t.length := by simp at hlen; omega
     have ha0 : 0 ≤ a := by
       have := List.all_eq_true.1 ha a (by simp)
       simp [inR] at this
       exact this.1
     rw [z1n, if_neg h30, ha, if_neg (by simp)] at hR
     repeat (refine nst ?_)
     refine rt2 [] ?_ ?_
     · refine congrArg (fun x => lv (.bool x)) (?_ : (bif bif decide (a < 2) then decide (b < 40) else false then true else bif a == 2 then decide (b ≤ 2147483567) else false) = R)
       rw [← hR]
       by_cases h0 : a = 0 ∨ a = 1
       · have h1 : a < 2 := by omega
         have h2 : (a == 2) = false := by simp; omega
         rw [if_pos h0, h2]
         simp [h1]
       · have h1 : ¬ a < 2 := by omega
         rw [if_neg h0]
         by_cases h2 : a = 2
         · simp [h2]
         · simp [h1, h2]
     · trivial
theorem zdC (a b : List Int) (ha : a.length ≤ 1000000) (hb' : b.length ≤ 1000000) : Ct Tryz.prog 140 [I64 a, I64 b] [] (lv (.bool (decide (a = b)))) [] [] := by
 refine z00 Tryz.func140 rfl rfl rfl rfl rfl (fun E hn hb => ?_)
 repeat (refine nst ?_)
 refine z18 (ze1 a b ha hb') rfl rfl rfl (by rw [hn]; rfl) rfl rfl (by exact vcs) rfl rfl rfl ?_
 repeat (refine nst ?_)
 refine rt2 [] ?_ ?_
 · refine congrArg (fun x => lv (.bool x)) (?_ : (z0D a b == 0) = decide (a = b))
   rw [Bool.eq_iff_iff]
   simp [z9v]
 · trivial
theorem z6h {n : Nat} (h : n < 128) : z1A n = [(n : Int)] := by
 have h1 : n / 128 = 0 := Nat.div_eq_of_lt h
 have h2 : n % 128 = n := Nat.mod_eq_of_lt h
 rw [z1A, h1, h2]
 rfl
theorem z9Y : ∀ (k n : Nat), n < 128 ^ k → z3S (k + 1) n = z3S k n
 | 0, n, h => by
   have : n = 0 := by simpa using h
   subst this
   rfl
 | k + 1, n, h => by
   have h1 : n / 128 < 128 ^ k := by
     rw [Nat.pow_succ] at h
     exact Nat.div_lt_of_lt_mul (by rw [Nat.mul_comm]; exact h)
   have := z9Y k (n / 128) h1
   unfold z3S
   split
   · rfl
   · rw [this]
theorem zbq {n : Nat} (h : ¬ n < 128) (h0 : n < 4294967296) : ∃ L, z1A (n / 128) = L ++ [((n / 128 % 128 : Nat) : Int)] ∧ z1A n = (L ++ [((n / 128 % 128 : Nat) : Int) + 128]) ++ [((n % 128 : Nat) : Int)] := by
 refine ⟨(z3S 5 (n / 128 / 128)).reverse, by simp [z1A], ?_⟩
 have h1 : n / 128 ≠ 0 := by omega
 have h2 := z9Y 4 (n / 128 / 128) (by omega)
 rw [z1A]
 conv => lhs; unfold z3S
 rw [if_neg h1, ← h2]
 simp
set_option maxHeartbeats 1000000 in
theorem z5g : ∀ (k n : Nat), n < 128 ^ (k + 1) → n < 4294967296 → Ct Tryz.prog 238 [lv (.int .i64 (n : Int))] [] (.c (.own 0 1 0 (z1A n).length)) [] [.row (.ints .u8 (z1A n))]
 | k, n, h, h0 => by
   by_cases h1 : n < 128
   · rw [z6h h1]
     refine z00 Tryz.func238 rfl rfl rfl rfl rfl (fun E hn hb => ?_)
     repeat (refine nst ?_)
     refine z05 rfl (by simp) (fun hc => ?_) (fun hc => ?_)
     · repeat (refine nst ?_)
       refine z1v rfl rfl rfl (by rw [hn]; rfl) (z0k Tryz.underlying28 rfl rfl) (z2C) (by exact vcs) ⟨by decide, rfl⟩ ?_
       repeat (refine nst ?_)
       exact rt1 [72]
     · simp at hc; omega
   · obtain ⟨k, rfl⟩ : ∃ k', k = k' + 1 := by
       cases k with
       | zero => simp at h; omega
       | succ k => exact ⟨k, rfl⟩
     have ih := z5g k (n / 128) (by
       rw [Nat.pow_succ] at h
       exact Nat.div_lt_of_lt_mul (by rw [Nat.mul_comm]; exact h)) (by omega)
     obtain ⟨L, e1, e2⟩ := zbq h1 h0
     have hLl : L.length ≤ 10 := by
       have := z55 (n / 128)
       rw [e1] at this
       simp at this
       omega
     have hx : n / 128 % 128 < 128 := Nat.mod_lt _ (by decide)
     rw [e1] at ih
     rw [e2]
     generalize n / 128 % 128 = x at *
     have el : (L ++ [((x : Nat) : Int)]).length = L.length + 1 := by simp
     rw [el] at ih
     have hq : (n : Int) / 128 = ((n / 128 : Nat) : Int) := by omega
     have hm : (n : Int) % 128 = ((n % 128 : Nat) : Int) := by omega
     refine z00 Tryz.func238 rfl rfl rfl rfl rfl (fun E hn hb => ?_)
     repeat (refine nst ?_)
     refine z05 rfl (by simp) (fun hc => ?_) (fun hc => ?_)
     · simp at hc; omega
     · repeat (refine nst ?_)
       rw [hq]
       have ei : 0 + ((((L.length + 1 : Nat) : Int)) - 1).toNat = L.length := by omega
       have eg : (L ++ [((x : Nat) : Int)]).getD L.length 0 = x := by simp
       have es : (L ++ [((x : Nat) : Int)]).set L.length ((x : Int) + 128) = L ++ [(x : Int) + 128] := by simp
       refine z9g ih rfl rfl rfl (by rw [hn]; rfl) rfl rfl (by exact vcs) rfl rfl rfl ?_
       repeat (refine nst ?_)
       rw [ei, eg]
       repeat (refine nst ?_)
       refine zaG rfl rfl rfl rfl rfl (by exact vcs) rfl (by rw [z6s]) (by first | (simp; done) | (simp; omega) | (simp at *; omega)) ?_
       rw [es]
       repeat (refine nst ?_)
       rw [hm]
       refine z1v rfl rfl rfl (by rw [hn]; rfl) (z0k Tryz.underlying28 rfl rfl) (z2C) (by exact vcs) ⟨by decide, rfl⟩ ?_
       repeat (refine nst ?_)
       have ef : (L ++ [(x : Int) + 128] ++ [((n % 128 : Nat) : Int)]).length = L.length + 1 + 1 := by simp
       have eL : L.length + 1 = (L ++ [(x : Int) + 128]).length := by simp
       rw [eL]
       refine z2e rfl rfl rfl rfl rfl rfl (by rw [hn]; rfl) (z0k Tryz.underlying28 rfl rfl) rfl rfl rfl rfl (by exact vcs) (by first | rfl | (simp; done) | (simp; omega)) ⟨by first | (simp; done) | (simp; omega) | (simp at *; omega), by decide⟩ ?_
       repeat (refine nst ?_)
       exact rt1 [75]
theorem zeS (o : List Int) (hr : z0S o = true) : Ct Tryz.prog 229 [I64 o] [] (B8 (z0E (z17 o))) [] [] := by
 obtain ⟨a, b, t, rfl, ha0, ha2, hb0, hb1, ht, hx, _⟩ := z40 hr
 have h1 := z5g 4 (40 * a + b).toNat (by omega) (by omega)
 rw [Int.toNat_of_nonneg (by omega)] at h1
 show Ct Tryz.prog 229 [I64 (a :: b :: t)] [] (B8 (z0E ((40 * a + b) :: t))) [] []
 have e0 : z0E ((40 * a + b) :: t) = z1A (40 * a + b).toNat ++ z0E t := rfl
 rw [e0]
 generalize hA : z1A (40 * a + b).toNat = A at *
 have hAl : A.length ≤ 6 := by rw [← hA]; exact z55 _
 refine z00 Tryz.func229 rfl rfl rfl rfl rfl (fun E hn hb => ?_)
 repeat (refine nst ?_)
 refine z05 rfl (by simp) (fun hc => ?_) (fun hc => ?_)
 · simp at hc; omega
 repeat (refine nst ?_)
 refine z2F 8 (by kernel_rfl) (by kernel_rfl) (by kernel_rfl) (by rw [hn]; rfl) rfl rfl ?_
 repeat (first | refine dp1 ?_ | refine dg1 ?_ | refine z0B ?_)
 repeat (refine nst ?_)
 refine z9g h1 rfl rfl rfl (by rw [hn]; rfl) rfl rfl (by exact vcs) rfl rfl rfl ?_
 repeat (refine nst ?_)
 have hlen : (a :: b :: t).length = t.length + 2 := rfl
 rw [hlen]
 refine z0a (St.le_of (l := [(0, I64 (a :: b :: t)), (3, .c (.own 80 1 0 A.length)), (4, lv (.int .i64 (((0 : Nat) : Int) + 2)))]) (h := [(80, .row (.ints .u8 A))]) (by refine ⟨?_, ?_⟩ <;> (repeat' (first | exact trivial | exact rfl | refine ⟨?_, ?_⟩)) <;> first | exact rfl | (simp; done) | skip)) ?_
 refine z0j (ι := {s : Nat × List Int // s.1 ≤ t.length ∧ s.2 = A ++ z0E (t.take s.1)}) (fun s => St.of [(0, I64 (a :: b :: t)), (3, .c (.own 80 1 0 s.1.2.length)), (4, lv (.int .i64 ((s.1.1 : Int) + 2)))] [(80, .row (.ints .u8 s.1.2))]) (fun s => t.length - s.1.1) (fun s => ?_) ⟨(0, A), by dsimp only; omega, by simp [z0E]⟩
 obtain ⟨⟨i, acc⟩, hi, he⟩ := s
 dsimp only at hi he ⊢
 repeat (refine nst ?_)
 refine z05 rfl (by simp) (fun hc => ?_) (fun hc => ?_)
 · have hi2 : i < t.length := by
     have h3 : (i : Int) + 2 < ((a :: b :: t).length : Int) := by simpa using hc
     rw [hlen] at h3
     omega
   have hal : acc.length ≤ 1000 := by
     have := z5q (t.take i)
     rw [he]
     simp at this ⊢
     omega
   have hxi : t.getD i 0 ∈ t := by rw [List.getD_eq_getElem?_getD, List.getElem?_eq_getElem hi2]; exact List.getElem_mem hi2
   have hxb := hx _ hxi
   have hnext := z8S hi2
   have hd := z5g 4 (t.getD i 0).toNat (by omega) (by omega)
   rw [Int.toNat_of_nonneg hxb.1] at hd
   have hl2 := z55 (t.getD i 0).toNat
   have hg : (a :: b :: t).getD (((i : Int) + 2).toNat) 0 = t.getD i 0 := by
     have : ((i : Int) + 2).toNat = i + 2 := by omega
     rw [this]; rfl
   generalize hB : z1A (t.getD i 0).toNat = B at *
   generalize hX : t.getD i 0 = X at *
   repeat (refine nst ?_)
   rw [hg]
   refine z9g hd rfl rfl rfl (by rw [hn]; rfl) rfl rfl (by exact vcs) rfl rfl rfl ?_
   repeat (refine nst ?_)
   refine z2e rfl rfl rfl rfl rfl rfl (by rw [hn]; rfl) (z0k Tryz.underlying28 rfl rfl) rfl rfl rfl rfl (by exact vcs) (by first | rfl | (simp; done) | (simp; omega)) ⟨by first | (simp; done) | (simp; omega) | (simp at *; omega), by decide⟩ ?_
   repeat (refine nst ?_)
   have e2 : (i : Int) + 2 + 1 = ((i + 1 : Nat) : Int) + 2 := by omega
   rw [e2]
   rw [List.take_length]
   (refine z06 ?i1 ?i2 ?i3; (case i1 => exact ⟨(i + 1, acc ++ B), by dsimp only; omega, by dsimp only; rw [hnext, he, List.append_assoc]⟩); (case i2 => (dsimp only; omega)); (case i3 => refine St.le_of ⟨?_, ?_⟩ <;> (repeat' (first | exact trivial | exact rfl | refine ⟨?_, ?_⟩)) <;> first | exact rfl | (simp; done) | skip))
 · have hi2 : i = t.length := by
     have h3 : ¬ (i : Int) + 2 < ((a :: b :: t).length : Int) := by simpa using hc
     rw [hlen] at h3
     omega
   subst hi2
   rw [List.take_length] at he
   subst he
   generalize A ++ z0E t = X at *
   repeat (refine nst ?_)
   refine zb3 80 [(2, B8 X)] rfl hb ⟨⟨rfl, rfl, rfl, by simp, by simp⟩, rfl⟩ ?_
   exact rt1 []

abbrev ExT : Type := List Int × Bool × List Int

theorem z7K {α : Type} [Inhabited α] (p : α → Bool) (l : List α) (i : Nat) (h : i < l.length) : (l.take (i + 1)).filter p = (l.take i).filter p ++ (if p (l.getD i default) = true then [l.getD i default] else []) := by
 rw [List.take_add_one, List.filter_append, List.getD_eq_getElem?_getD, List.getElem?_eq_getElem h]
 simp only [Option.toList_some, Option.getD_some, List.filter_cons, List.filter_nil]

def zdD (l : List ExT) (o : List Int) : List ExT := l.filter fun e => !decide (e.1 = o)
structure DelI (l : List ExT) (o : List Int) (cur : List ExT) (i j : Nat) : Prop where
 le : i ≤ j
 jl : j ≤ l.length
 len : cur.length = l.length
 front : cur.take i = zdD (l.take j) o
 back : cur.drop j = l.drop j
theorem DelI.get {l cur : List ExT} {o : List Int} {i j : Nat} (h : DelI l o cur i j) (hj : j < l.length) : cur.getD j default = l.getD j default := by
 have h1 := congrArg (fun x => x.getD 0 default) h.back
 simpa [List.getD_eq_getElem?_getD, List.getElem?_drop] using h1
theorem DelI.skip {l cur : List ExT} {o : List Int} {i j : Nat} (h : DelI l o cur i j) (hj : j < l.length) (he : (l.getD j default).1 = o) : DelI l o cur i (j + 1) := by
 refine ⟨by have := h.le; omega, by omega, h.len, ?_, ?_⟩
 · rw [h.front]
   have := z7K (fun e : ExT => !decide (e.1 = o)) l j hj
   rw [if_neg (by rw [decide_eq_true he]; simp), List.append_nil] at this
   exact this.symm
 · have := congrArg (List.drop 1) h.back
   rwa [List.drop_drop, List.drop_drop] at this
theorem DelI.keep {l cur : List ExT} {o : List Int} {i j : Nat} (h : DelI l o cur i j) (hj : j < l.length) (he : ¬ (l.getD j default).1 = o) : DelI l o (cur.set i (l.getD j default)) (i + 1) (j + 1) := by
 have hle := h.le
 have hlen := h.len
 refine ⟨by omega, by omega, by simpa using hlen, ?_, ?_⟩
 · have := z7K (fun e : ExT => !decide (e.1 = o)) l j hj
   rw [if_pos (by rw [decide_eq_false he]; rfl)] at this
   unfold zdD
   rw [this]
   have h2 := h.front
   unfold zdD at h2
   rw [← h2, List.take_add_one, List.getElem?_set_self (by omega), List.take_set_of_le (Nat.le_refl i)]
   rfl
 · rw [List.drop_set_of_lt (by omega)]
   have := congrArg (List.drop 1) h.back
   rwa [List.drop_drop, List.drop_drop] at this

def isH (l : List Int) (p : Nat) (t : z0m) : Bool := decide ((z09 l p).2.2 = 0) && decide ((z09 l p).1.1 = t)
end Go.Proofs.YtaagjnlkinojcaaGreat

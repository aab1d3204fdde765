/-
  Chapter 02: a whole. The conditions: right tags, at most a million bytes of contents.
-/
import Derived.Test.YtaagjnlkinojcaaGreatC12
namespace Go.Proofs.YtaagjnlkinojcaaGreat
set_option linter.unusedSimpArgs false
set_option linter.unusedVariables false
open Go.Sx
set_option maxRecDepth 10000
def z0r (m : Nat) : Nat → Nat → List Int
 | 0, _ => []
 | k + 1, n => if n = 0 then [] else ((n % m : Nat) : Int) :: z0r m k (n / m)
theorem z1Z (m : Nat) : ∀ (k n : Nat), (z0r m k n).length ≤ k
 | 0, n => by simp [z0r]
 | k + 1, n => by
   have := z1Z m k (n / m)
   unfold z0r
   split <;> simp <;> omega
theorem zc1 (m : Nat) (h0 : 0 < m) (hm : m ≤ 256) : ∀ (k n : Nat), WfB (z0r m k n)
 | 0, n => fun x h => by simp [z0r] at h
 | k + 1, n => by
   have ih := zc1 m h0 hm k (n / m)
   have := Nat.mod_lt n h0
   unfold z0r
   split
   · exact fun x h => by simp at h
   · intro x hx
     cases hx with
     | head => omega
     | tail _ hx => exact ih x hx
structure DS where
 n : Nat
 k : Nat
 acc : List Int
theorem zcK (n : Nat) (hn1 : n ≤ 100000000) :
   Ct Tryz.prog 218 [lv (.int .i64 (n : Int)), lv (.int .i64 7)] [] (.c (.own 0 1 0 (z0r 128 5 n).length)) [] [.row (.ints .u8 (z0r 128 5 n).reverse)] := by
 obtain ⟨D, hD⟩ : ∃ D, z0r 128 5 n = D := ⟨_, rfl⟩
 have hDl : D.length ≤ 5 := by rw [← hD]; exact z1Z _ _ _
 rw [hD]
 refine z00 Tryz.func218 rfl rfl rfl rfl rfl (fun E hn hb => ?_)
 repeat (refine nst ?_)
 refine z16 rfl rfl rfl (by rw [hn]; rfl) rfl (by exact vcs) rfl rfl ?_
 repeat (refine nst ?_)
 refine z16 rfl rfl rfl (by rw [hn]; rfl) rfl (by exact vcs) rfl rfl ?_
 repeat (refine nst ?_)
 refine z0u rfl rfl rfl (by rw [hn]; rfl) rfl zal ?_
 repeat (refine nst ?_)
 refine zfx (fun a w h => SR.cell_nil (cs := [.lf (.v (.slice none 0 0))]) (cs' := [.own 900 1 0 0]) 69 0 900 rfl rfl rfl rfl rfl h) ?_
 refine z0a (St.le_of (l := [(2, .c (.ptr 66 0)), (3, .c (.ptr 67 0)), (5, .c (.ptr 69 0)), (6, .c (.fn (.func 231) [] [.ptr 69 0, .ptr 66 0, .ptr 67 0]))]) (h := [(66, iB (n : Int)), (67, iB 7), (69, .cells [.own 900 1 0 ([] : List Int).length]), (900, .row (.ints .u8 []))]) (by refine ⟨?_, ?_⟩ <;> (repeat' (first | exact trivial | exact rfl | refine ⟨?_, ?_⟩)) <;> first | exact rfl | (simp; done) | skip)) ?_
 refine z0j (ι := {s : DS // s.acc ++ z0r 128 s.k s.n = D ∧ s.n ≤ 100000000 ∧ s.n < 128 ^ s.k ∧ s.acc.length ≤ 5}) (fun s => St.of [(2, .c (.ptr 66 0)), (3, .c (.ptr 67 0)), (5, .c (.ptr 69 0)), (6, .c (.fn (.func 231) [] [.ptr 69 0, .ptr 66 0, .ptr 67 0]))] [(66, iB (s.1.n : Int)), (67, iB 7), (69, .cells [.own 900 1 0 s.1.acc.length]), (900, .row (.ints .u8 s.1.acc))]) (fun s => s.1.k) (fun s => ?_) ⟨⟨n, 5, []⟩, hD, hn1, by dsimp only; omega, by simp⟩
 obtain ⟨⟨n, k, acc⟩, h1, h2, h3, h4⟩ := s
 dsimp only at h1 h2 h3 h4 ⊢
 clear hn1 hD
 repeat (refine nst ?_)
 refine z05 rfl (by simp) (fun hc => ?_) (fun hc => ?_)
 · have hnp : 0 < n := by simpa using hc
   obtain ⟨k, rfl⟩ : ∃ k', k = k' + 1 := by
     cases k with
     | zero => simp at h3; omega
     | succ k => exact ⟨k, rfl⟩
   have hcl := ze8 acc (n : Int) (by omega) (by omega)
   have e1 : ((n : Int) % 128) = ((n % 128 : Nat) : Int) := by omega
   rw [e1] at hcl
   unfold z0r at h1
   rw [if_neg (by omega)] at h1
   have h5 : (acc ++ [((n % 128 : Nat) : Int)]) ++ z0r 128 k (n / 128) = D := by rw [List.append_assoc]; exact h1
   have h6 : (acc ++ [((n % 128 : Nat) : Int)]).length ≤ 5 := by
     have := congrArg List.length h5
     simp at this ⊢
     omega
   have h7 : n / 128 < 128 ^ k := by
     rw [Nat.pow_succ] at h3
     exact Nat.div_lt_of_lt_mul (by rw [Nat.mul_comm]; exact h3)
   have e8 : (acc ++ [((n % 128 : Nat) : Int)]).length = acc.length + 1 := by simp
   generalize acc ++ [((n % 128 : Nat) : Int)] = acc2 at *
   repeat (refine nst ?_)
   refine z9h [69, 66, 67, 900] hcl rfl rfl (by rw [hn]; rfl) rfl rfl (by trivial) ⟨rfl, ⟨rfl, rfl, rfl, rfl⟩, (by simp [z0i]), rfl⟩ ?_
   repeat (refine nst ?_)
   have e9 : (n : Int) / 2 ^ min (Int.toNat 7) IntKind.i64.bits = ((n / 128 : Nat) : Int) := by
     have : min (Int.toNat 7) IntKind.i64.bits = 7 := by decide
     rw [this]
     omega
   rw [e9]
   refine z0f rfl rfl rfl rfl rfl (by exact vcs) rfl rfl rfl (by rw [z22]; rfl) (by rw [z4Q]; rfl) rfl rfl ?_
   repeat (refine nst ?_)
   refine z54 (fun a w h => SR.mv 78 900 rfl rfl rfl rfl rfl h) ?_
   refine z06 ⟨⟨n / 128, k, acc2⟩, h5, by dsimp only; omega, h7, h6⟩ (by dsimp only; omega) (St.le_of ⟨⟨rfl, rfl, rfl, rfl⟩, ⟨rfl, rfl, ?_, rfl⟩⟩)
   dsimp only
   rw [e8]
   rfl
 · have hn0 : n = 0 := by simp at hc; omega
   subst hn0
   have e1 : z0r 128 k 0 = [] := by cases k <;> rfl
   rw [e1, List.append_nil] at h1
   subst h1
   have hrv := z6v acc (by omega)
   repeat (refine nst ?_)
   refine z0n [900] hrv rfl rfl (by rw [hn]; rfl) rfl rfl (by trivial) ⟨rfl, rfl, (by simp [z0i]), rfl⟩ ?_
   repeat (refine nst ?_)
   exact rt1 [900]
theorem zcL (n : Nat) (hn1 : n ≤ 100000000) :
   Ct Tryz.prog 218 [lv (.int .i64 (n : Int)), lv (.int .i64 8)] [] (.c (.own 0 1 0 (z0r 256 5 n).length)) [] [.row (.ints .u8 (z0r 256 5 n).reverse)] := by
 obtain ⟨D, hD⟩ : ∃ D, z0r 256 5 n = D := ⟨_, rfl⟩
 have hDl : D.length ≤ 5 := by rw [← hD]; exact z1Z _ _ _
 rw [hD]
 refine z00 Tryz.func218 rfl rfl rfl rfl rfl (fun E hn hb => ?_)
 repeat (refine nst ?_)
 refine z16 rfl rfl rfl (by rw [hn]; rfl) rfl (by exact vcs) rfl rfl ?_
 repeat (refine nst ?_)
 refine z16 rfl rfl rfl (by rw [hn]; rfl) rfl (by exact vcs) rfl rfl ?_
 repeat (refine nst ?_)
 refine z0u rfl rfl rfl (by rw [hn]; rfl) rfl zal ?_
 repeat (refine nst ?_)
 refine zfx (fun a w h => SR.cell_nil (cs := [.lf (.v (.slice none 0 0))]) (cs' := [.own 900 1 0 0]) 69 0 900 rfl rfl rfl rfl rfl h) ?_
 refine z0a (St.le_of (l := [(2, .c (.ptr 66 0)), (3, .c (.ptr 67 0)), (5, .c (.ptr 69 0)), (6, .c (.fn (.func 231) [] [.ptr 69 0, .ptr 66 0, .ptr 67 0]))]) (h := [(66, iB (n : Int)), (67, iB 8), (69, .cells [.own 900 1 0 ([] : List Int).length]), (900, .row (.ints .u8 []))]) (by refine ⟨?_, ?_⟩ <;> (repeat' (first | exact trivial | exact rfl | refine ⟨?_, ?_⟩)) <;> first | exact rfl | (simp; done) | skip)) ?_
 refine z0j (ι := {s : DS // s.acc ++ z0r 256 s.k s.n = D ∧ s.n ≤ 100000000 ∧ s.n < 256 ^ s.k ∧ s.acc.length ≤ 5}) (fun s => St.of [(2, .c (.ptr 66 0)), (3, .c (.ptr 67 0)), (5, .c (.ptr 69 0)), (6, .c (.fn (.func 231) [] [.ptr 69 0, .ptr 66 0, .ptr 67 0]))] [(66, iB (s.1.n : Int)), (67, iB 8), (69, .cells [.own 900 1 0 s.1.acc.length]), (900, .row (.ints .u8 s.1.acc))]) (fun s => s.1.k) (fun s => ?_) ⟨⟨n, 5, []⟩, hD, hn1, by dsimp only; omega, by simp⟩
 obtain ⟨⟨n, k, acc⟩, h1, h2, h3, h4⟩ := s
 dsimp only at h1 h2 h3 h4 ⊢
 clear hn1 hD
 repeat (refine nst ?_)
 refine z05 rfl (by simp) (fun hc => ?_) (fun hc => ?_)
 · have hnp : 0 < n := by simpa using hc
   obtain ⟨k, rfl⟩ : ∃ k', k = k' + 1 := by
     cases k with
     | zero => simp at h3; omega
     | succ k => exact ⟨k, rfl⟩
   have hcl := ze9 acc (n : Int) (by omega) (by omega)
   have e1 : ((n : Int) % 256) = ((n % 256 : Nat) : Int) := by omega
   rw [e1] at hcl
   unfold z0r at h1
   rw [if_neg (by omega)] at h1
   have h5 : (acc ++ [((n % 256 : Nat) : Int)]) ++ z0r 256 k (n / 256) = D := by rw [List.append_assoc]; exact h1
   have h6 : (acc ++ [((n % 256 : Nat) : Int)]).length ≤ 5 := by
     have := congrArg List.length h5
     simp at this ⊢
     omega
   have h7 : n / 256 < 256 ^ k := by
     rw [Nat.pow_succ] at h3
     exact Nat.div_lt_of_lt_mul (by rw [Nat.mul_comm]; exact h3)
   have e8 : (acc ++ [((n % 256 : Nat) : Int)]).length = acc.length + 1 := by simp
   generalize acc ++ [((n % 256 : Nat) : Int)] = acc2 at *
   repeat (refine nst ?_)
   refine z9h [69, 66, 67, 900] hcl rfl rfl (by rw [hn]; rfl) rfl rfl (by trivial) ⟨rfl, ⟨rfl, rfl, rfl, rfl⟩, (by simp [z0i]), rfl⟩ ?_
   repeat (refine nst ?_)
   have e9 : (n : Int) / 2 ^ min (Int.toNat 8) IntKind.i64.bits = ((n / 256 : Nat) : Int) := by
     have : min (Int.toNat 8) IntKind.i64.bits = 8 := by decide
     rw [this]
     omega
   rw [e9]
   refine z0f rfl rfl rfl rfl rfl (by exact vcs) rfl rfl rfl (by rw [z22]; rfl) (by rw [z4Q]; rfl) rfl rfl ?_
   repeat (refine nst ?_)
   refine z54 (fun a w h => SR.mv 78 900 rfl rfl rfl rfl rfl h) ?_
   refine z06 ⟨⟨n / 256, k, acc2⟩, h5, by dsimp only; omega, h7, h6⟩ (by dsimp only; omega) (St.le_of ⟨⟨rfl, rfl, rfl, rfl⟩, ⟨rfl, rfl, ?_, rfl⟩⟩)
   dsimp only
   rw [e8]
   rfl
 · have hn0 : n = 0 := by simp at hc; omega
   subst hn0
   have e1 : z0r 256 k 0 = [] := by cases k <;> rfl
   rw [e1, List.append_nil] at h1
   subst h1
   have hrv := z6v acc (by omega)
   repeat (refine nst ?_)
   refine z0n [900] hrv rfl rfl (by rw [hn]; rfl) rfl rfl (by trivial) ⟨rfl, rfl, (by simp [z0i]), rfl⟩ ?_
   repeat (refine nst ?_)
   exact rt1 [900]

theorem zap {c n : Int} (hc : c ∈ [0, 32, 64, 96, 128, 160, 192, 224]) (hn : 0 ≤ n ∧ n < 32) : IntKind.u8.wrap (BitVec.ofInt IntKind.u8.bits c ||| BitVec.ofInt IntKind.u8.bits n).toNat = c + n := by
 have key : ∀ k : Fin 8, ∀ m : Fin 32, IntKind.u8.wrap (BitVec.ofInt IntKind.u8.bits (32 * ((k.val : Nat) : Int)) ||| BitVec.ofInt IntKind.u8.bits ((m.val : Nat) : Int)).toNat = 32 * ((k.val : Nat) : Int) + ((m.val : Nat) : Int) := by decide +kernel
 have hm := fun k : Fin 8 => key k ⟨n.toNat, by omega⟩
 simp only [show ((n.toNat : Nat) : Int) = n by omega] at hm
 simp only [List.mem_cons, List.not_mem_nil, or_false] at hc
 rcases hc with rfl | rfl | rfl | rfl | rfl | rfl | rfl | rfl
 · exact hm 0
 · exact hm 1
 · exact hm 2
 · exact hm 3
 · exact hm 4
 · exact hm 5
 · exact hm 6
 · exact hm 7
theorem zgL {n : Int} (hn : 0 ≤ n ∧ n < 128) : IntKind.u8.wrap (BitVec.ofInt IntKind.u8.bits n ||| BitVec.ofInt IntKind.u8.bits 128).toNat = n + 128 ∧ IntKind.u8.wrap (BitVec.ofInt IntKind.u8.bits 128 ||| BitVec.ofInt IntKind.u8.bits n).toNat = 128 + n := by
 have key : ∀ m : Fin 128, IntKind.u8.wrap (BitVec.ofInt IntKind.u8.bits ((m.val : Nat) : Int) ||| BitVec.ofInt IntKind.u8.bits 128).toNat = ((m.val : Nat) : Int) + 128 ∧ IntKind.u8.wrap (BitVec.ofInt IntKind.u8.bits 128 ||| BitVec.ofInt IntKind.u8.bits ((m.val : Nat) : Int)).toNat = 128 + ((m.val : Nat) : Int) := by decide +kernel
 have hm := key ⟨n.toNat, by omega⟩
 simpa only [show ((n.toNat : Nat) : Int) = n by omega] using hm
def z19 (t : z0m) : Int := 64 * t.1 + cond t.2.2 32 0
theorem z6C {t : z0m} (h : z1b t = true) : z19 t ∈ [0, 32, 64, 96, 128, 160, 192, 224] := by
 have h2 : 0 ≤ t.1 ∧ t.1 ≤ 3 := by simp [z1b] at h; omega
 unfold z19
 have : t.1 = 0 ∨ t.1 = 1 ∨ t.1 = 2 ∨ t.1 = 3 := by omega
 rcases this with e | e | e | e <;> rw [e] <;> cases t.2.2 <;> decide
theorem zdN (t : z0m) (h : z1b t = true) : Ct Tryz.prog 217 [z2A t] [] (lv (.int .u8 (z19 t))) [] [] := by
 have h2 : 0 ≤ t.1 ∧ t.1 ≤ 3 := by simp [z1b] at h; omega
 have e6 : t.1 * 2 ^ min (Int.toNat 6) IntKind.i64.bits = 64 * t.1 := by
   have : min (Int.toNat 6) IntKind.i64.bits = 6 := by decide
   rw [this, Int.mul_comm]
   rfl
 refine z00 Tryz.func217 rfl rfl rfl rfl rfl (fun E hn hb => ?_)
 repeat (refine nst ?_)
 refine z16 rfl rfl rfl (by rw [hn]; rfl) rfl (by exact vcs) rfl rfl ?_
 repeat (refine nst ?_)
 rw [e6]
 have e : z19 t = 64 * t.1 + cond t.2.2 32 0 := rfl
 refine z05 rfl (by simp) (fun h1 => ?_) (fun h1 => ?_)
 · have h1' : t.2.2 = true := h1
   have eo : IntKind.u8.wrap (BitVec.ofInt IntKind.u8.bits (64 * t.1) ||| BitVec.ofInt IntKind.u8.bits 32).toNat = z19 t := by
     rw [e, h1']
     have : t.1 = 0 ∨ t.1 = 1 ∨ t.1 = 2 ∨ t.1 = 3 := by omega
     rcases this with e | e | e | e <;> rw [e] <;> decide +kernel
   repeat (refine nst ?_)
   rw [eo]
   repeat (refine nst ?_)
   exact rt1 []
 · have h1' : t.2.2 = false := h1
   rw [h1'] at e
   have e' : z19 t = 64 * t.1 := by rw [e]; exact Int.add_zero _
   rw [e']
   repeat (refine nst ?_)
   exact rt1 []
def hiL (D : List Int) : List Int := (D.take (D.length - 1)).map (· + 128) ++ D.drop (D.length - 1)
def tgL (t : z0m) : List Int := if t.2.1 < 31 then [z19 t + t.2.1] else (z19 t + 31) :: hiL (z0r 128 5 t.2.1.toNat).reverse
def hiU (D : List Int) (i : Nat) : List Int := (D.take i).map (· + 128) ++ D.drop i
theorem zh1 (D : List Int) (i : Nat) : (hiU D i).length = D.length := by simp [hiU]; omega
theorem zh2 (D : List Int) (i : Nat) (h : i < D.length) : (hiU D i).getD i 0 = D.getD i 0 := by
 have : ((D.take i).map (· + 128)).length = i := by simp; omega
 simp only [hiU, List.getD_eq_getElem?_getD]
 rw [List.getElem?_append_right (by omega), this, Nat.sub_self, List.getElem?_drop, Nat.add_zero]
theorem zh3 (D : List Int) (i : Nat) (h : i < D.length) : (hiU D i).set i (D.getD i 0 + 128) = hiU D (i + 1) := by
 have hl : ((D.take i).map (· + 128)).length = i := by simp; omega
 unfold hiU
 rw [List.set_append_right _ _ (by omega), hl, Nat.sub_self, List.drop_eq_getElem_cons h, List.set_cons_zero, List.take_succ_eq_append_getElem h, List.map_append, List.append_assoc]
 simp [h]
theorem z8Z (m : Nat) (h0 : 0 < m) : ∀ (k n : Nat), ∀ x ∈ z0r m k n, 0 ≤ x ∧ x < (m : Int)
 | 0, n => fun x h => by simp [z0r] at h
 | k + 1, n => by
   have ih := z8Z m h0 k (n / m)
   have := Nat.mod_lt n h0
   unfold z0r
   split
   · exact fun x h => by simp at h
   · intro x hx
     cases hx with
     | head => omega
     | tail _ hx => exact ih x hx
theorem z7c (D : List Int) : (hiL D).length = D.length := by simp [hiL]
set_option maxHeartbeats 4000000 in
theorem zdO (t : z0m) (h : z1b t = true) : Ct Tryz.prog 191 [z2A t] [] (.tup [.c (.own 0 1 0 (tgL t).length), lv (.int .i64 0)]) [] [.row (.ints .u8 (tgL t))] := by
 have h2 : 0 ≤ t.2.1 ∧ t.2.1 < 2097152 := by simp [z1b] at h; omega
 have hr := zaZ t
 rw [h] at hr
 have hf := zdN t h
 have hfm := z6C h
 have hfi : 0 ≤ z19 t ∧ z19 t ≤ 224 := by
   simp only [List.mem_cons, List.not_mem_nil, or_false] at hfm
   omega
 have hT : tgL t = if t.2.1 < 31 then [z19 t + t.2.1] else (z19 t + 31) :: hiL (z0r 128 5 t.2.1.toNat).reverse := rfl
 generalize tgL t = T at *
 generalize z19 t = c at *
 refine z00 Tryz.func191 rfl rfl rfl rfl rfl (fun E hn hb => ?_)
 repeat (refine nst ?_)
 refine z16 rfl rfl rfl (by rw [hn]; rfl) rfl (by exact vcs) rfl rfl ?_
 repeat (refine nst ?_)
 refine z18 (hr) rfl rfl rfl (by rw [hn]; rfl) rfl rfl (by exact vcs) rfl rfl rfl ?_
 repeat (refine nst ?_)
 refine z05 rfl (by simp) (fun h1 => ?_) (fun h1 => ?_)
 · simp at h1
 repeat (refine nst ?_)
 refine z05 rfl (by simp) (fun h3 => ?_) (fun h3 => ?_)
 · have h3' : t.2.1 < 31 := by simpa using h3
   rw [if_pos h3'] at hT
   subst hT
   have eo := zap hfm (n := t.2.1) (by omega)
   repeat (refine nst ?_)
   refine z2F 5 (by kernel_rfl) (by kernel_rfl) (by kernel_rfl) (by rw [hn]; rfl) rfl rfl ?_
   repeat (first | refine dp1 ?_ | refine dg1 ?_ | refine z0B ?_)
   refine z1h rfl (z1c (z4y (hf) rfl rfl rfl (by exact vcs) rfl rfl rfl) rfl) ?_
   repeat (first | refine dp1 ?_ | refine dg1 ?_ | refine z0B ?_)
   repeat (refine nst ?_)
   rw [eo]
   refine z1v rfl rfl rfl (by rw [hn]; rfl) (z0k Tryz.underlying28 rfl rfl) (z2C) (by exact vcs) ⟨by decide, rfl⟩ ?_
   repeat (refine nst ?_)
   exact rt1 [82]
 · have h3' : ¬ t.2.1 < 31 := by simpa using h3
   rw [if_neg h3'] at hT
   obtain ⟨n, hn'⟩ : ∃ n : Nat, t.2.1 = (n : Int) := ⟨t.2.1.toNat, by omega⟩
   have hdg := zcK n (by omega)
   rw [hn', Int.toNat_natCast] at hT
   have hDl : (z0r 128 5 n).reverse.length = (z0r 128 5 n).length := by simp
   have hDw : ∀ x ∈ (z0r 128 5 n).reverse, 0 ≤ x ∧ x < 128 := fun x hx => z8Z 128 (by decide) 5 n x (List.mem_reverse.1 hx)
   rw [← hDl] at hdg
   have hD5 : (z0r 128 5 n).reverse.length ≤ 5 := by rw [hDl]; exact z1Z _ _ _
   generalize (z0r 128 5 n).reverse = D at *
   rw [← hn'] at hdg
   repeat (refine nst ?_)
   refine z0n [] hdg rfl rfl (by rw [hn]; rfl) rfl rfl (by trivial) ⟨rfl, trivial, trivial, rfl⟩ ?_
   repeat (refine nst ?_)
   have S0 : hiU D 0 = D := by simp [hiU]
   refine z0a (τ := St.of [(1, .c (.ptr 65 0)), (4, .c (.own 85 1 0 D.length)), (22, .c (.own 85 1 0 D.length)), (24, lv (.int .i64 ((D.length : Int) - 1))), (25, lv (.int .i64 ((0 : Nat) : Int)))] [(65, z3b t), (85, .row (.ints .u8 (hiU D 0)))]) (St.le_of ⟨⟨rfl, rfl, rfl, rfl, rfl⟩, ⟨rfl, by rw [S0]; rfl⟩⟩) ?_
   refine z0j (ι := {i : Nat // i ≤ D.length - 1}) (fun i => St.of [(1, .c (.ptr 65 0)), (4, .c (.own 85 1 0 D.length)), (22, .c (.own 85 1 0 D.length)), (24, lv (.int .i64 ((D.length : Int) - 1))), (25, lv (.int .i64 (i.1 : Int)))] [(65, z3b t), (85, .row (.ints .u8 (hiU D i.1)))]) (fun i => D.length - i.1) (fun i => ?_) ⟨0, by omega⟩
   obtain ⟨i, hi⟩ := i
   dsimp only
   have hul := zh1 D i
   repeat (refine nst ?_)
   refine z05 rfl (by simp) (fun hc => ?_) (fun hc => ?_)
   · have hil : i < D.length := by simp at hc; omega
     have hg : (hiU D i).getD (0 + (i : Int).toNat) 0 = D.getD i 0 := by rw [Nat.zero_add, Int.toNat_natCast, zh2 D i hil]
     have hx : 0 ≤ D.getD i 0 ∧ D.getD i 0 < 128 := by
       rw [List.getD_eq_getElem?_getD, List.getElem?_eq_getElem hil]
       exact hDw _ (List.getElem_mem hil)
     have eo := (zgL hx).1
     have hset := zh3 D i hil
     repeat (refine nst ?_)
     rw [hg, eo]
     refine zaG rfl rfl rfl rfl rfl (by exact vcs) rfl (by rw [z6s]) (by first | (simp; done) | (simp; omega) | (simp at *; omega)) ?_
     repeat (refine nst ?_)
     refine z06 ⟨i + 1, by simp at hc; omega⟩ (by dsimp only; omega) (St.le_of ⟨⟨rfl, rfl, rfl, rfl, rfl⟩, ⟨rfl, ?_⟩⟩)
     dsimp only
     rw [← hset]
     show Blk.row (.ints .u8 ((hiU D i).set (0 + (i : Int).toNat) (D.getD i 0 + 128))) = _
     rw [Nat.zero_add, Int.toNat_natCast]
   · have hie : i = D.length - 1 := by simp at hc; omega
     have hU : hiU D i = hiL D := by rw [hie]; rfl
     have hLl := z7c D
     rw [hU]
     clear hU hul
     have eo := zap hfm (n := 31) (by omega)
     generalize hiL D = L at *
     subst hT
     repeat (refine nst ?_)
     refine z18 (hf) rfl rfl rfl (by rw [hn]; rfl) rfl rfl (by exact vcs) rfl rfl rfl ?_
     repeat (refine nst ?_)
     rw [eo]
     refine z1v rfl rfl rfl (by rw [hn]; rfl) (z0k Tryz.underlying28 rfl rfl) (z2C) (by exact vcs) ⟨by decide, rfl⟩ ?_
     repeat (refine nst ?_)
     refine z2e rfl rfl rfl rfl rfl rfl (by rw [hn]; rfl) (z0k Tryz.underlying28 rfl rfl) rfl rfl rfl rfl (by exact vcs) (by first | rfl | (simp; done) | (simp; omega)) ⟨by first | (simp; done) | (simp; omega) | (simp at *; omega), by decide⟩ ?_
     repeat (refine nst ?_)
     have eL : List.take D.length L = L := List.take_of_length_le (by omega)
     rw [eL]
     exact rt1 [102]
def z1P (n : Nat) : List Int := if n < 128 then [(n : Int)] else (128 + ((z0r 256 5 n).length : Int)) :: (z0r 256 5 n).reverse
theorem zh4 (n : Nat) (h : n ≤ 16777216) : Ct Tryz.prog 192 [lv (.int .i64 (n : Int))] [] (.tup [.c (.own 0 1 0 (z1P n).length), lv (.int .i64 0)]) [] [.row (.ints .u8 (z1P n))] := by
 have hT : z1P n = if n < 128 then [(n : Int)] else (128 + ((z0r 256 5 n).length : Int)) :: (z0r 256 5 n).reverse := rfl
 generalize z1P n = T at *
 refine z00 Tryz.func192 rfl rfl rfl rfl rfl (fun E hn hb => ?_)
 repeat (refine nst ?_)
 refine z05 rfl (by simp) (fun h1 => ?_) (fun h1 => ?_)
 · simp at h1; omega
 repeat (refine nst ?_)
 refine z05 rfl (by simp) (fun h2 => ?_) (fun h2 => ?_)
 · simp at h2; omega
 repeat (refine nst ?_)
 refine z05 rfl (by simp) (fun h3 => ?_) (fun h3 => ?_)
 · have h3' : n < 128 := by simp at h3; omega
   rw [if_pos h3'] at hT
   subst hT
   repeat (refine nst ?_)
   refine z1v rfl rfl rfl (by rw [hn]; rfl) (z0k Tryz.underlying28 rfl rfl) (z2C) (by exact vcs) ⟨by decide, rfl⟩ ?_
   repeat (refine nst ?_)
   exact rt1 [80]
 · have h3' : ¬ n < 128 := by simp at h3; omega
   rw [if_neg h3'] at hT
   have hdg := zcL n (by omega)
   have hD5 := z1Z 256 5 n
   have hDl : (z0r 256 5 n).reverse.length = (z0r 256 5 n).length := by simp
   rw [← hDl] at hT hdg hD5
   generalize (z0r 256 5 n).reverse = D at *
   subst hT
   have eo := (zgL (n := (D.length : Int)) (by omega)).2
   repeat (refine nst ?_)
   refine z0n [] hdg rfl rfl (by rw [hn]; rfl) rfl rfl (by trivial) ⟨rfl, trivial, trivial, rfl⟩ ?_
   repeat (refine nst ?_)
   rw [eo]
   refine z1v rfl rfl rfl (by rw [hn]; rfl) (z0k Tryz.underlying28 rfl rfl) (z2C) (by exact vcs) ⟨by decide, rfl⟩ ?_
   repeat (refine nst ?_)
   refine z2e rfl rfl rfl rfl rfl rfl (by rw [hn]; rfl) (z0k Tryz.underlying28 rfl rfl) rfl rfl rfl rfl (by exact vcs) (by first | rfl | (simp; done) | (simp; omega)) ⟨by first | (simp; done) | (simp; omega) | (simp at *; omega), by decide⟩ ?_
   repeat (refine nst ?_)
   have eL : List.take D.length D = D := List.take_length
   rw [eL]
   exact rt1 [87]

abbrev z4i (bs : List (List Int)) : Av := .c (.lf (.recs 1 (bs.map fun b => [.ints .u8 b])))
def z0q (t : z0m) (b : List Int) : List Int := tgL t ++ z1P b.length ++ b
set_option maxHeartbeats 4000000 in
theorem zfl (t : z0m) (bs : List (List Int)) (h : z1b t = true) (hbl : bs.length ≤ 100000) (hl : bs.flatten.length ≤ 1000000) :
   Ct Tryz.prog 158 [z2A t, z4i bs] [] (.tup [.c (.own 0 1 0 (z0q t bs.flatten).length), lv (.int .i64 0)]) [] [.row (.ints .u8 (z0q t bs.flatten))] := by
 have htb := zdO t h
 have hlb := zh4 bs.flatten.length (by omega)
 have hW : z0q t bs.flatten = tgL t ++ z1P bs.flatten.length ++ bs.flatten := rfl
 have hT5 : (tgL t).length ≤ 10 := by
   have := z1Z 128 5 t.2.1.toNat
   unfold tgL
   split
   · simp
   · simp [z7c]; omega
 have hL5 : (z1P bs.flatten.length).length ≤ 10 := by
   generalize bs.flatten.length = n
   have := z1Z 256 5 n
   unfold z1P
   split
   · simp
   · simp; omega
 generalize z0q t bs.flatten = R at *
 generalize z1P bs.flatten.length = D at *
 generalize tgL t = T at *
 have hnext : ∀ i, (h : i < bs.length) → (bs.take (i + 1)).flatten = (bs.take i).flatten ++ bs[i] ∧ (bs.take (i + 1)).flatten.length ≤ bs.flatten.length := by
   intro i h
   refine ⟨by rw [List.take_succ_eq_append_getElem h, List.flatten_append, List.flatten_cons, List.flatten_nil, List.append_nil], ?_⟩
   have := congrArg List.length (congrArg List.flatten (List.take_append_drop (i + 1) bs))
   simp only [List.flatten_append, List.length_append] at this
   omega
 have hidx : ∀ i, (h : i < bs.length) → (bs.map fun b => [Leaf.ints .u8 b]).getD (i : Int).toNat [] = [Leaf.ints .u8 bs[i]] := by
   intro i h
   rw [Int.toNat_natCast, List.getD_eq_getElem?_getD, List.getElem?_map, List.getElem?_eq_getElem h]
   rfl
 have hlm : ((bs.map fun b => [Leaf.ints .u8 b]).length : Int) = (bs.length : Int) := by simp
 refine z00 Tryz.func158 rfl rfl rfl rfl rfl (fun E hn hb => ?_)
 repeat (refine nst ?_)
 refine z16 rfl rfl rfl (by rw [hn]; rfl) rfl (by exact vcs) rfl rfl ?_
 repeat (refine nst ?_)
 refine z0n [] htb rfl rfl (by rw [hn]; rfl) rfl rfl (by trivial) ⟨rfl, trivial, trivial, rfl⟩ ?_
 repeat (refine nst ?_)
 refine z05 rfl (by simp) (fun h1 => ?_) (fun h1 => ?_)
 · simp at h1
 repeat (refine nst ?_)
 rw [hlm]
 refine z0a (St.le_of (l := [(1, z4i bs), (6, .c (.own 81 1 0 T.length)), (8, lv (.int .i64 (((bs.take 0).flatten.length : Nat) : Int))), (23, z4i bs), (24, lv (.int .i64 (bs.length : Int))), (25, lv (.int .i64 ((0 : Nat) : Int)))]) (h := [(81, .row (.ints .u8 T))]) (by refine ⟨?_, ?_⟩ <;> (repeat' (first | exact trivial | exact rfl | refine ⟨?_, ?_⟩)) <;> first | exact rfl | (simp; done) | skip)) ?_
 refine z0j (ι := {i : Nat // i ≤ bs.length}) (fun i => St.of [(1, z4i bs), (6, .c (.own 81 1 0 T.length)), (8, lv (.int .i64 (((bs.take i.1).flatten.length : Nat) : Int))), (23, z4i bs), (24, lv (.int .i64 (bs.length : Int))), (25, lv (.int .i64 (i.1 : Int)))] [(81, .row (.ints .u8 T))]) (fun i => bs.length - i.1) (fun i => ?_) ⟨0, by omega⟩
 obtain ⟨i, hi⟩ := i
 dsimp only
 repeat (refine nst ?_)
 refine z05 rfl (by simp) (fun hc => ?_) (fun hc => ?_)
 · have hib : i < bs.length := by simpa using hc
   obtain ⟨m1, m2⟩ := hnext i hib
   have hx := hidx i hib
   rw [m1] at m2
   have eN : (((bs.take i).flatten.length : Nat) : Int) + (bs[i].length : Int) = (((bs.take (i + 1)).flatten.length : Nat) : Int) := by rw [m1]; simp
   have m3 : (((bs.take (i + 1)).flatten.length : Nat) : Int) ≤ 16777216 := by rw [m1]; omega
   generalize bs[i] = b at *
   repeat (refine nst ?_)
   refine z0K (z0x (z3R rfl Tryz.underlying249 rfl (by decide) rfl rfl (by exact vcs) (by first | (simp; done) | (simp; omega) | omega) (by first | (simp; done) | (simp; omega) | (simp at *; omega) | omega)) rfl) (by rw [hn]; rfl) ?_
   rw [hx]
   have m4 : (((bs.take i).flatten.length : Nat) : Int) + (b.length : Int) ≤ 16777216 := by rw [eN]; exact m3
   repeat (refine nst ?_)
   rw [eN]
   repeat (refine nst ?_)
   refine z05 rfl (by simp) (fun h2 => ?_) (fun h2 => ?_)
   · have := of_decide_eq_true h2
     omega
   repeat (refine nst ?_)
   refine z06 ⟨i + 1, by omega⟩ (by dsimp only; omega) (St.le_of ⟨⟨rfl, rfl, rfl, rfl, rfl, rfl⟩, rfl⟩)
 · have hie : i = bs.length := by simp at hc; omega
   subst hie
   rw [List.take_length] at *
   clear hc
   repeat (refine nst ?_)
   refine z0n [] hlb rfl rfl (by rw [hn]; rfl) rfl rfl (by trivial) ⟨rfl, trivial, trivial, rfl⟩ ?_
   repeat (refine nst ?_)
   refine z2e rfl rfl rfl rfl rfl rfl (by rw [hn]; rfl) (z0k Tryz.underlying28 rfl rfl) rfl rfl rfl rfl (by exact vcs) (by first | rfl | (simp; done) | (simp; omega)) ⟨by first | (simp; done) | (simp; omega) | (simp at *; omega), by decide⟩ ?_
   repeat (refine nst ?_)
   have eT : List.take T.length T = T := List.take_length
   have eD : List.take D.length D = D := List.take_length
   rw [eD]
   have eTD : (T ++ D ++ (bs.take 0).flatten) = T ++ D := by simp
   rw [hlm]
   refine z0a (τ := St.of [(6, .c (.own 81 1 0 (T ++ D ++ (bs.take 0).flatten).length)), (44, z4i bs), (45, lv (.int .i64 (bs.length : Int))), (46, lv (.int .i64 ((0 : Nat) : Int)))] [(81, .row (.ints .u8 (T ++ D ++ (bs.take 0).flatten)))]) ?_ ?_
   · rw [eTD]
     exact St.le_of ⟨⟨rfl, rfl, rfl, rfl⟩, rfl⟩
   refine z0j (ι := {i : Nat // i ≤ bs.length}) (fun i => St.of [(6, .c (.own 81 1 0 (T ++ D ++ (bs.take i.1).flatten).length)), (44, z4i bs), (45, lv (.int .i64 (bs.length : Int))), (46, lv (.int .i64 (i.1 : Int)))] [(81, .row (.ints .u8 (T ++ D ++ (bs.take i.1).flatten)))]) (fun i => bs.length - i.1) (fun i => ?_) ⟨0, by omega⟩
   obtain ⟨i, hi⟩ := i
   dsimp only
   repeat (refine nst ?_)
   refine z05 rfl (by simp) (fun hc => ?_) (fun hc => ?_)
   · have hib : i < bs.length := by simpa using hc
     obtain ⟨m1, m2⟩ := hnext i hib
     have hx := hidx i hib
     rw [m1] at m2
     have eN : T ++ D ++ (bs.take (i + 1)).flatten = T ++ D ++ (bs.take i).flatten ++ bs[i] := by rw [m1, List.append_assoc (T ++ D)]
     have m4 : (T ++ D ++ (bs.take i).flatten).length + bs[i].length ≤ 1000100 := by simp only [List.length_append] at m2 ⊢; omega
     generalize bs[i] = b at *
     generalize T ++ D ++ (bs.take i).flatten = X at *
     repeat (refine nst ?_)
     refine z0K (z0x (z3R rfl Tryz.underlying249 rfl (by decide) rfl rfl (by exact vcs) (by first | (simp; done) | (simp; omega) | omega) (by first | (simp; done) | (simp; omega) | (simp at *; omega) | omega)) rfl) (by rw [hn]; rfl) ?_
     rw [hx]
     repeat (refine nst ?_)
     refine z2e rfl rfl rfl rfl rfl rfl (by rw [hn]; rfl) (z0k Tryz.underlying28 rfl rfl) rfl rfl rfl rfl (by exact vcs) (by first | rfl | (simp; done) | (simp; omega)) ⟨by first | (simp; done) | (simp; omega) | (simp at *; omega), by decide⟩ ?_
     repeat (refine nst ?_)
     refine z06 ⟨i + 1, by omega⟩ (by dsimp only; omega) (St.le_of ⟨⟨?_, rfl, rfl, rfl⟩, ?_⟩)
     · dsimp only
       rw [eN]
       rfl
     · dsimp only
       rw [eN]
       rfl
   · have hie : i = bs.length := by simp at hc; omega
     subst hie
     rw [List.take_length, ← hW] at *
     repeat (refine nst ?_)
     exact rt1 [81]
end Go.Proofs.YtaagjnlkinojcaaGreat

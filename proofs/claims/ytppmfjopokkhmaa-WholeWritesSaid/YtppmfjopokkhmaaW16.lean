/-
  Chapter 03: numbers as ints. The conditions: rows of at most a million bytes.
-/
import Derived.Test.YtppmfjopokkhmaaW15
namespace Go.Proofs.Ytppmfjopokkhmaa
set_option linter.unusedSimpArgs false
set_option linter.unusedVariables false
open Go.Sx

set_option maxRecDepth 10000

/-- A number as an int, if it is one. -/
def intV (be : Bool) (s : List Int) : Option Int :=
  if 8 < s.length then none else if be then (if valA 0 s ≤ 9223372036854775808 then some (-(valA 0 s)) else none) else (if valA 0 s ≤ 9223372036854775807 then some (valA 0 s) else none)

theorem val_app : ∀ (a b : List Int) (c : Int), valA c (a ++ b) = valA (valA c a) b
  | [], _, _ => rfl
  | x :: a, b, c => by simp only [List.cons_append, valA, val_app a b]
theorem pow_le (a b : Nat) (h : a ≤ b) : (256 : Int) ^ a ≤ 256 ^ b := by
  have h1 : (256 : Nat) ^ a ≤ 256 ^ b := Nat.pow_le_pow_right (by decide) h
  have h2 : ((256 ^ a : Nat) : Int) = 256 ^ a := by simp
  have h3 : ((256 ^ b : Nat) : Int) = 256 ^ b := by simp
  rw [← h2, ← h3]
  exact Int.ofNat_le.2 h1
theorem val_lt (l : List Int) (n : Nat) (hn : l.length ≤ n) (hw : WfB l) : valA 0 l < 256 ^ n := by
  have h := val_bound l 0 hw
  have h2 := pow_le l.length n hn
  omega
theorem val_snoc (a : List Int) (x : Int) : valA 0 (a ++ [x]) = 256 * valA 0 a + x := by rw [val_app]; rfl

/-- Rows without noughts ahead are told by their values. -/
theorem val_inj : ∀ (n : Nat) (a b : List Int), a.length ≤ n → WfB a → WfB b → trimL a = a → trimL b = b → valA 0 a = valA 0 b → a = b := by
  have pos : ∀ (x : Int) (t : List Int), WfB (x :: t) → trimL (x :: t) = x :: t → 256 ^ t.length ≤ valA 0 (x :: t) := by
    intro x t hw ht
    have hx := hw x (List.mem_cons_self ..)
    have hx0 : x ≠ 0 := by
      rintro rfl
      have e1 : trimL (0 :: t) = trimL t := by simp [trimL]
      have : (trimL t).length ≤ t.length := (List.dropWhile_sublist _).length_le
      rw [← e1, ht] at this
      simp at this
      omega
    have key : ∀ (t : List Int) (c : Int), 0 ≤ c → WfB t → c * 256 ^ t.length ≤ valA c t := by
      intro t
      induction t with
      | nil => intro c _ _; simp [valA]
      | cons y t ih =>
        intro c hc hw
        have hy := hw y (List.mem_cons_self ..)
        have := ih (256 * c + y) (by omega) (wf_tail hw)
        have h2 : (256 * c) * (256 : Int) ^ t.length ≤ (256 * c + y) * 256 ^ t.length := Int.mul_le_mul_of_nonneg_right (by omega) (Int.pow_nonneg (by decide))
        have h3 : c * (256 : Int) ^ (t.length + 1) = (256 * c) * 256 ^ t.length := by
          rw [Int.pow_succ, Int.mul_comm ((256 : Int) ^ t.length) 256, ← Int.mul_assoc, Int.mul_comm c 256]
        simp only [valA, List.length_cons]
        omega
    have h1 := key t (256 * 0 + x) (by omega) (wf_tail hw)
    have h2 : (1 : Int) * 256 ^ t.length ≤ (256 * 0 + x) * 256 ^ t.length := Int.mul_le_mul_of_nonneg_right (by omega) (Int.pow_nonneg (by decide))
    simp only [valA]
    omega
  have len : ∀ (a b : List Int), WfB a → WfB b → trimL a = a → trimL b = b → valA 0 a = valA 0 b → a.length ≤ b.length := by
    intro a b ha hb hta htb he
    cases a with
    | nil => simp
    | cons x t =>
      have h1 := pos x t ha hta
      have h2 := val_bound b 0 hb
      rcases Nat.lt_or_ge b.length (t.length + 1) with h | h
      · have h4 := pow_le b.length t.length (by omega)
        omega
      · exact h
  intro n a b _ ha hb hta htb he
  have hl1 := len a b ha hb hta htb he
  have hl2 := len b a hb ha htb hta he.symm
  clear hta htb len pos
  have key : ∀ (a b : List Int) (c d : Int), 0 ≤ c → 0 ≤ d → a.length = b.length → WfB a → WfB b → valA c a = valA d b → c = d ∧ a = b := by
    intro a
    induction a with
    | nil =>
      intro b c d _ _ hl _ _ he
      cases b with
      | nil => exact ⟨he, rfl⟩
      | cons y b => simp at hl
    | cons x a ih =>
      intro b c d hc hd hl ha hb he
      cases b with
      | nil => simp at hl
      | cons y b =>
        have hx := ha x (List.mem_cons_self ..)
        have hy := hb y (List.mem_cons_self ..)
        obtain ⟨h1, h2⟩ := ih b (256 * c + x) (256 * d + y) (by omega) (by omega) (by simpa using hl) (wf_tail ha) (wf_tail hb) he
        have : c = d := by omega
        have : x = y := by omega
        subst h2
        exact ⟨by omega, by rw [this]⟩
  exact (key a b 0 0 (by decide) (by decide) (by omega) ha hb he).2

theorem pat_wf (m : Int) : WfB (patL m) := by
  intro x hx
  obtain ⟨i, _, rfl⟩ := List.mem_map.1 hx
  constructor
  · exact Int.emod_nonneg _ (by decide)
  · exact Int.emod_lt_of_pos _ (by decide)
theorem pat_val (m : Int) (h0 : 0 ≤ m) (h1 : m < 18446744073709551616) : valA 0 (patL m) = m := by
  have e : patL m = [m / 72057594037927936 % 256, m / 281474976710656 % 256, m / 1099511627776 % 256, m / 4294967296 % 256, m / 16777216 % 256, m / 65536 % 256, m / 256 % 256, m / 1 % 256] := rfl
  rw [e]
  simp only [valA]
  omega

/-- The document's digits of a size. -/
def digL (n : Nat) : List Int := if h : n = 0 then [] else digL (n / 256) ++ [((n % 256 : Nat) : Int)]
termination_by n
decreasing_by omega
theorem dig_zero : digL 0 = [] := by rw [digL]; simp
theorem dig_pos {n : Nat} (h : n ≠ 0) : digL n = digL (n / 256) ++ [((n % 256 : Nat) : Int)] := by rw [digL]; simp [h]
theorem dig_spec : ∀ (k n : Nat), n ≤ k → WfB (digL n) ∧ trimL (digL n) = digL n ∧ valA 0 (digL n) = n
  | 0, n, h => by
    have : n = 0 := by omega
    subst this
    rw [dig_zero]
    exact ⟨fun x hx => (by cases hx), rfl, rfl⟩
  | k + 1, n, h => by
    by_cases h0 : n = 0
    · subst h0
      rw [dig_zero]
      exact ⟨fun x hx => (by cases hx), rfl, rfl⟩
    · obtain ⟨h1, h2, h3⟩ := dig_spec k (n / 256) (by omega)
      rw [dig_pos h0]
      refine ⟨?_, ?_, ?_⟩
      · intro x hx
        rcases List.mem_append.1 hx with hx | hx
        · exact h1 x hx
        · simp at hx; subst hx; omega
      · by_cases h4 : n / 256 = 0
        · rw [h4, dig_zero]
          have : ¬ ((n % 256 : Nat) : Int) = 0 := by omega
          simp only [List.nil_append, trimL, List.dropWhile_cons, beq_iff_eq, this]
          simp
        · cases hd : digL (n / 256) with
          | nil => rw [hd] at h3; simp [valA] at h3; omega
          | cons x t =>
            rw [hd] at h2
            have hx0 : x ≠ 0 := by
              rintro rfl
              have e1 : trimL (0 :: t) = trimL t := by simp [trimL]
              have : (trimL t).length ≤ t.length := (List.dropWhile_sublist _).length_le
              rw [← e1, h2] at this
              simp at this
              omega
            simp [trimL, hx0]
      · rw [val_snoc, h3]; omega

theorem or_u64 (c x : Int) (hc : 0 ≤ c ∧ c < 72057594037927936) (hx : 0 ≤ x ∧ x < 256) : IntKind.u64.wrap (BitVec.ofInt IntKind.u64.bits (256 * c) ||| BitVec.ofInt IntKind.u64.bits x).toNat = 256 * c + x := by
  obtain ⟨c, rfl⟩ : ∃ m : Nat, c = m := ⟨c.toNat, by omega⟩
  obtain ⟨x, rfl⟩ : ∃ m : Nat, x = m := ⟨x.toNat, by omega⟩
  have h1 : 2 ^ 8 * c + x = 2 ^ 8 * c ||| x := Nat.two_pow_add_eq_or_of_lt (i := 8) (by omega) c
  have e1 : (BitVec.ofInt IntKind.u64.bits (256 * (c : Int))).toNat = 256 * c := by
    rw [BitVec.toNat_ofInt]; simp only [IntKind.bits]; omega
  have e2 : (BitVec.ofInt IntKind.u64.bits (x : Int)).toNat = x := by
    rw [BitVec.toNat_ofInt]; simp only [IntKind.bits]; omega
  rw [BitVec.toNat_or, e1, e2]
  have h2 : 256 * c ||| x = 256 * c + x := h1.symm
  rw [h2]
  simp only [IntKind.wrap, IntKind.signed, IntKind.bits]
  simp
  omega

theorem neg_wrap (v : Int) (h0 : 0 ≤ v) (h1 : v ≤ 9223372036854775808) : IntKind.i64.wrap (IntKind.u64.wrap (0 - v)) = -v := by
  simp only [IntKind.wrap, IntKind.signed, IntKind.bits]
  simp
  omega
abbrev intR (v : Option Int) : Av := .tup [lv (.int .i64 (v.getD 0)), lv (.int .i64 (cond v.isSome 0 2))]
theorem int_ok (b : Bool) (l : List Int) (hl : l.length ≤ 1000000) (hw : WfB l) : Ct Try.prog 29 [numA b l] [] (intR (intV (madeB b l) (trimL l))) [] [] := by
  have hws := wf_trim hw
  refine Ct_intro Try.func29 rfl rfl rfl rfl rfl (fun E hn hb => ?_)
  repeat (first | refine W_seq ?_ | refine W_region ?_ | refine W_block ?_ | refine W_skip ?_ | refine W_ret ?_ | refine W_exit ?_ | refine WL_nil ?_ | refine N_then ?_ | refine N_then_exit ?_ | refine N_then_ret ?_ | refine N_block ?_ | refine N_block_ret ?_ | refine N_block_exit ?_ | refine N_block_pass rfl ?_ | refine sp true rfl rfl (by rw [hn]; rfl) (by first | trivial | (simp; done) | (simp; omega) | (simp at *; done) | (simp at *; omega)) ?_ | refine sg true rfl rfl rfl (by rw [hn]; rfl) (by intro hG; first | trivial | (simp; done) | (simp; omega) | (simp at *; done) | (simp at *; omega)) ?_)
  refine s_boxN rfl rfl rfl (by rw [hn]; rfl) rfl (by first | trivial | (simp; done) | (simp; omega) | (simp at *; done) | (simp at *; omega)) rfl rfl ?_
  repeat (first | refine W_seq ?_ | refine W_region ?_ | refine W_block ?_ | refine W_skip ?_ | refine W_ret ?_ | refine W_exit ?_ | refine WL_nil ?_ | refine N_then ?_ | refine N_then_exit ?_ | refine N_then_ret ?_ | refine N_block ?_ | refine N_block_ret ?_ | refine N_block_exit ?_ | refine N_block_pass rfl ?_ | refine sp true rfl rfl (by rw [hn]; rfl) (by first | trivial | (simp; done) | (simp; omega) | (simp at *; done) | (simp at *; omega)) ?_ | refine sg true rfl rfl rfl (by rw [hn]; rfl) (by intro hG; first | trivial | (simp; done) | (simp; omega) | (simp at *; done) | (simp at *; omega)) ?_)
  refine s_call0 (made_ok b l hl) rfl rfl rfl (by rw [hn]; rfl) rfl rfl (by first | trivial | (simp; done) | (simp; omega) | (simp at *; done) | (simp at *; omega)) rfl rfl rfl ?_
  refine s_storeN rfl rfl rfl rfl rfl (by first | trivial | (simp; done) | (simp; omega) | (simp at *; done) | (simp at *; omega)) rfl rfl rfl (by rw [cellsOf30]; rfl) (by rw [info30]; rfl) rfl rfl ?_
  repeat (first | refine W_seq ?_ | refine W_region ?_ | refine W_block ?_ | refine W_skip ?_ | refine W_ret ?_ | refine W_exit ?_ | refine WL_nil ?_ | refine N_then ?_ | refine N_then_exit ?_ | refine N_then_ret ?_ | refine N_block ?_ | refine N_block_ret ?_ | refine N_block_exit ?_ | refine N_block_pass rfl ?_ | refine sp true rfl rfl (by rw [hn]; rfl) (by first | trivial | (simp; done) | (simp; omega) | (simp at *; done) | (simp at *; omega)) ?_ | refine sg true rfl rfl rfl (by rw [hn]; rfl) (by intro hG; first | trivial | (simp; done) | (simp; omega) | (simp at *; done) | (simp at *; omega)) ?_)
  generalize trimL l = s at *
  generalize madeB b l = be at *
  refine W_cond rfl (by simp) (fun h1 => ?_) (fun h1 => ?_)
  · have e : intV be s = none := by
      have : 8 < s.length := by simp at h1; omega
      rw [intV, if_pos this]
    rw [e]
    repeat (first | refine W_seq ?_ | refine W_region ?_ | refine W_block ?_ | refine W_skip ?_ | refine W_ret ?_ | refine W_exit ?_ | refine WL_nil ?_ | refine N_then ?_ | refine N_then_exit ?_ | refine N_then_ret ?_ | refine N_block ?_ | refine N_block_ret ?_ | refine N_block_exit ?_ | refine N_block_pass rfl ?_ | refine sp true rfl rfl (by rw [hn]; rfl) (by first | trivial | (simp; done) | (simp; omega) | (simp at *; done) | (simp at *; omega)) ?_ | refine sg true rfl rfl rfl (by rw [hn]; rfl) (by intro hG; first | trivial | (simp; done) | (simp; omega) | (simp at *; done) | (simp at *; omega)) ?_)
    exact N_retN [] rfl (by first | trivial | (simp; done) | (simp; omega) | (simp at *; done) | (simp at *; omega)) ⟨rfl, by first | trivial | exact ⟨rfl, rfl⟩, by first | trivial | exact rfl | exact ⟨rfl, rfl⟩, rfl⟩ hb rfl (by first | trivial | (simp; done) | (simp [ordL]; done))
  · have h8 : s.length ≤ 8 := by simp at h1; omega
    repeat (first | refine W_seq ?_ | refine W_region ?_ | refine W_block ?_ | refine W_skip ?_ | refine W_ret ?_ | refine W_exit ?_ | refine WL_nil ?_ | refine N_then ?_ | refine N_then_exit ?_ | refine N_then_ret ?_ | refine N_block ?_ | refine N_block_ret ?_ | refine N_block_exit ?_ | refine N_block_pass rfl ?_ | refine sp true rfl rfl (by rw [hn]; rfl) (by first | trivial | (simp; done) | (simp; omega) | (simp at *; done) | (simp at *; omega)) ?_ | refine sg true rfl rfl rfl (by rw [hn]; rfl) (by intro hG; first | trivial | (simp; done) | (simp; omega) | (simp at *; done) | (simp at *; omega)) ?_)
    refine W_weaken (St.le_of (l := [(1, .c (.ptr 65 0)), (4, lv (.int .u64 0)), (17, B8 s), (18, lv (.int .i64 (s.length : Int))), (19, lv (.int .i64 0))]) (h := [(65, .cells [.lf (.v (.bool be)), .lf (.ints .u8 s)])]) (by refine ⟨?_, ?_⟩ <;> (repeat' (first | exact trivial | exact rfl | refine ⟨?_, ?_⟩)) <;> first | exact rfl | (simp; done) | skip)) ?_
    refine W_loop (ι := {i : Nat // i ≤ s.length}) (fun i => St.of [(1, .c (.ptr 65 0)), (4, lv (.int .u64 (valA 0 (s.take i.1)))), (17, B8 s), (18, lv (.int .i64 (s.length : Int))), (19, lv (.int .i64 (i.1 : Int)))] [(65, .cells [.lf (.v (.bool be)), .lf (.ints .u8 s)])]) (fun i => s.length - i.1) (fun i => ?_) ⟨0, by omega⟩
    obtain ⟨i, hi⟩ := i
    dsimp only
    have hwt : WfB (s.take i) := wf_take hws i
    have hv0 := val_nonneg (s.take i) 0 (by decide) hwt
    repeat (first | refine W_seq ?_ | refine W_region ?_ | refine W_block ?_ | refine W_skip ?_ | refine W_ret ?_ | refine W_exit ?_ | refine WL_nil ?_ | refine N_then ?_ | refine N_then_exit ?_ | refine N_then_ret ?_ | refine N_block ?_ | refine N_block_ret ?_ | refine N_block_exit ?_ | refine N_block_pass rfl ?_ | refine sp true rfl rfl (by rw [hn]; rfl) (by first | trivial | (simp; done) | (simp; omega) | (simp at *; done) | (simp at *; omega)) ?_ | refine sg true rfl rfl rfl (by rw [hn]; rfl) (by intro hG; first | trivial | (simp; done) | (simp; omega) | (simp at *; done) | (simp at *; omega)) ?_)
    refine W_cond rfl (by simp) (fun hc => ?_) (fun hc => ?_)
    · have hi8 : i < s.length := by simp at hc; omega
      have hv1 : valA 0 (s.take i) < 256 ^ 7 := val_lt (s.take i) 7 (by simp; omega) hwt
      have hx := hws s[i] (List.getElem_mem hi8)
      have hT : s.take (i + 1) = s.take i ++ [s[i]] := by rw [List.take_add_one, List.getElem?_eq_getElem hi8]; rfl
      have hg : s.getD (i : Int).toNat 0 = s[i] := by simp [hi8]
      have hvs := val_snoc (s.take i) s[i]
      rw [← hT] at hvs
      generalize valA 0 (s.take i) = v at *
      have e8 : v * 2 ^ min (Int.toNat 8) IntKind.u64.bits = 256 * v := by
        have : min (Int.toNat 8) IntKind.u64.bits = 8 := by decide
        rw [this]; omega
      have hv2 : v < 72057594037927936 := by omega
      repeat (first | refine W_seq ?_ | refine W_region ?_ | refine W_block ?_ | refine W_skip ?_ | refine W_ret ?_ | refine W_exit ?_ | refine WL_nil ?_ | refine N_then ?_ | refine N_then_exit ?_ | refine N_then_ret ?_ | refine N_block ?_ | refine N_block_ret ?_ | refine N_block_exit ?_ | refine N_block_pass rfl ?_ | refine sp true rfl rfl (by rw [hn]; rfl) (by first | trivial | (simp; done) | (simp; omega) | (simp at *; done) | (simp at *; omega)) ?_ | refine sg true rfl rfl rfl (by rw [hn]; rfl) (by intro hG; first | trivial | (simp; done) | (simp; omega) | (simp at *; done) | (simp at *; omega)) ?_)
      rw [hg]
      rw [e8]
      rw [or_u64 v s[i] ⟨hv0, hv2⟩ hx]
      repeat (first | refine W_seq ?_ | refine W_region ?_ | refine W_block ?_ | refine W_skip ?_ | refine W_ret ?_ | refine W_exit ?_ | refine WL_nil ?_ | refine N_then ?_ | refine N_then_exit ?_ | refine N_then_ret ?_ | refine N_block ?_ | refine N_block_ret ?_ | refine N_block_exit ?_ | refine N_block_pass rfl ?_ | refine sp true rfl rfl (by rw [hn]; rfl) (by first | trivial | (simp; done) | (simp; omega) | (simp at *; done) | (simp at *; omega)) ?_ | refine sg true rfl rfl rfl (by rw [hn]; rfl) (by intro hG; first | trivial | (simp; done) | (simp; omega) | (simp at *; done) | (simp at *; omega)) ?_)
      refine N_round ⟨i + 1, by omega⟩ (by dsimp only; omega) (St.le_of ⟨⟨rfl, ?_, rfl, rfl, rfl⟩, rfl⟩)
      show lv (.int .u64 (256 * v + s[i])) = lv (.int .u64 (valA 0 (s.take (i + 1))))
      rw [hvs]
    · have : i = s.length := by simp at hc; omega
      subst this
      rw [List.take_length] at *
      have hv1 : valA 0 s < 256 ^ 8 := val_lt s 8 h8 hws
      have hI : intV be s = if be then (if valA 0 s ≤ 9223372036854775808 then some (-(valA 0 s)) else none) else (if valA 0 s ≤ 9223372036854775807 then some (valA 0 s) else none) := by
        rw [intV, if_neg (by omega)]
      generalize intV be s = I at *
      generalize valA 0 s = v at *
      have hv2 : v < 18446744073709551616 := by omega
      clear hv1
      repeat (first | refine W_seq ?_ | refine W_region ?_ | refine W_block ?_ | refine W_skip ?_ | refine W_ret ?_ | refine W_exit ?_ | refine WL_nil ?_ | refine N_then ?_ | refine N_then_exit ?_ | refine N_then_ret ?_ | refine N_block ?_ | refine N_block_ret ?_ | refine N_block_exit ?_ | refine N_block_pass rfl ?_ | refine sp true rfl rfl (by rw [hn]; rfl) (by first | trivial | (simp; done) | (simp; omega) | (simp at *; done) | (simp at *; omega)) ?_ | refine sg true rfl rfl rfl (by rw [hn]; rfl) (by intro hG; first | trivial | (simp; done) | (simp; omega) | (simp at *; done) | (simp at *; omega)) ?_)
      refine W_cond rfl (by simp) (fun hq => ?_) (fun hq => ?_)
      · have hbe : be = true ∧ v ≤ 9223372036854775808 := by cases be <;> simp at hq <;> simp [hq]
        obtain ⟨rfl, hv3⟩ := hbe
        rw [if_pos rfl, if_pos hv3] at hI
        subst hI
        repeat (first | refine W_seq ?_ | refine W_region ?_ | refine W_block ?_ | refine W_skip ?_ | refine W_ret ?_ | refine W_exit ?_ | refine WL_nil ?_ | refine N_then ?_ | refine N_then_exit ?_ | refine N_then_ret ?_ | refine N_block ?_ | refine N_block_ret ?_ | refine N_block_exit ?_ | refine N_block_pass rfl ?_ | refine sp true rfl rfl (by rw [hn]; rfl) (by first | trivial | (simp; done) | (simp; omega) | (simp at *; done) | (simp at *; omega)) ?_ | refine sg true rfl rfl rfl (by rw [hn]; rfl) (by intro hG; first | trivial | (simp; done) | (simp; omega) | (simp at *; done) | (simp at *; omega)) ?_)
        refine sp false rfl rfl (by rw [hn]; rfl) (by first | trivial | (simp; done) | (simp; omega) | (simp at *; done) | (simp at *; omega)) ?_
        refine sp false rfl rfl (by rw [hn]; rfl) (by first | trivial | (simp; done) | (simp; omega) | (simp at *; done) | (simp at *; omega)) ?_
        rw [neg_wrap v hv0 hv3]
        repeat (first | refine W_seq ?_ | refine W_region ?_ | refine W_block ?_ | refine W_skip ?_ | refine W_ret ?_ | refine W_exit ?_ | refine WL_nil ?_ | refine N_then ?_ | refine N_then_exit ?_ | refine N_then_ret ?_ | refine N_block ?_ | refine N_block_ret ?_ | refine N_block_exit ?_ | refine N_block_pass rfl ?_ | refine sp true rfl rfl (by rw [hn]; rfl) (by first | trivial | (simp; done) | (simp; omega) | (simp at *; done) | (simp at *; omega)) ?_ | refine sg true rfl rfl rfl (by rw [hn]; rfl) (by intro hG; first | trivial | (simp; done) | (simp; omega) | (simp at *; done) | (simp at *; omega)) ?_)
        exact N_retN [] rfl (by first | trivial | (simp; done) | (simp; omega) | (simp at *; done) | (simp at *; omega)) ⟨rfl, by first | trivial | exact ⟨rfl, rfl⟩, by first | trivial | exact rfl | exact ⟨rfl, rfl⟩, rfl⟩ hb rfl (by first | trivial | (simp; done) | (simp [ordL]; done))
      · have hbe : ¬ (be = true ∧ v ≤ 9223372036854775808) := by rintro ⟨rfl, h⟩; simp [h] at hq
        repeat (first | refine W_seq ?_ | refine W_region ?_ | refine W_block ?_ | refine W_skip ?_ | refine W_ret ?_ | refine W_exit ?_ | refine WL_nil ?_ | refine N_then ?_ | refine N_then_exit ?_ | refine N_then_ret ?_ | refine N_block ?_ | refine N_block_ret ?_ | refine N_block_exit ?_ | refine N_block_pass rfl ?_ | refine sp true rfl rfl (by rw [hn]; rfl) (by first | trivial | (simp; done) | (simp; omega) | (simp at *; done) | (simp at *; omega)) ?_ | refine sg true rfl rfl rfl (by rw [hn]; rfl) (by intro hG; first | trivial | (simp; done) | (simp; omega) | (simp at *; done) | (simp at *; omega)) ?_)
        refine W_cond rfl (by simp) (fun hr => ?_) (fun hr => ?_)
        · have hbf : be = false ∧ v ≤ 9223372036854775807 := by cases be <;> simp at hr <;> simp [hr]
          obtain ⟨rfl, hv3⟩ := hbf
          rw [if_neg (by simp), if_pos hv3] at hI
          subst hI
          repeat (first | refine W_seq ?_ | refine W_region ?_ | refine W_block ?_ | refine W_skip ?_ | refine W_ret ?_ | refine W_exit ?_ | refine WL_nil ?_ | refine N_then ?_ | refine N_then_exit ?_ | refine N_then_ret ?_ | refine N_block ?_ | refine N_block_ret ?_ | refine N_block_exit ?_ | refine N_block_pass rfl ?_ | refine sp true rfl rfl (by rw [hn]; rfl) (by first | trivial | (simp; done) | (simp; omega) | (simp at *; done) | (simp at *; omega)) ?_ | refine sg true rfl rfl rfl (by rw [hn]; rfl) (by intro hG; first | trivial | (simp; done) | (simp; omega) | (simp at *; done) | (simp at *; omega)) ?_)
          exact N_retN [] rfl (by first | trivial | (simp; done) | (simp; omega) | (simp at *; done) | (simp at *; omega)) ⟨rfl, by first | trivial | exact ⟨rfl, rfl⟩, by first | trivial | exact rfl | exact ⟨rfl, rfl⟩, rfl⟩ hb rfl (by first | trivial | (simp; done) | (simp [ordL]; done))
        · have hbf : ¬ (be = false ∧ v ≤ 9223372036854775807) := by rintro ⟨rfl, h⟩; simp [h] at hr
          have : I = none := by
            rw [hI]
            cases be with
            | true => rw [if_pos rfl, if_neg (fun h => hbe ⟨rfl, h⟩)]
            | false => rw [if_neg (by simp), if_neg (fun h => hbf ⟨rfl, h⟩)]
          subst this
          repeat (first | refine W_seq ?_ | refine W_region ?_ | refine W_block ?_ | refine W_skip ?_ | refine W_ret ?_ | refine W_exit ?_ | refine WL_nil ?_ | refine N_then ?_ | refine N_then_exit ?_ | refine N_then_ret ?_ | refine N_block ?_ | refine N_block_ret ?_ | refine N_block_exit ?_ | refine N_block_pass rfl ?_ | refine sp true rfl rfl (by rw [hn]; rfl) (by first | trivial | (simp; done) | (simp; omega) | (simp at *; done) | (simp at *; omega)) ?_ | refine sg true rfl rfl rfl (by rw [hn]; rfl) (by intro hG; first | trivial | (simp; done) | (simp; omega) | (simp at *; done) | (simp at *; omega)) ?_)
          exact N_retN [] rfl (by first | trivial | (simp; done) | (simp; omega) | (simp at *; done) | (simp at *; omega)) ⟨rfl, by first | trivial | exact ⟨rfl, rfl⟩, by first | trivial | exact rfl | exact ⟨rfl, rfl⟩, rfl⟩ hb rfl (by first | trivial | (simp; done) | (simp [ordL]; done))
end Go.Proofs.Ytppmfjopokkhmaa

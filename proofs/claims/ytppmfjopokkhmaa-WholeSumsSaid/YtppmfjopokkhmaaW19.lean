/-
  Chapter 03: texts as numbers, the program's way. The conditions: rows of at most a hundred thousand bytes.
-/
import Derived.Test.YtppmfjopokkhmaaW18
namespace Go.Proofs.Ytppmfjopokkhmaa
set_option linter.unusedSimpArgs false
set_option linter.unusedVariables false
open Go.Sx

set_option maxRecDepth 10000

/-! Values, digits. -/
theorem dig_eq (a : List Int) (n : Nat) (hw : WfB a) (ht : trimL a = a) (hv : valA 0 a = n) : a = digL n := by
  obtain ⟨d1, d2, d3⟩ := dig_spec n n (Nat.le_refl _)
  exact val_inj a.length a (digL n) (Nat.le_refl _) hw d1 ht d2 (by rw [hv, d3])
theorem trim_dig (a : List Int) (n : Nat) (hw : WfB a) (hv : valA 0 a = n) : trimL a = digL n :=
  dig_eq _ n (fun x hx => hw x ((List.dropWhile_sublist _).subset hx)) (by
    have key : ∀ l : List Int, trimL (trimL l) = trimL l := by
      intro l
      induction l with
      | nil => rfl
      | cons x l ih =>
        by_cases hx : x = 0
        · subst hx
          have e1 : trimL (0 :: l) = trimL l := by simp [trimL]
          rw [e1, ih]
        · have e1 : trimL (x :: l) = x :: l := by simp [trimL, hx]
          rw [e1, e1]
    exact key a) (by rw [val_trim, hv])

/-- A size ten times, and a digit more. -/
def timC (d : Int) : List Int → List Int × Int
  | [] => ([], d)
  | x :: l => ((10 * x + (timC d l).2) % 256 :: (timC d l).1, (10 * x + (timC d l).2) / 256)
theorem tim_len (d : Int) : ∀ l : List Int, (timC d l).1.length = l.length
  | [] => rfl
  | x :: l => by simp [timC, tim_len d l]
theorem tim_low (d : Int) (hd : 0 ≤ d ∧ d < 10) : ∀ l : List Int, WfB l → 0 ≤ (timC d l).2 ∧ (timC d l).2 < 10
  | [], _ => hd
  | x :: l, hw => by
    have hx := hw x (List.mem_cons_self ..)
    have := tim_low d hd l (wf_tail hw)
    simp only [timC]
    omega
theorem tim_wf (d : Int) : ∀ l : List Int, WfB (timC d l).1
  | [] => fun x hx => by cases hx
  | x :: l => by
    intro y hy
    simp only [timC] at hy
    cases hy with
    | head => omega
    | tail _ hy => exact tim_wf d l y hy
theorem tim_val (d : Int) : ∀ (l : List Int) (q : Int), valA (10 * q + (timC d l).2) (timC d l).1 = 10 * valA q l + d
  | [], q => rfl
  | x :: l, q => by
    have := tim_val d l (256 * q + x)
    simp only [timC, valA]
    rw [← this]
    congr 1
    omega
theorem tim_cons (d : Int) (hd : 0 ≤ d ∧ d < 10) (l : List Int) (hw : WfB l) (n : Nat) (hv : valA 0 l = n) : trimL ((timC d l).2 :: (timC d l).1) = digL (10 * n + d.toNat) := by
  have hlow := tim_low d hd l hw
  refine trim_dig _ _ ?_ ?_
  · intro x hx
    cases hx with
    | head => omega
    | tail _ hx => exact tim_wf d l x hx
  · have := tim_val d l 0
    simp only [valA]
    have e : 256 * 0 + (timC d l).2 = 10 * 0 + (timC d l).2 := by omega
    rw [e, this, hv]
    omega
/-- The document's way: a digit ahead where there is one. -/
theorem tim_ahead (d : Int) (hd : 0 ≤ d ∧ d < 10) (n : Nat) : (if 0 < (timC d (digL n)).2 then (timC d (digL n)).2 :: (timC d (digL n)).1 else (timC d (digL n)).1) = digL (10 * n + d.toNat) := by
  obtain ⟨d1, d2, d3⟩ := dig_spec n n (Nat.le_refl _)
  have hlow := tim_low d hd (digL n) d1
  have hw := tim_wf d (digL n)
  have hv := tim_val d (digL n) 0
  rw [d3] at hv
  split
  · rename_i h
    refine dig_eq _ _ ?_ ?_ ?_
    · intro x hx
      cases hx with
      | head => omega
      | tail _ hx => exact hw x hx
    · have : (timC d (digL n)).2 ≠ 0 := by omega
      simp [trimL, this]
    · simp only [valA]
      have e : 256 * 0 + (timC d (digL n)).2 = 10 * 0 + (timC d (digL n)).2 := by omega
      rw [e, hv]
      omega
  · rename_i h
    have h0 : (timC d (digL n)).2 = 0 := by omega
    rw [h0] at hv
    refine dig_eq _ _ hw ?_ (by rw [show (0 : Int) = 10 * 0 + 0 by rfl, hv]; omega)
    cases hl : digL n with
    | nil => rfl
    | cons x t =>
      rw [hl] at d1 d2 h0
      have hx := d1 x (List.mem_cons_self ..)
      have hx0 : x ≠ 0 := by
        rintro rfl
        have e1 : trimL (0 :: t) = trimL t := by simp [trimL]
        have : (trimL t).length ≤ t.length := (List.dropWhile_sublist _).length_le
        rw [← e1, d2] at this
        simp at this
        omega
      have hc := tim_low d hd t (wf_tail d1)
      simp only [timC] at h0 ⊢
      have : (10 * x + (timC d t).2) % 256 ≠ 0 := by omega
      simp [trimL, this]

/-- The value of decimal signs. -/
def decV (d : List Int) : Nat := d.foldl (fun a x => 10 * a + (x - 48).toNat) 0
theorem decV_snoc (d : List Int) (x : Int) : decV (d ++ [x]) = 10 * decV d + (x - 48).toNat := by simp [decV]
def isDig (x : Int) : Bool := decide (48 ≤ x) && decide (x ≤ 57)
/-- Is it a text with a minus sign, and what is behind it. -/
def negB (l : List Int) : Bool := decide (0 < (l.length : Int)) && (l.getD 0 0 == 45)
def bodyL (l : List Int) : List Int := cond (negB l) (l.drop 1) l
def badB (l : List Int) : Bool := decide (bodyL l = []) || ((bodyL l).getD 0 0 == 48 && (decide (1 < ((bodyL l).length : Int)) || negB l))
/-- The number of a text. -/
def fromN (l : List Int) : Bool × List Int × Int :=
  if badB l = true then (false, [], 6) else if (bodyL l).all isDig = false then (false, [], 6) else if (400 : Int) < (bodyL l).length then (false, [], 2)
  else (madeB (negB l) (digL (decV (bodyL l))), digL (decV (bodyL l)), 0)
theorem badB_ref (l : List Int) : (decide (bodyL l = []) || ((bodyL l).getD 0 0 == 48 && decide (l ≠ [48]))) = badB l := by
  unfold badB
  cases hb : bodyL l with
  | nil => simp
  | cons x t =>
    by_cases hx : x = 48
    · subst hx
      unfold bodyL at hb
      cases hn : negB l with
      | true =>
        have : l ≠ [48] := by
          rintro rfl
          simp [negB] at hn
        simp [this]
      | false =>
        rw [hn] at hb
        simp only [cond_false] at hb
        subst hb
        cases t with
        | nil => simp
        | cons y t => simp; omega
    · have : (x == 48) = false := by simpa using hx
      simp [this]

/-- Digits, the lowest first. -/
def decD (n : Nat) : List Int := if h : n = 0 then [] else ((n % 10 : Nat) : Int) :: decD (n / 10)
termination_by n
decreasing_by omega
theorem decD_zero : decD 0 = [] := by rw [decD]; simp
theorem decD_pos {n : Nat} (h : n ≠ 0) : decD n = ((n % 10 : Nat) : Int) :: decD (n / 10) := by rw [decD]; simp [h]
theorem decL_D : ∀ (k n : Nat), n ≤ k → decL n = (decD n).map (fun x => 48 + x)
  | 0, n, h => by
    have : n = 0 := by omega
    subst this; rw [decL_zero, decD_zero]; rfl
  | k + 1, n, h => by
    by_cases h0 : n = 0
    · subst h0; rw [decL_zero, decD_zero]; rfl
    · rw [decL_pos h0, decD_pos h0, decL_D k (n / 10) (by omega)]; rfl
theorem decD_wf : ∀ (k n : Nat), n ≤ k → ∀ x ∈ decD n, 0 ≤ x ∧ x < 10
  | 0, n, h => by
    have : n = 0 := by omega
    subst this; rw [decD_zero]; intro x hx; cases hx
  | k + 1, n, h => by
    by_cases h0 : n = 0
    · subst h0; rw [decD_zero]; intro x hx; cases hx
    · rw [decD_pos h0]
      intro x hx
      cases hx with
      | head => omega
      | tail _ hx => exact decD_wf k (n / 10) (by omega) x hx
/-- Digits 256 times, and more. -/
def mulC : List Int → Int → List Int × Int
  | [], c => ([], c)
  | x :: l, c => ((256 * x + c) % 10 :: (mulC l ((256 * x + c) / 10)).1, (mulC l ((256 * x + c) / 10)).2)
theorem mul_dec : ∀ (k v c : Nat), v ≤ k → (mulC (decD v) c).1 ++ decD (mulC (decD v) c).2.toNat = decD (256 * v + c)
  | 0, v, c, h => by
    have : v = 0 := by omega
    subst this; rw [decD_zero]; simp [mulC]
  | k + 1, v, c, h => by
    by_cases h0 : v = 0
    · subst h0; rw [decD_zero]; simp [mulC]
    · have ih := mul_dec k (v / 10) ((256 * (v % 10) + c) / 10) (by omega)
      rw [decD_pos h0, decD_pos (show 256 * v + c ≠ 0 by omega)]
      simp only [mulC, List.cons_append]
      have e1 : (256 * ((v % 10 : Nat) : Int) + (c : Int)) / 10 = (((256 * (v % 10) + c) / 10 : Nat) : Int) := by omega
      have e2 : (256 * ((v % 10 : Nat) : Int) + (c : Int)) % 10 = (((256 * v + c) % 10 : Nat) : Int) := by omega
      have e3 : (256 * v + c) / 10 = 256 * (v / 10) + (256 * (v % 10) + c) / 10 := by omega
      rw [e1, e2, ih, e3]

/-- What is written is read as it was, and what is read is written as it was. -/
theorem decV_decL : ∀ (k n : Nat), n ≤ k → decV (decL n).reverse = n
  | 0, n, h => by
    have : n = 0 := by omega
    subst this; rw [decL_zero]; rfl
  | k + 1, n, h => by
    by_cases h0 : n = 0
    · subst h0; rw [decL_zero]; rfl
    · rw [decL_pos h0, List.reverse_cons, decV_snoc, decV_decL k (n / 10) (by omega)]
      omega
theorem decL_isDig : ∀ (k n : Nat), n ≤ k → (decL n).all isDig = true
  | 0, n, h => by
    have : n = 0 := by omega
    subst this; rw [decL_zero]; rfl
  | k + 1, n, h => by
    by_cases h0 : n = 0
    · subst h0; rw [decL_zero]; rfl
    · rw [decL_pos h0, List.all_cons, decL_isDig k (n / 10) (by omega)]
      simp [isDig]; omega
/-- No nought ahead. -/
theorem decL_last : ∀ (k n : Nat), n ≤ k → n ≠ 0 → ∃ a x, decL n = a ++ [x] ∧ 49 ≤ x ∧ x ≤ 57
  | 0, n, h, h0 => by omega
  | k + 1, n, h, h0 => by
    by_cases h1 : n / 10 = 0
    · refine ⟨[], 48 + ((n % 10 : Nat) : Int), ?_, by omega, by omega⟩
      rw [decL_pos h0, h1, decL_zero]; rfl
    · obtain ⟨a, x, e, h2⟩ := decL_last k (n / 10) (by omega) h1
      exact ⟨(48 + ((n % 10 : Nat) : Int)) :: a, x, by rw [decL_pos h0, e]; rfl, h2⟩
theorem decV_pos : ∀ (l : List Int) (a : Nat), a ≠ 0 → l.foldl (fun a x => 10 * a + (x - 48).toNat) a ≠ 0
  | [], a, h => h
  | x :: l, a, h => by simp only [List.foldl_cons]; exact decV_pos l _ (by omega)
theorem decL_decV : ∀ (k : Nat) (l : List Int), l.length ≤ k → l.all isDig = true → (∀ x t, l = x :: t → x ≠ 48) → decL (decV l) = l.reverse
  | 0, l, h, _, _ => by
    have : l = [] := List.eq_nil_of_length_eq_zero (by omega)
    subst this; exact decL_zero
  | k + 1, l, h, hd, hf => by
    rcases List.eq_nil_or_concat l with rfl | ⟨a, x, rfl⟩
    · exact decL_zero
    · simp only [List.concat_eq_append] at *
      rw [List.all_append, Bool.and_eq_true] at hd
      have hx : 48 ≤ x ∧ x ≤ 57 := by simpa [isDig] using hd.2
      have hfa : ∀ y t, a = y :: t → y ≠ 48 := fun y t e => hf y (t ++ [x]) (by rw [e]; rfl)
      have ih := decL_decV k a (by simp at h; omega) hd.1 hfa
      rw [decV_snoc, List.reverse_append, ← ih]
      have hne : 10 * decV a + (x - 48).toNat ≠ 0 := by
        cases a with
        | nil =>
          have := hf x [] rfl
          omega
        | cons y t =>
          have hy := hfa y t rfl
          have hyd : 48 ≤ y := by
            have := hd.1
            simp [isDig] at this
            omega
          have : decV (y :: t) ≠ 0 := by
            unfold decV
            rw [List.foldl_cons]
            exact decV_pos t _ (by omega)
          omega
      rw [decL_pos hne]
      have e1 : (10 * decV a + (x - 48).toNat) / 10 = decV a := by omega
      have e2 : 48 + (((10 * decV a + (x - 48).toNat) % 10 : Nat) : Int) = x := by omega
      rw [e1, e2]; rfl

/-! Strings as rows of bytes. -/
theorem str_of (t : ByteArray) : ∃ l : List Int, t = strOfNums l ∧ WfB l ∧ l.length = t.size := by
  refine ⟨bs t, ?_, ?_, ?_⟩
  · apply ByteArray.ext
    apply Array.ext'
    rw [strOfNums_data]
    simp only [bs, List.map_map]
    conv => lhs; rw [← List.map_id t.data.toList]
    apply List.map_congr_left
    intro b _
    show b = UInt8.ofNat ((b.toNat : Int)).toNat
    rw [Int.toNat_natCast, UInt8.ofNat_toNat]
  · intro x hx
    obtain ⟨b, _, rfl⟩ := List.mem_map.1 hx
    have := b.toNat_lt
    omega
  · show (t.data.toList.map _).length = t.data.size
    rw [List.length_map, Array.length_toList]
theorem bs_str {l : List Int} (h : WfB l) : bs (strOfNums l) = l := by
  simp only [bs, strOfNums_data, List.map_map]
  conv => rhs; rw [← List.map_id l]
  apply List.map_congr_left
  intro x hx
  have := h x hx
  simp only [Function.comp]
  rw [UInt8.toNat_ofNat']
  simp only [id]
  omega
theorem ext_str (l : List Int) (a b : Nat) : (strOfNums l).extract a b = strOfNums ((l.take b).drop a) := by
  apply ByteArray.ext
  apply Array.ext'
  rw [strOfNums_data]
  simp only [ByteArray.data_extract, Array.toList_extract, strOfNums_data]
  simp [List.extract_eq_take_drop, List.map_take, List.map_drop, List.drop_take]
theorem app_str (a b : List Int) : strOfNums a ++ strOfNums b = strOfNums (a ++ b) := by
  apply ByteArray.ext
  apply Array.ext'
  rw [strOfNums_data, ByteArray.data_append]
  simp [strOfNums_data]

theorem times_ok (l : List Int) (d : Int) (hd : 0 ≤ d ∧ d < 10) (hl : l.length ≤ 100000) (hw : WfB l) : Ct Try.prog 74 [B8 l, lv (.int .u8 d)] [] (B8 (trimL ((timC d l).2 :: (timC d l).1))) [] [] := by
  refine Ct_intro Try.func74 rfl rfl rfl rfl rfl (fun E hn hb => ?_)
  repeat (first | refine W_seq ?_ | refine W_region ?_ | refine W_block ?_ | refine W_skip ?_ | refine W_ret ?_ | refine W_exit ?_ | refine WL_nil ?_ | refine N_then ?_ | refine N_then_exit ?_ | refine N_then_ret ?_ | refine N_block ?_ | refine N_block_ret ?_ | refine N_block_exit ?_ | refine N_block_pass rfl ?_ | refine sp true rfl rfl (by rw [hn]; rfl) (by first | trivial | (simp; done) | (simp; omega) | (simp at *; done) | (simp at *; omega)) ?_ | refine sg true rfl rfl rfl (by rw [hn]; rfl) (by intro hG; first | trivial | (simp; done) | (simp; omega) | (simp at *; done) | (simp at *; omega)) ?_)
  refine s_makeI (by_ := 1) rfl rfl rfl (by rw [hn]; rfl) (elt_mk Try.underlying22 rfl rfl) rfl rfl rfl (by first | trivial | (simp; done) | (simp; omega) | (simp at *; done) | (simp at *; omega)) (l.length + 1) (by first | rfl | (simp; done) | omega) (by first | (simp; done) | omega | (simp at *; omega)) ?_
  repeat (first | refine W_seq ?_ | refine W_region ?_ | refine W_block ?_ | refine W_skip ?_ | refine W_ret ?_ | refine W_exit ?_ | refine WL_nil ?_ | refine N_then ?_ | refine N_then_exit ?_ | refine N_then_ret ?_ | refine N_block ?_ | refine N_block_ret ?_ | refine N_block_exit ?_ | refine N_block_pass rfl ?_ | refine sp true rfl rfl (by rw [hn]; rfl) (by first | trivial | (simp; done) | (simp; omega) | (simp at *; done) | (simp at *; omega)) ?_ | refine sg true rfl rfl rfl (by rw [hn]; rfl) (by intro hG; first | trivial | (simp; done) | (simp; omega) | (simp at *; done) | (simp at *; omega)) ?_)
  generalize hm : l.length = m at *
  have e0 : List.replicate (m + 1) (0 : Int) = 0 :: (List.replicate m 0 ++ (timC d (l.drop m)).1) := by
    rw [List.drop_of_length_le (by omega)]; simp [timC, List.replicate_succ]
  have e3 : d = (timC d (l.drop m)).2 := by rw [List.drop_of_length_le (by omega)]; rfl
  refine W_weaken (St.le_of (l := [(0, B8 l), (5, .c (.own 76 1 0 (m + 1))), (6, lv (.int .i64 d)), (7, lv (.int .i64 ((m : Int) - 1)))]) (h := [(76, .row (.ints .u8 (List.replicate (m + 1) 0)))]) (by refine ⟨?_, ?_⟩ <;> (repeat' (first | exact trivial | exact rfl | refine ⟨?_, ?_⟩)) <;> first | exact rfl | (simp; done) | skip)) ?_
  refine W_weaken (τ := St.of [(0, B8 l), (5, .c (.own 76 1 0 (m + 1))), (6, lv (.int .i64 (timC d (l.drop m)).2)), (7, lv (.int .i64 ((m : Int) - 1)))] [(76, .row (.ints .u8 (0 :: (List.replicate m 0 ++ (timC d (l.drop m)).1))))]) ?_ ?_
  · rw [← e0, ← e3]; exact ⟨fun _ => .inl rfl, fun _ => .inl rfl⟩
  refine W_loop (ι := {j : Nat // j ≤ m}) (fun j => St.of [(0, B8 l), (5, .c (.own 76 1 0 (m + 1))), (6, lv (.int .i64 (timC d (l.drop j.1)).2)), (7, lv (.int .i64 ((j.1 : Int) - 1)))] [(76, .row (.ints .u8 (0 :: (List.replicate j.1 0 ++ (timC d (l.drop j.1)).1))))]) (fun j => j.1) (fun j => ?_) ⟨m, by omega⟩
  obtain ⟨j, hj⟩ := j
  dsimp only
  repeat (first | refine W_seq ?_ | refine W_region ?_ | refine W_block ?_ | refine W_skip ?_ | refine W_ret ?_ | refine W_exit ?_ | refine WL_nil ?_ | refine N_then ?_ | refine N_then_exit ?_ | refine N_then_ret ?_ | refine N_block ?_ | refine N_block_ret ?_ | refine N_block_exit ?_ | refine N_block_pass rfl ?_ | refine sp true rfl rfl (by rw [hn]; rfl) (by first | trivial | (simp; done) | (simp; omega) | (simp at *; done) | (simp at *; omega)) ?_ | refine sg true rfl rfl rfl (by rw [hn]; rfl) (by intro hG; first | trivial | (simp; done) | (simp; omega) | (simp at *; done) | (simp at *; omega)) ?_)
  refine W_cond rfl (by simp) (fun hq => ?_) (fun hq => ?_)
  · obtain ⟨i, rfl⟩ : ∃ i, j = i + 1 := ⟨j - 1, by simp at hq; omega⟩
    have hi : i < l.length := by omega
    have hx := hw l[i] (List.getElem_mem hi)
    have hcr := tim_low d hd (l.drop (i + 1)) (fun x hx => hw x (List.mem_of_mem_drop hx))
    have e1 : ((i + 1 : Nat) : Int) - 1 = i := by omega
    have hdr : timC d (l.drop i) = ((10 * l[i] + (timC d (l.drop (i + 1))).2) % 256 :: (timC d (l.drop (i + 1))).1, (10 * l[i] + (timC d (l.drop (i + 1))).2) / 256) := by
      rw [List.drop_eq_getElem_cons hi]; rfl
    have hRl : (timC d (l.drop (i + 1))).1.length = m - (i + 1) := by rw [tim_len]; simp [hm]
    generalize hcc : (timC d (l.drop (i + 1))).2 = c at *
    generalize hRR : (timC d (l.drop (i + 1))).1 = R at *
    rw [e1]
    have hg : l.getD (i : Int).toNat 0 = l[i] := by simp [hi]
    have hrep : (0 : Int) :: (List.replicate (i + 1) 0 ++ R) = (0 :: List.replicate i 0) ++ 0 :: R := by
      rw [List.replicate_succ']; simp
    have hL : ((0 : Int) :: (List.replicate (i + 1) 0 ++ R)).length = m + 1 := by simp [hRl]; omega
    repeat (first | refine W_seq ?_ | refine W_region ?_ | refine W_block ?_ | refine W_skip ?_ | refine W_ret ?_ | refine W_exit ?_ | refine WL_nil ?_ | refine N_then ?_ | refine N_then_exit ?_ | refine N_then_ret ?_ | refine N_block ?_ | refine N_block_ret ?_ | refine N_block_exit ?_ | refine N_block_pass rfl ?_ | refine sp true rfl rfl (by rw [hn]; rfl) (by first | trivial | (simp; done) | (simp; omega) | (simp at *; done) | (simp at *; omega)) ?_ | refine sg true rfl rfl rfl (by rw [hn]; rfl) (by intro hG; first | trivial | (simp; done) | (simp; omega) | (simp at *; done) | (simp at *; omega)) ?_)
    rw [hg]
    repeat (first | refine W_seq ?_ | refine W_region ?_ | refine W_block ?_ | refine W_skip ?_ | refine W_ret ?_ | refine W_exit ?_ | refine WL_nil ?_ | refine N_then ?_ | refine N_then_exit ?_ | refine N_then_ret ?_ | refine N_block ?_ | refine N_block_ret ?_ | refine N_block_exit ?_ | refine N_block_pass rfl ?_ | refine sp true rfl rfl (by rw [hn]; rfl) (by first | trivial | (simp; done) | (simp; omega) | (simp at *; done) | (simp at *; omega)) ?_ | refine sg true rfl rfl rfl (by rw [hn]; rfl) (by intro hG; first | trivial | (simp; done) | (simp; omega) | (simp at *; done) | (simp at *; omega)) ?_)
    refine sp false rfl rfl (by rw [hn]; rfl) (by first | trivial | (simp; done) | (simp; omega) | (simp at *; done) | (simp at *; omega)) ?_
    repeat (first | refine W_seq ?_ | refine W_region ?_ | refine W_block ?_ | refine W_skip ?_ | refine W_ret ?_ | refine W_exit ?_ | refine WL_nil ?_ | refine N_then ?_ | refine N_then_exit ?_ | refine N_then_ret ?_ | refine N_block ?_ | refine N_block_ret ?_ | refine N_block_exit ?_ | refine N_block_pass rfl ?_ | refine sp true rfl rfl (by rw [hn]; rfl) (by first | trivial | (simp; done) | (simp; omega) | (simp at *; done) | (simp at *; omega)) ?_ | refine sg true rfl rfl rfl (by rw [hn]; rfl) (by intro hG; first | trivial | (simp; done) | (simp; omega) | (simp at *; done) | (simp at *; omega)) ?_)
    refine s_storeI rfl rfl rfl rfl rfl (by first | trivial | (simp; done) | (simp; omega) | (simp at *; done) | (simp at *; omega)) rfl (by rw [cellsOf5]) (by first | (simp; done) | (simp; omega) | (simp at *; omega)) ?_
    repeat (first | refine W_seq ?_ | refine W_region ?_ | refine W_block ?_ | refine W_skip ?_ | refine W_ret ?_ | refine W_exit ?_ | refine WL_nil ?_ | refine N_then ?_ | refine N_then_exit ?_ | refine N_then_ret ?_ | refine N_block ?_ | refine N_block_ret ?_ | refine N_block_exit ?_ | refine N_block_pass rfl ?_ | refine sp true rfl rfl (by rw [hn]; rfl) (by first | trivial | (simp; done) | (simp; omega) | (simp at *; done) | (simp at *; omega)) ?_ | refine sg true rfl rfl rfl (by rw [hn]; rfl) (by intro hG; first | trivial | (simp; done) | (simp; omega) | (simp at *; done) | (simp at *; omega)) ?_)
    have e2 : (l[i] * 10 + c) / 2 ^ min (Int.toNat 8) IntKind.i64.bits = (10 * l[i] + c) / 256 := by
      have : min (Int.toNat 8) IntKind.i64.bits = 8 := by decide
      rw [this, Int.mul_comm]; rfl
    have e4 : IntKind.u8.wrap (l[i] * 10 + c) = (10 * l[i] + c) % 256 := by rw [wrapE8, Int.mul_comm]
    rw [e2, e4, hrep]
    refine N_round ⟨i, by omega⟩ (by dsimp only; omega) (St.le_of ⟨⟨rfl, rfl, ?_, rfl⟩, ?_⟩)
    · show lv (.int .i64 ((10 * l[i] + c) / 256)) = lv (.int .i64 (timC d (l.drop i)).2)
      rw [hdr]
    · show Blk.row (.ints .u8 (((0 :: List.replicate i 0) ++ 0 :: R).set (0 + ((i : Int) + 1).toNat) ((10 * l[i] + c) % 256))) = Blk.row (.ints .u8 (0 :: (List.replicate i 0 ++ (timC d (l.drop i)).1)))
      rw [hdr, set_mid _ _ _ _ _ (by simp)]
      rfl
  · have : j = 0 := by simp at hq; omega
    subst this
    have htl := tim_len d l
    have hlow := tim_low d hd l hw
    rw [List.drop_zero]
    repeat (first | refine W_seq ?_ | refine W_region ?_ | refine W_block ?_ | refine W_skip ?_ | refine W_ret ?_ | refine W_exit ?_ | refine WL_nil ?_ | refine N_then ?_ | refine N_then_exit ?_ | refine N_then_ret ?_ | refine N_block ?_ | refine N_block_ret ?_ | refine N_block_exit ?_ | refine N_block_pass rfl ?_ | refine sp true rfl rfl (by rw [hn]; rfl) (by first | trivial | (simp; done) | (simp; omega) | (simp at *; done) | (simp at *; omega)) ?_ | refine sg true rfl rfl rfl (by rw [hn]; rfl) (by intro hG; first | trivial | (simp; done) | (simp; omega) | (simp at *; done) | (simp at *; omega)) ?_)
    refine s_storeI rfl rfl rfl rfl rfl (by first | trivial | (simp; done) | (simp; omega) | (simp at *; done) | (simp at *; omega)) rfl (by rw [cellsOf5]) (by first | (simp; done) | (simp; omega) | (simp at *; omega)) ?_
    repeat (first | refine W_seq ?_ | refine W_region ?_ | refine W_block ?_ | refine W_skip ?_ | refine W_ret ?_ | refine W_exit ?_ | refine WL_nil ?_ | refine N_then ?_ | refine N_then_exit ?_ | refine N_then_ret ?_ | refine N_block ?_ | refine N_block_ret ?_ | refine N_block_exit ?_ | refine N_block_pass rfl ?_ | refine sp true rfl rfl (by rw [hn]; rfl) (by first | trivial | (simp; done) | (simp; omega) | (simp at *; done) | (simp at *; omega)) ?_ | refine sg true rfl rfl rfl (by rw [hn]; rfl) (by intro hG; first | trivial | (simp; done) | (simp; omega) | (simp at *; done) | (simp at *; omega)) ?_)
    have e1 : ((0 : Int) :: (List.replicate 0 0 ++ (timC d l).1)).set (0 + Int.toNat 0) (timC d l).2 = (timC d l).2 :: (timC d l).1 := by simp
    rw [e1]
    refine WL_freeze 76 [(42, B8 ((timC d l).2 :: (timC d l).1))] rfl hb ⟨⟨rfl, rfl, rfl, ?_, ?_⟩, rfl⟩ ?_
    · simp [htl, hm]
    · rw [List.drop_zero, List.take_of_length_le (by simp [htl, hm])]
    refine s_call0 (trim_ok ((timC d l).2 :: (timC d l).1) (by simp [htl]; omega)) rfl rfl rfl (by rw [hn]; rfl) rfl rfl (by first | trivial | (simp; done) | (simp; omega) | (simp at *; done) | (simp at *; omega)) rfl rfl rfl ?_
    repeat (first | refine W_seq ?_ | refine W_region ?_ | refine W_block ?_ | refine W_skip ?_ | refine W_ret ?_ | refine W_exit ?_ | refine WL_nil ?_ | refine N_then ?_ | refine N_then_exit ?_ | refine N_then_ret ?_ | refine N_block ?_ | refine N_block_ret ?_ | refine N_block_exit ?_ | refine N_block_pass rfl ?_ | refine sp true rfl rfl (by rw [hn]; rfl) (by first | trivial | (simp; done) | (simp; omega) | (simp at *; done) | (simp at *; omega)) ?_ | refine sg true rfl rfl rfl (by rw [hn]; rfl) (by intro hG; first | trivial | (simp; done) | (simp; omega) | (simp at *; done) | (simp at *; omega)) ?_)
    exact N_retN [] rfl (by first | trivial | (simp; done) | (simp; omega) | (simp at *; done) | (simp at *; omega)) ⟨rfl, by first | trivial | exact ⟨rfl, rfl⟩, by first | trivial | exact rfl | exact ⟨rfl, rfl⟩, rfl⟩ hb rfl (by first | trivial | (simp; done))
end Go.Proofs.Ytppmfjopokkhmaa

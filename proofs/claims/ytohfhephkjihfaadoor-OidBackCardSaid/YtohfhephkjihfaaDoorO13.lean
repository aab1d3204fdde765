/-
  Chapter 04: an oid's text, the document's way. The conditions: none but that the oid is right.
-/
import Derived.Test.YtohfhephkjihfaaDoorO8
import Derived.Test.YtohfhephkjihfaaDoorC4
import Derived.Test.YtohfhephkjihfaaDoorW16
import Derived.Test.YtohfhephkjihfaaDoorO5
import Derived.Lib.ItoaNum
namespace Go.Proofs.YtohfhephkjihfaaDoor
set_option linter.unusedSimpArgs false
set_option linter.unusedVariables false
open Go.Sx
set_option maxRecDepth 10000
theorem next_bad (l : List Int) (p : Nat) (hp : p < l.length) (hl : l.length ≤ 1000000) (hx : l.getD p 0 = 128) : Ct Tryd.prog 30 [.c (.ptr 0 0)] [curB l p] (.tup [lv (.int .i64 0), lv (.int .i64 6)]) [curB l (p + 1)] [] := by
 have h1 := byte_ok l p hp hl
 rw [hx] at h1
 refine Ct_intro Tryd.func30 rfl rfl rfl rfl rfl (fun E hn hb => ?_)
 repeat (refine nst ?_)
 refine W_weaken (St.le_of (l := [(0, .c (.ptr 0 0)), (4, lv (.int .i64 0)), (5, lv (.int .i64 0))]) (h := [(0, curB l p)]) (by refine ⟨?_, ?_⟩ <;> (repeat' (first | exact trivial | exact rfl | refine ⟨?_, ?_⟩)) <;> first | exact rfl | (simp; done) | skip)) ?_
 refine W_loop (ι := Unit) (fun _ => St.of [(0, .c (.ptr 0 0)), (4, lv (.int .i64 0)), (5, lv (.int .i64 0))] [(0, curB l p)]) (fun _ => 0) (fun _ => ?_) ()
 repeat (refine nst ?_)
 refine s_call [0] h1 rfl rfl (by rw [hn]; rfl) rfl rfl (by trivial) ⟨rfl, rfl, (by simp [ordL]), rfl⟩ ?_
 repeat (refine nst ?_)
 refine W_cond rfl (by simp) (fun hc => ?_) (fun hc => ?_)
 · repeat (refine nst ?_)
   exact rt1 []
 · simp at hc
theorem parse_bad : Ct Tryd.prog 12 [B8 [128, 1]] [] (.tup [I64 [], lv (.int .i64 6)]) [] [] := by
 have h1 := curnew_ok [128, 1] (by simp)
 have h2 := next_bad [128, 1] 0 (by simp) (by simp) rfl
 refine Ct_intro Tryd.func12 rfl rfl rfl rfl rfl (fun E hn hb => ?_)
 repeat (refine nst ?_)
 refine s_call [] h1 rfl rfl (by rw [hn]; rfl) rfl rfl (by trivial) ⟨rfl, trivial, trivial, rfl⟩ ?_
 repeat (refine nst ?_)
 refine s_call [75] h2 rfl rfl (by rw [hn]; rfl) rfl rfl (by trivial) ⟨rfl, rfl, (by simp [ordL]), rfl⟩ ?_
 repeat (refine nst ?_)
 refine W_cond rfl (by simp) (fun hc => ?_) (fun hc => ?_)
 · repeat (refine nst ?_)
   refine N_retU [] rfl (by simp) (r' := .tup [I64 [], lv (.int .i64 6)]) ⟨.inr ⟨rfl, .inl ⟨_, rfl⟩⟩, .inl rfl, trivial⟩ ⟨rfl, trivial, trivial, rfl⟩ hb rfl trivial
 · simp at hc
def exI (x : Int) : ByteArray := if x = 2 then ByteArray.mk #[50] else if x = 5 then ByteArray.mk #[53] else if x = 29 then ByteArray.mk #[50, 57] else ByteArray.mk #[50, 48]
theorem text_ex : Ct Tryd.prog 7 [I64 [2, 5, 29, 20]] [] (.tup [lv (.string (ByteArray.mk #[50, 46, 53, 46, 50, 57, 46, 50, 48])), lv (.int .i64 0)]) [] [] := by
 have h := text_of exI (fun x => by unfold exI; split; decide; split; decide; split; decide; decide) (fun x => by unfold exI; split; decide; split; decide; split; decide; decide) [2, 5, 29, 20] (by decide) (fun x hx => by
   simp at hx
   rcases hx with rfl | rfl | rfl | rfl
   · exact itoa_2
   · exact itoa_5
   · exact itoa_29
   · exact itoa_20)
 have e : strOfNums (textO exI [2, 5, 29, 20]) = ByteArray.mk #[50, 46, 53, 46, 50, 57, 46, 50, 48] := by decide +kernel
 rw [e] at h
 exact h
theorem cont_ex1 : Ct Tryd.prog 11 [I64 [1, 2, 840, 113549]] [] (.tup [B8 [42, 134, 72, 134, 247, 13], lv (.int .i64 0)]) [] [] := by
 have h := contO_ok [1, 2, 840, 113549] (by simp)
 have e : contO [1, 2, 840, 113549] = .tup [B8 (arcsL [42, 840, 113549]), lv (.int .i64 0)] := by
   rw [contO, if_pos (by decide)]; rfl
 have e2 : arcsL [42, 840, 113549] = [42, 134, 72, 134, 247, 13] := by decide +kernel
 rw [e, e2] at h
 exact h
theorem cont_ex2 : Ct Tryd.prog 11 [I64 [2, 999]] [] (.tup [B8 [136, 55], lv (.int .i64 0)]) [] [] := by
 have h := contO_ok [2, 999] (by simp)
 have e : contO [2, 999] = .tup [B8 (arcsL [1079]), lv (.int .i64 0)] := by
   rw [contO, if_pos (by decide)]; rfl
 have e2 : arcsL [1079] = [136, 55] := by decide +kernel
 rw [e, e2] at h
 exact h
theorem wf04 {l : List Int} (h : (l.all fun x => decide (0 ≤ x) && decide (x < 256)) = true) : WfB l := fun x hx => by
 have := List.all_eq_true.1 h x hx
 simpa using this
theorem hex_a : Ct Tryd.prog 25 [B8 [42, 134, 72, 134, 247, 13]] [] (lv (.string (strOfNums [50, 97, 56, 54, 52, 56, 56, 54, 102, 55, 48, 100]))) [] [] := hex_ok [42, 134, 72, 134, 247, 13] (by decide) (wf04 (by decide))
theorem hex_b : Ct Tryd.prog 25 [B8 [136, 55]] [] (lv (.string (strOfNums [56, 56, 51, 55]))) [] [] := hex_ok [136, 55] (by decide) (wf04 (by decide))
theorem known04_ok : Ct Tryd.prog 8 [] [] (lv (.bool true)) [] [] := by
 refine Ct_intro Tryd.func8 rfl rfl rfl rfl rfl (fun E hn hb => ?_)
 repeat (refine nst ?_)
 refine WL_q (opq_of (opy_lit (d := (.ints .i64 [1, 2, 840, 113549])) rfl (elt_mk Tryd.underlying22 rfl rfl) zok3 rfl (by exact vcs) rfl ⟨by decide, by decide, rfl, rfl⟩) rfl) (by rw [hn]; rfl) ?_
 refine s_call0 (cont_ex1) rfl rfl rfl (by rw [hn]; rfl) rfl rfl (by exact vcs) rfl rfl rfl ?_
 repeat (refine nst ?_)
 refine WL_q (opq_of (opy_lit (d := (.ints .i64 [2, 999])) rfl (elt_mk Tryd.underlying22 rfl rfl) zok3 rfl (by exact vcs) rfl ⟨by decide, by decide, rfl, rfl⟩) rfl) (by rw [hn]; rfl) ?_
 refine s_call0 (cont_ex2) rfl rfl rfl (by rw [hn]; rfl) rfl rfl (by exact vcs) rfl rfl rfl ?_
 repeat (refine nst ?_)
 refine WL_q (opq_of (opy_lit (d := (.ints .u8 [128, 1])) rfl (elt_mk Tryd.underlying33 rfl rfl) zok5 rfl (by exact vcs) rfl ⟨by decide, by decide, rfl, rfl⟩) rfl) (by rw [hn]; rfl) ?_
 refine s_call0 (parse_bad) rfl rfl rfl (by rw [hn]; rfl) rfl rfl (by exact vcs) rfl rfl rfl ?_
 repeat (refine nst ?_)
 refine WL_q (opq_of (opy_lit (d := (.ints .i64 [2, 5, 29, 20])) rfl (elt_mk Tryd.underlying22 rfl rfl) zok3 rfl (by exact vcs) rfl ⟨by decide, by decide, rfl, rfl⟩) rfl) (by rw [hn]; rfl) ?_
 refine s_call0 (text_ex) rfl rfl rfl (by rw [hn]; rfl) rfl rfl (by exact vcs) rfl rfl rfl ?_
 repeat (refine nst ?_)
 refine WL_q (opq_callG rfl rfl rfl rfl rfl (fun _ => (hex_a)) (fun hG => by first | exact hG | (first | trivial | (simp; done) | (simp; omega) | (simp at *; done) | (simp at *; omega))) rfl rfl) (by rw [hn]; rfl) ?_
 repeat (refine nst ?_)
 refine WL_q (opq_callG rfl rfl rfl rfl rfl (fun _ => (hex_b)) (fun hG => by first | exact hG | (first | trivial | (simp; done) | (simp; omega) | (simp at *; done) | (simp at *; omega))) rfl rfl) (by rw [hn]; rfl) ?_
 repeat (refine nst ?_)
 refine rt2 [] ?_ ?_
 · simp only [ByteArray.toList_eq]
   rfl
 · trivial

theorem refSame_ok (a b : List Int) (ha : a.length ≤ 1000000) (hb' : b.length ≤ 1000000) : Ct Tryd.prog 9 [I64 a, I64 b] [] (lv (.bool (decide (a = b)))) [] [] := by
 refine Ct_intro Tryd.func9 rfl rfl rfl rfl rfl (fun E hn hb => ?_)
 repeat (refine nst ?_)
 refine s_call0 (refCmp_ok a b ha hb') rfl rfl rfl (by rw [hn]; rfl) rfl rfl (by exact vcs) rfl rfl rfl ?_
 repeat (refine nst ?_)
 refine rt2 [] ?_ ?_
 · refine congrArg (fun x => lv (.bool x)) (?_ : (cmpL a b == 0) = decide (a = b))
   rw [Bool.eq_iff_iff]
   simp [cmpL_eq]
 · trivial
theorem arcL_small {n : Nat} (h : n < 128) : arcL n = [(n : Int)] := by
 have h1 : n / 128 = 0 := Nat.div_eq_of_lt h
 have h2 : n % 128 = n := Nat.mod_eq_of_lt h
 rw [arcL, h1, h2]
 rfl
theorem arcT_more : ∀ (k n : Nat), n < 128 ^ k → arcT (k + 1) n = arcT k n
 | 0, n, h => by
   have : n = 0 := by simpa using h
   subst this
   rfl
 | k + 1, n, h => by
   have h1 : n / 128 < 128 ^ k := by
     rw [Nat.pow_succ] at h
     exact Nat.div_lt_of_lt_mul (by rw [Nat.mul_comm]; exact h)
   have := arcT_more k (n / 128) h1
   unfold arcT
   split
   · rfl
   · rw [this]
theorem arcL_big {n : Nat} (h : ¬ n < 128) (h0 : n < 4294967296) : ∃ L, arcL (n / 128) = L ++ [((n / 128 % 128 : Nat) : Int)] ∧ arcL n = (L ++ [((n / 128 % 128 : Nat) : Int) + 128]) ++ [((n % 128 : Nat) : Int)] := by
 refine ⟨(arcT 5 (n / 128 / 128)).reverse, by simp [arcL], ?_⟩
 have h1 : n / 128 ≠ 0 := by omega
 have h2 := arcT_more 4 (n / 128 / 128) (by omega)
 rw [arcL]
 conv => lhs; unfold arcT
 rw [if_neg h1, ← h2]
 simp

def conP (o : List Int) : List Int × Int := if rightO o then (arcsL (numsL o), 0) else ([], 1)
def whoP (o : List Int) : List Int × Int := if rightO o then (wrapL (ofT 6) (arcsL (numsL o)), 0) else ([], 1)
theorem conO_len {o : List Int} (hr : rightO o = true) : (arcsL (numsL o)).length ≤ 186 := by
 obtain ⟨a, b, t, rfl, _, _, _, _, ht, _⟩ := right_nums hr
 have := arcsL_len (numsL (a :: b :: t))
 simp [numsL] at *
 omega
theorem conP_ok (o : List Int) (hl : o.length ≤ 1000000) : Ct Tryd.prog 11 [I64 o] [] (.tup [B8 (conP o).1, lv (.int .i64 (conP o).2)]) [] [] := by
 have h := contO_ok o hl
 unfold contO at h
 unfold conP
 split at h
 · rename_i hr; rw [if_pos hr]; exact h
 · rename_i hr; rw [if_neg hr]; exact h
theorem owrite_ok (o : List Int) (hl : o.length ≤ 1000000) : Ct Tryd.prog 13 [I64 o] [] (.tup [B8 (whoP o).1, lv (.int .i64 (whoP o).2)]) [] [] := by
 have hc := conP_ok o hl
 by_cases hr : rightO o = true
 · have e1 : conP o = (arcsL (numsL o), 0) := if_pos hr
   have e2 : whoP o = (wrapL (ofT 6) (arcsL (numsL o)), 0) := if_pos hr
   have hlen := conO_len hr
   rw [e1] at hc
   rw [e2]
   generalize arcsL (numsL o) = X at *
   have hwr := wrap_ok (ofT 6) [X] (by decide) (by simp) (by simp; omega)
   rw [show [X].flatten = X by simp] at hwr
   have hof := headof_ok 6
   generalize ofT 6 = t at *
   generalize wrapL t X = Y at *
   refine Ct_intro Tryd.func13 rfl rfl rfl rfl rfl (fun E hn hb => ?_)
   repeat (refine nst ?_)
   refine s_call0 (hc) rfl rfl rfl (by rw [hn]; rfl) rfl rfl (by exact vcs) rfl rfl rfl ?_
   repeat (refine nst ?_)
   refine W_cond rfl (by simp) (fun h1 => ?_) (fun h1 => ?_)
   · simp at h1
   repeat (refine nst ?_)
   refine s_call0 (hof) rfl rfl rfl (by rw [hn]; rfl) rfl rfl (by exact vcs) rfl rfl rfl ?_
   repeat (refine nst ?_)
   refine WL_q (opq_of (opy_lit (d := (.recs 1 [[.ints .u8 X]])) rfl (elt_mk Tryd.underlying85 rfl rfl) zok33 rfl (by exact vcs) rfl ⟨by decide, by decide, rfl, rfl⟩) rfl) (by rw [hn]; rfl) ?_
   refine s_call0 (hwr) rfl rfl rfl (by rw [hn]; rfl) rfl rfl (by exact vcs) rfl rfl rfl ?_
   repeat (refine nst ?_)
   exact rt1 []
 · have e1 : conP o = ([], 1) := if_neg hr
   have e2 : whoP o = ([], 1) := if_neg hr
   rw [e1] at hc
   rw [e2]
   refine Ct_intro Tryd.func13 rfl rfl rfl rfl rfl (fun E hn hb => ?_)
   repeat (refine nst ?_)
   refine s_call0 (hc) rfl rfl rfl (by rw [hn]; rfl) rfl rfl (by exact vcs) rfl rfl rfl ?_
   repeat (refine nst ?_)
   refine W_cond rfl (by simp) (fun h1 => ?_) (fun h1 => ?_)
   · repeat (refine nst ?_)
     refine N_retU [] rfl (by simp) (r' := .tup [B8 [], lv (.int .i64 1)]) ⟨.inr ⟨rfl, .inl ⟨_, rfl⟩⟩, .inl rfl, trivial⟩ ⟨rfl, trivial, trivial, rfl⟩ hb rfl trivial
   · simp at h1

def decV (d : List Int) : Nat := d.foldl (fun a x => 10 * a + (x - 48).toNat) 0
theorem decV_snoc (d : List Int) (x : Int) : decV (d ++ [x]) = 10 * decV d + (x - 48).toNat := by simp [decV]
def isDig (x : Int) : Bool := decide (48 ≤ x) && decide (x ≤ 57)
theorem decV_decL : ∀ (k n : Nat), n ≤ k → decV (decL n).reverse = n
 | 0, n, h => by
   have : n = 0 := by omega
   subst this; rw [decL_zero]; rfl
 | k + 1, n, h => by
   by_cases h0 : n = 0
   · subst h0; rw [decL_zero]; rfl
   · rw [decL_pos h0, List.reverse_cons, decV_snoc, decV_decL k (n / 10) (by omega)]
     omega
theorem decL_isDig : ∀ (k n : Nat), n ≤ k → (decL n).all isDig = true
 | 0, n, h => by
   have : n = 0 := by omega
   subst this; rw [decL_zero]; rfl
 | k + 1, n, h => by
   by_cases h0 : n = 0
   · subst h0; rw [decL_zero]; rfl
   · rw [decL_pos h0, List.all_cons, decL_isDig k (n / 10) (by omega)]
     simp [isDig]; omega
theorem decL_last : ∀ (k n : Nat), n ≤ k → n ≠ 0 → ∃ a x, decL n = a ++ [x] ∧ 49 ≤ x ∧ x ≤ 57
 | 0, n, h, h0 => by omega
 | k + 1, n, h, h0 => by
   by_cases h1 : n / 10 = 0
   · refine ⟨[], 48 + ((n % 10 : Nat) : Int), ?_, by omega, by omega⟩
     rw [decL_pos h0, h1, decL_zero]; rfl
   · obtain ⟨a, x, e, h2⟩ := decL_last k (n / 10) (by omega) h1
     exact ⟨(48 + ((n % 10 : Nat) : Int)) :: a, x, by rw [decL_pos h0, e]; rfl, h2⟩
theorem decV_pos : ∀ (l : List Int) (a : Nat), a ≠ 0 → l.foldl (fun a x => 10 * a + (x - 48).toNat) a ≠ 0
 | [], a, h => h
 | x :: l, a, h => by simp only [List.foldl_cons]; exact decV_pos l _ (by omega)
theorem decL_decV : ∀ (k : Nat) (l : List Int), l.length ≤ k → l.all isDig = true → (∀ x t, l = x :: t → x ≠ 48) → decL (decV l) = l.reverse
 | 0, l, h, _, _ => by
   have : l = [] := List.eq_nil_of_length_eq_zero (by omega)
   subst this; exact decL_zero
 | k + 1, l, h, hd, hf => by
   rcases List.eq_nil_or_concat l with rfl | ⟨a, x, rfl⟩
   · exact decL_zero
   · simp only [List.concat_eq_append] at *
     rw [List.all_append, Bool.and_eq_true] at hd
     have hx : 48 ≤ x ∧ x ≤ 57 := by simpa [isDig] using hd.2
     have hfa : ∀ y t, a = y :: t → y ≠ 48 := fun y t e => hf y (t ++ [x]) (by rw [e]; rfl)
     have ih := decL_decV k a (by simp at h; omega) hd.1 hfa
     rw [decV_snoc, List.reverse_append, ← ih]
     have hne : 10 * decV a + (x - 48).toNat ≠ 0 := by
       cases a with
       | nil =>
         have := hf x [] rfl
         omega
       | cons y t =>
         have hy := hfa y t rfl
         have hyd : 48 ≤ y := by
           have := hd.1
           simp [isDig] at this
           omega
         have : decV (y :: t) ≠ 0 := by
           unfold decV
           rw [List.foldl_cons]
           exact decV_pos t _ (by omega)
         omega
     rw [decL_pos hne]
     have e1 : (10 * decV a + (x - 48).toNat) / 10 = decV a := by omega
     have e2 : 48 + (((10 * decV a + (x - 48).toNat) % 10 : Nat) : Int) = x := by omega
     rw [e1, e2]; rfl
theorem bs_str {l : List Int} (h : WfB l) : bs (strOfNums l) = l := by
 simp only [bs, strOfNums_data, List.map_map]
 conv => rhs; rw [← List.map_id l]
 apply List.map_congr_left
 intro x hx
 have := h x hx
 simp only [Function.comp]
 rw [UInt8.toNat_ofNat']
 simp only [id]
 omega
theorem ext_str (l : List Int) (a b : Nat) : (strOfNums l).extract a b = strOfNums ((l.take b).drop a) := by
 apply ByteArray.ext
 apply Array.ext'
 rw [strOfNums_data]
 simp only [ByteArray.data_extract, Array.toList_extract, strOfNums_data]
 simp [List.extract_eq_take_drop, List.map_take, List.map_drop, List.drop_take]

@[simp] theorem size_str (l : List Int) : (strOfNums l).size = l.length := strOfNums_size l

def decT (n : Nat) : List Int := if n = 0 then [48] else (decL n).reverse
def refS (x : Int) : ByteArray := strOfNums (decT (x.toNat % 2147483648))
theorem decL_wf (n : Nat) : WfB (decL n) := by
 intro x hx
 have h := List.all_eq_true.1 (decL_isDig n n (Nat.le_refl _)) x hx
 simp [isDig] at h
 omega
theorem decT_wf (n : Nat) : WfB (decT n) := by
 unfold decT
 split
 · intro x hx; simp at hx; omega
 · intro x hx; exact decL_wf n x (List.mem_reverse.1 hx)
theorem decT_len {n : Nat} (h : n < 2147483648) : (decT n).length ≤ 10 := by
 unfold decT
 split
 · simp
 · rw [List.length_reverse]
   exact decL_len 10 n (by omega)
theorem decT_pos (n : Nat) : 0 < (decT n).length := by
 unfold decT
 split
 · simp
 · rename_i h
   rw [List.length_reverse, decL_pos h]
   simp
theorem refS_size (x : Int) : (refS x).size ≤ 20 := by
 rw [refS, size_str]
 have := decT_len (n := x.toNat % 2147483648) (by omega)
 omega
theorem refS_pos (x : Int) : 0 < (refS x).size := by
 rw [refS, size_str]
 exact decT_pos _
theorem refS_eq {x : Int} (h : 0 ≤ x ∧ x ≤ 2147483647) : refS x = strOfNums (decT x.toNat) := by
 have e : x.toNat % 2147483648 = x.toNat := by omega
 rw [refS, e]
theorem decDig : ∀ k u : Nat, u ≤ k → Lib.decDigits u = (decT u).map fun x => UInt8.ofNat x.toNat
 | 0, u, h => by
   have : u = 0 := by omega
   subst this
   rw [Lib.decDigits, dif_pos (by omega)]
   rfl
 | k + 1, u, h => by
   by_cases h1 : u < 10
   · rw [Lib.decDigits, dif_pos h1]
     unfold decT
     split
     · rename_i h2; subst h2; rfl
     · rename_i h2
       have h3 : u / 10 = 0 := by omega
       have h4 : u % 10 = u := by omega
       rw [decL_pos h2, h3, h4, decL_zero]
       show [UInt8.ofNat (48 + u)] = [UInt8.ofNat (48 + (u : Int)).toNat]
       rw [show (48 + (u : Int)).toNat = 48 + u by omega]
   · rw [Lib.decDigits, dif_neg h1, decDig k (u / 10) (by omega)]
     have h2 : u ≠ 0 := by omega
     have h3 : u / 10 ≠ 0 := by omega
     rw [decT, decT, if_neg h2, if_neg h3, decL_pos h2, List.reverse_cons, List.map_append]
     refine congrArg (_ ++ ·) ?_
     show [UInt8.ofNat (48 + u % 10)] = [UInt8.ofNat (48 + ((u % 10 : Nat) : Int)).toNat]
     rw [show (48 + ((u % 10 : Nat) : Int)).toNat = 48 + u % 10 by omega]
theorem itoa_ref {x : Int} (h : 0 ≤ x ∧ x ≤ 2147483647) : (⟨(Lib.itoa x).toArray⟩ : ByteArray) = refS x := by
 rw [refS_eq h, Lib.itoa, if_neg (by omega), decDig _ _ (Nat.le_refl _)]
 rfl
theorem strL_ref {x : Int} (h : 0 ≤ x ∧ x ≤ 2147483647) : strL (refS x) = decT x.toNat := by
 rw [refS_eq h]
 exact bs_str (decT_wf _)
theorem right_in {o : List Int} (hr : rightO o = true) : ∀ x ∈ o, 0 ≤ x ∧ x ≤ 2147483647 := by
 match o, hr with
 | a :: b :: t, hr =>
   rw [rightO_cons] at hr
   split at hr
   · cases hr
   · split at hr
     · cases hr
     · rename_i h
       simp only [Bool.not_eq_true', Bool.not_eq_false, Bool.not_eq_true] at h
       intro x hx
       have := List.all_eq_true.1 (by simpa using h) x hx
       simp [inR] at this
       omega
theorem right_len {o : List Int} (hr : rightO o = true) : o.length ≤ 32 ∧ 2 ≤ o.length := by
 obtain ⟨a, b, t, rfl, _, _, _, _, ht, _⟩ := right_nums hr
 simp; omega
end Go.Proofs.YtohfhephkjihfaaDoor

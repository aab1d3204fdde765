/-
  Chapter 12: the beginning, the constants, a block's words. The conditions: bytes that are bytes.
-/
import Derived.Test.YtohfhephkjihfaaGreatM1
import Derived.Test.YtohfhephkjihfaaGreatSxP
namespace Go.Proofs.YtohfhephkjihfaaGreat
set_option linter.unusedSimpArgs false
set_option linter.unusedVariables false
open Go.Sx
set_option maxRecDepth 10000
@[simp] theorem KS_len : KS.length = 64 := rfl
@[simp] theorem KS_nil : KS ≠ [] := by intro h; cases h
abbrev u32C (x : Int) : Cell := .lf (.v (.int .u32 x))
theorem first_ok : Ct Tryz.prog 71 [] [] (.agg (H0.l.map u32C)) [] [] := by
 refine Ct_intro Tryz.func71 rfl rfl rfl rfl rfl (fun E hn hb => ?_)
 repeat (refine nst ?_)
 refine s_allocN rfl rfl rfl (by rw [hn]; rfl) rfl zok109 ?_
 repeat (refine nst ?_)
 refine WL_q (opq_of (opy_arr rfl rfl (by exact vcs)) rfl) (by rw [hn]; rfl) ?_
 repeat (refine nst ?_)
 refine s_storeN rfl rfl rfl rfl rfl (by exact vcs) rfl rfl rfl (by rw [cellsOf109]; rfl) (by rw [info109]; rfl) rfl rfl ?_
 repeat (refine nst ?_)
 exact rt1 []
theorem constants_ok : Ct Tryz.prog 73 [] [] (.ai .u32 KS) [] [] := by
 refine Ct_intro Tryz.func73 rfl rfl rfl rfl rfl (fun E hn hb => ?_)
 repeat (refine nst ?_)
 refine s_allocAN .u32 64 rfl rfl rfl (by rw [hn]; rfl) (by kernel_rfl) ?_
 repeat (refine nst ?_)
 refine WL_q (opq_of (opy_arr (d := some 1) (ps := [zeroOk Tryz.prog 129, (Tryz.prog.info? 106).isSome = true]) (x := .agg (KS.map u32C)) rfl (by kernel_rfl) ⟨zok129, rfl⟩) rfl) (by rw [hn]; rfl) ?_
 refine WL_ai 1 .u32 KS rfl ?_
 refine s_storeA rfl rfl rfl rfl rfl (by exact vcs) rfl (by rw [cellsOf129]; first | rfl | assumption | omega | kernel_rfl | (simp; done) | (simp; omega) | (simp at *; omega)) (by first | rfl | assumption | omega | kernel_rfl | (simp; done) | (simp; omega) | (simp at *; omega)) (by first | assumption | (simp; done) | exact List.cons_ne_nil _ _) ?_
 repeat (refine nst ?_)
 exact rt1 []
theorem wordsB_len : ∀ (n : Nat) (b : List Int), b.length = 4 * n → (wordsB b).length = n
 | 0, b, h => by
   have : b = [] := List.eq_nil_of_length_eq_zero (by omega)
   subst this; rfl
 | n + 1, b, h => by
   match b, h with
   | a :: b' :: c :: d :: l, h =>
     simp only [wordsB, List.length_cons]
     rw [wordsB_len n l (by simp at h; omega)]
   | [], h => simp at h
   | [_], h => simp at h; omega
   | [_, _], h => simp at h; omega
   | [_, _, _], h => simp at h; omega
theorem wordsB_get : ∀ (i : Nat) (b : List Int), 4 * i + 3 < b.length → (wordsB b)[i]? = some (b.getD (4 * i) 0 * 16777216 + b.getD (4 * i + 1) 0 * 65536 + b.getD (4 * i + 2) 0 * 256 + b.getD (4 * i + 3) 0)
 | i, a :: b' :: c :: d :: l, h => by
   cases i with
   | zero => simp [wordsB]
   | succ i =>
     have := wordsB_get i l (by simp at h; omega)
     simp only [wordsB, List.getElem?_cons_succ, this]
     simp [show 4 * (i + 1) = 4 * i + 4 by omega, show 4 * i + 4 + 1 = 4 * i + 1 + 4 by omega, show 4 * i + 4 + 2 = 4 * i + 2 + 4 by omega, show 4 * i + 4 + 3 = 4 * i + 3 + 4 by omega]
 | _, [], h => by simp at h
 | _, [_], h => by simp at h
 | _, [_, _], h => by simp at h; omega
 | _, [_, _, _], h => by simp at h; omega
theorem extW_len : ∀ (n : Nat) (l : List Int), (extW n l).length = l.length + n
 | 0, l => rfl
 | n + 1, l => by simp only [extW]; rw [extW_len n]; simp; omega
theorem wordsS_len (b : List Int) (h : b.length = 64) : (wordsS b).length = 64 := by
 rw [wordsS, extW_len, wordsB_len 16 b (by omega)]
def W32L (l : List Int) : Prop := ∀ x ∈ l, W32 x
theorem wf_get {b : List Int} (h : WfB b) (i : Nat) : 0 ≤ b.getD i 0 ∧ b.getD i 0 < 256 := by
 rw [List.getD_eq_getElem?_getD]
 cases hi : b[i]? with
 | none => simp
 | some x => exact h x (List.mem_of_getElem? hi)
theorem w32_get {b : List Int} (h : W32L b) (i : Nat) : W32 (b.getD i 0) := by
 rw [List.getD_eq_getElem?_getD]
 cases hi : b[i]? with
 | none => simp [W32]
 | some x => exact h x (List.mem_of_getElem? hi)
theorem wordsB_low {b : List Int} (h : WfB b) : W32L (wordsB b) := by
 induction b using wordsB.induct with
 | case1 a b' c d l ih =>
   intro x hx
   simp only [wordsB] at hx
   cases hx with
   | head =>
     have h1 := h a (by simp)
     have h2 := h b' (by simp)
     have h3 := h c (by simp)
     have h4 := h d (by simp)
     unfold W32
     omega
   | tail _ hx => exact ih (fun y hy => h y (by simp [hy])) x hx
 | case2 l hl => intro x hx; rw [wordsB] at hx; cases hx; exact hl
theorem extW_low : ∀ (n : Nat) (l : List Int), W32L l → W32L (extW n l)
 | 0, l, h => h
 | n + 1, l, h => by
   simp only [extW]
   refine extW_low n _ fun x hx => ?_
   rcases List.mem_append.1 hx with hx | hx
   · exact h x hx
   · rw [List.mem_singleton.1 hx]; exact mod_low _
theorem wordsS_low {b : List Int} (h : WfB b) : W32L (wordsS b) := extW_low _ _ (wordsB_low h)
theorem extW_take : ∀ (n : Nat) (l : List Int), (extW n l).take l.length = l
 | 0, l => by simp [extW]
 | n + 1, l => by
   have := extW_take n (l ++ [newW l])
   simp only [extW]
   have h2 := congrArg (List.take l.length) this
   rw [List.take_take] at h2
   simpa using h2
theorem extW_get : ∀ (n : Nat) (l : List Int) (i : Nat), l.length ≤ i → i < l.length + n → (extW n l)[i]? = some (newW ((extW n l).take i))
 | 0, l, i, h1, h2 => by omega
 | n + 1, l, i, h1, h2 => by
   simp only [extW]
   rcases Nat.lt_or_ge l.length i with h | h
   · exact extW_get n (l ++ [newW l]) i (by simp; omega) (by simp; omega)
   · have : i = l.length := by omega
     subst this
     have h3 := extW_take n (l ++ [newW l])
     have h4 : (extW n (l ++ [newW l])).take l.length = l := by
       have h5 := congrArg (List.take l.length) h3
       rw [List.take_take] at h5
       simpa using h5
     rw [h4]
     have h6 : ((extW n (l ++ [newW l])).take (l ++ [newW l]).length)[l.length]? = some (newW l) := by rw [h3]; simp
     rw [List.getElem?_take] at h6
     simpa using h6
theorem words_get1 (b : List Int) (hb : b.length = 64) (i : Nat) (hi : i < 16) : (wordsS b)[i]? = some (b.getD (4 * i) 0 * 16777216 + b.getD (4 * i + 1) 0 * 65536 + b.getD (4 * i + 2) 0 * 256 + b.getD (4 * i + 3) 0) := by
 have h1 := extW_take 48 (wordsB b)
 rw [wordsB_len 16 b (by omega)] at h1
 have h2 := wordsB_get i b (by omega)
 rw [← h1, List.getElem?_take, if_pos hi] at h2
 exact h2
theorem words_get2 (b : List Int) (hb : b.length = 64) (i : Nat) (h1 : 16 ≤ i) (h2 : i < 64) : (wordsS b)[i]? = some (newW ((wordsS b).take i)) :=
 extW_get 48 (wordsB b) i (by rw [wordsB_len 16 b (by omega)]; exact h1) (by rw [wordsB_len 16 b (by omega)]; exact h2)
theorem or4 (a b c d : Int) (ha : 0 ≤ a ∧ a < 256) (hb : 0 ≤ b ∧ b < 256) (hc : 0 ≤ c ∧ c < 256) (hd : 0 ≤ d ∧ d < 256) :
   IntKind.u32.wrap (BitVec.ofInt IntKind.u32.bits (IntKind.u32.wrap (BitVec.ofInt IntKind.u32.bits (IntKind.u32.wrap (BitVec.ofInt IntKind.u32.bits (a * 16777216) ||| BitVec.ofInt IntKind.u32.bits (b * 65536)).toNat) ||| BitVec.ofInt IntKind.u32.bits (c * 256)).toNat) ||| BitVec.ofInt IntKind.u32.bits d).toNat = a * 16777216 + b * 65536 + c * 256 + d := by
 obtain ⟨a, rfl⟩ : ∃ n : Nat, a = n := ⟨a.toNat, by omega⟩
 obtain ⟨b, rfl⟩ : ∃ n : Nat, b = n := ⟨b.toNat, by omega⟩
 obtain ⟨c, rfl⟩ : ∃ n : Nat, c = n := ⟨c.toNat, by omega⟩
 obtain ⟨d, rfl⟩ : ∃ n : Nat, d = n := ⟨d.toNat, by omega⟩
 have e1 : ((a : Int) * 16777216) = ((2 ^ 24 * a : Nat) : Int) := by omega
 have e2 : ((b : Int) * 65536) = ((2 ^ 16 * b : Nat) : Int) := by omega
 have e3 : ((c : Int) * 256) = ((2 ^ 8 * c : Nat) : Int) := by omega
 have o1 : (2 ^ 24 * a ||| 2 ^ 16 * b : Nat) = 2 ^ 16 * (2 ^ 8 * a + b) := by
   rw [← Nat.two_pow_add_eq_or_of_lt (i := 24) (by omega)]; omega
 have o2 : (2 ^ 16 * (2 ^ 8 * a + b) ||| 2 ^ 8 * c : Nat) = 2 ^ 8 * (2 ^ 8 * (2 ^ 8 * a + b) + c) := by
   rw [← Nat.two_pow_add_eq_or_of_lt (i := 16) (by omega)]; omega
 have o3 : (2 ^ 8 * (2 ^ 8 * (2 ^ 8 * a + b) + c) ||| d : Nat) = 2 ^ 8 * (2 ^ 8 * (2 ^ 8 * a + b) + c) + d := by
   rw [← Nat.two_pow_add_eq_or_of_lt (i := 8) (by omega)]
 have w : ∀ n : Nat, n < 4294967296 → W32 (n : Int) := fun n h => by unfold W32; omega
 rw [e1, e2, e3, or32 (w _ (by omega)) (w _ (by omega)), Int.toNat_natCast, Int.toNat_natCast, o1, or32 (w _ (by omega)) (w _ (by omega)), Int.toNat_natCast, Int.toNat_natCast, o2, or32 (w _ (by omega)) (w _ (by omega)), Int.toNat_natCast, Int.toNat_natCast, o3]
 omega
theorem drop_take_getD (l : List Int) (off n i : Nat) (hi : i < n) : ((l.drop off).take n).getD i 0 = l.getD (off + i) 0 := by
 rw [List.getD_eq_getElem?_getD, List.getD_eq_getElem?_getD, List.getElem?_take, if_pos hi, List.getElem?_drop]
set_option maxHeartbeats 4000000 in
theorem words_ok (l : List Int) (off : Nat) (hl : off + 64 ≤ l.length) (hw : WfB l) : Ct Tryz.prog 72 [.c (.own 0 1 off 64)] [.row (.ints .u8 l)] (.ai .u32 (wordsS ((l.drop off).take 64))) [.row (.ints .u8 l)] [] := by
 obtain ⟨b, hb⟩ : ∃ b, (l.drop off).take 64 = b := ⟨_, rfl⟩
 have hb64 : b.length = 64 := by rw [← hb]; simp; omega
 have hbg : ∀ i, i < 64 → b.getD i 0 = l.getD (off + i) 0 := fun i hi => by rw [← hb]; exact drop_take_getD l off 64 i hi
 have hwb : WfB b := by rw [← hb]; exact fun x hx => hw x (List.mem_of_mem_drop (List.mem_of_mem_take hx))
 have hA1 := words_get1 b hb64
 have hA2 := words_get2 b hb64
 have hAl := wordsS_len b hb64
 have hAw := wordsS_low hwb
 rw [hb]
 generalize wordsS b = A at *
 refine Ct_intro Tryz.func72 rfl rfl rfl rfl rfl (fun E hn hb => ?_)
 repeat (refine nst ?_)
 refine s_allocAN .u32 64 rfl rfl rfl (by rw [hn]; rfl) (by kernel_rfl) ?_
 repeat (refine nst ?_)
 refine s_allocAN .u32 64 rfl rfl rfl (by rw [hn]; rfl) (by kernel_rfl) ?_
 repeat (refine nst ?_)
 have e0 : List.replicate 64 (0 : Int) = fillUp A 0 := by rw [fillUp_zero, hAl]
 refine W_weaken (St.le_of (l := [(0, .c (.own 0 1 off 64)), (2, .c (.ptr 66 0)), (3, .c (.ptr 67 0)), (6, lv (.int .i64 0))]) (h := [(0, .row (.ints .u8 l)), (66, .row (.ints .u32 (List.replicate 64 0))), (67, .row (.ints .u32 (List.replicate 64 0)))]) (by refine ⟨?_, ?_⟩ <;> (repeat' (first | exact trivial | exact rfl | refine ⟨?_, ?_⟩)) <;> first | exact rfl | (simp; done) | skip)) ?_
 rw [e0]
 have hZl : (fillUp A 0).length = 64 := by rw [fillUp_length, hAl]
 refine W_loop (ι := {i : Nat // i ≤ 16}) (fun i => St.of [(0, .c (.own 0 1 off 64)), (2, .c (.ptr 66 0)), (3, .c (.ptr 67 0)), (6, lv (.int .i64 (i.1 : Int)))] [(0, .row (.ints .u8 l)), (66, .row (.ints .u32 (fillUp A 0))), (67, .row (.ints .u32 (fillUp A i.1)))]) (fun i => 16 - i.1) (fun i => ?_) ⟨0, by omega⟩
 obtain ⟨i, hi⟩ := i
 dsimp only
 repeat (refine nst ?_)
 refine W_cond rfl (by simp) (fun hc => ?_) (fun hc => ?_)
 · have hi16 : i < 16 := by simp at hc; omega
   have g1 := wf_get hw (off + (4 * (i : Int)).toNat)
   have g2 := wf_get hw (off + (4 * (i : Int) + 1).toNat)
   have g3 := wf_get hw (off + (4 * (i : Int) + 2).toNat)
   have g4 := wf_get hw (off + (4 * (i : Int) + 3).toNat)
   have hfl : (fillUp A i).length = 64 := by rw [fillUp_length, hAl]
   repeat (refine nst ?_)
   refine W_drawX [] (by kernel_rfl) (by kernel_rfl) (by rw [hn]; rfl) ?_
   repeat (refine nsx ?_)
   refine DrawX_storeI rfl rfl rfl rfl (by exact vcs) rfl (by rw [cellsOf106]) (by first | (simp; done) | (simp; omega) | (simp at *; omega)) ?_
   repeat (refine nsx ?_)
   repeat (refine nst ?_)
   have i1 : (4 * (i : Int)).toNat = 4 * i := by omega
   have i2 : (4 * (i : Int) + 1).toNat = 4 * i + 1 := by omega
   have i3 : (4 * (i : Int) + 2).toNat = 4 * i + 2 := by omega
   have i4 : (4 * (i : Int) + 3).toNat = 4 * i + 3 := by omega
   have hset : ∀ z, z = l.getD (off + 4 * i) 0 * 16777216 + l.getD (off + (4 * i + 1)) 0 * 65536 + l.getD (off + (4 * i + 2)) 0 * 256 + l.getD (off + (4 * i + 3)) 0 → (fillUp A i).set (0 + (i : Int).toNat) z = fillUp A (i + 1) := by
     intro z hz
     have hx := hA1 i hi16
     rw [hbg _ (by omega), hbg _ (by omega), hbg _ (by omega), hbg _ (by omega)] at hx
     rw [hz, Nat.zero_add, Int.toNat_natCast]
     exact fillUp_set A i _ hx
   refine N_round ⟨i + 1, by omega⟩ (by dsimp only; omega) (St.le_of ⟨⟨rfl, rfl, rfl, rfl⟩, ⟨rfl, rfl, ?_⟩⟩)
   refine congrArg (fun l => Blk.row (.ints .u32 l)) (hset _ ?_)
   refine (or4 _ _ _ _ g1 g2 g3 g4).trans ?_
   rw [i1, i2, i3, i4]
 · have : i = 16 := by simp at hc; omega
   subst this
   repeat (refine nst ?_)
   refine W_weaken (St.le_of (l := [(2, .c (.ptr 66 0)), (3, .c (.ptr 67 0)), (5, lv (.int .i64 16))]) (h := [(0, .row (.ints .u8 l)), (66, .row (.ints .u32 (fillUp A 0))), (67, .row (.ints .u32 (fillUp A 16)))]) (by refine ⟨?_, ?_⟩ <;> (repeat' (first | exact trivial | exact rfl | refine ⟨?_, ?_⟩)) <;> first | exact rfl | (simp; done) | skip)) ?_
   refine W_loop (ι := {i : Nat // 16 ≤ i ∧ i ≤ 64}) (fun i => St.of [(2, .c (.ptr 66 0)), (3, .c (.ptr 67 0)), (5, lv (.int .i64 (i.1 : Int)))] [(0, .row (.ints .u8 l)), (66, .row (.ints .u32 (fillUp A 0))), (67, .row (.ints .u32 (fillUp A i.1)))]) (fun i => 64 - i.1) (fun i => ?_) ⟨16, by omega, by omega⟩
   obtain ⟨i, hi, hi2⟩ := i
   dsimp only
   repeat (refine nst ?_)
   refine W_cond rfl (by simp) (fun hc => ?_) (fun hc => ?_)
   · have hi64 : i < 64 := by simp at hc; omega
     have hfl : (fillUp A i).length = 64 := by rw [fillUp_length, hAl]
     have hfg : ∀ k, k < i → (fillUp A i).getD k 0 = A.getD k 0 := by
       intro k hk
       unfold fillUp
       rw [List.getD_eq_getElem?_getD, List.getElem?_append_left (by simp; omega), List.getElem?_take, if_pos hk, List.getD_eq_getElem?_getD]
     have htl : (A.take i).length = i := by simp; omega
     have htg : ∀ k, k < i → (A.take i).getD k 0 = A.getD k 0 := by
       intro k hk
       rw [List.getD_eq_getElem?_getD, List.getElem?_take, if_pos hk, List.getD_eq_getElem?_getD]
     have hw2 := w32_get hAw (i - 2)
     have hw15 := w32_get hAw (i - 15)
     have j2 : (0 : Nat) + ((i : Int) - 2).toNat = i - 2 := by omega
     have j7 : (0 : Nat) + ((i : Int) - 7).toNat = i - 7 := by omega
     have j15 : (0 : Nat) + ((i : Int) - 15).toNat = i - 15 := by omega
     have j16 : (0 : Nat) + ((i : Int) - 16).toNat = i - 16 := by omega
     have c2 := small_ok ((fillUp A i).getD (0 + ((i : Int) - 2).toNat) 0) 17 19 10 (by rw [j2, hfg _ (by omega)]; exact hw2) (by omega) (by omega) (by omega)
     have c15 := small_ok ((fillUp A i).getD (0 + ((i : Int) - 15).toNat) 0) 7 18 3 (by rw [j15, hfg _ (by omega)]; exact hw15) (by omega) (by omega) (by omega)
     repeat (refine nst ?_)
     refine W_drawX [] (by kernel_rfl) (by kernel_rfl) (by rw [hn]; rfl) ?_
     repeat (refine nsx ?_)
     refine DrawX_op rfl rfl rfl (ops_of (opys_call (c2) rfl rfl rfl (by exact vcs) rfl rfl rfl) rfl) ?_
     repeat (refine nsx ?_)
     refine DrawX_op rfl rfl rfl (ops_pure false rfl rfl (by exact vcs)) ?_
     repeat (refine nsx ?_)
     refine DrawX_op rfl rfl rfl (ops_of (opys_call (c15) rfl rfl rfl (by exact vcs) rfl rfl rfl) rfl) ?_
     refine DrawX_op rfl rfl rfl (ops_pure false rfl rfl (by exact vcs)) ?_
     repeat (refine nsx ?_)
     refine DrawX_op rfl rfl rfl (ops_pure false rfl rfl (by exact vcs)) ?_
     repeat (refine nsx ?_)
     refine DrawX_storeI rfl rfl rfl rfl (by exact vcs) rfl (by rw [cellsOf106]) (by first | (simp; done) | (simp; omega) | (simp at *; omega)) ?_
     repeat (refine nsx ?_)
     repeat (refine nst ?_)
     have hset : ∀ z, z = newW (A.take i) → (fillUp A i).set (0 + (i : Int).toNat) z = fillUp A (i + 1) := by
       intro z hz
       have hx := hA2 i hi hi64
       rw [hz, Nat.zero_add, Int.toNat_natCast]
       exact fillUp_set A i _ hx
     refine N_round ⟨i + 1, by omega, by omega⟩ (by dsimp only; omega) (St.le_of ⟨⟨rfl, rfl, rfl⟩, ⟨rfl, rfl, ?_⟩⟩)
     refine congrArg (fun l => Blk.row (.ints .u32 l)) (hset _ ?_)
     rw [j2, j7, j15, j16, hfg _ (by omega), hfg _ (by omega), hfg _ (by omega), hfg _ (by omega)]
     unfold newW
     rw [htl, htg _ (by omega), htg _ (by omega), htg _ (by omega), htg _ (by omega)]
     simp only [wrapE32]
     omega
   · have : i = 64 := by simp at hc; omega
     subst this
     have hfa : fillUp A 64 = A := by
       have := fillUp_all A
       rwa [hAl] at this
     have hAn : A ≠ [] := by intro h; rw [h] at hAl; simp at hAl
     rw [hfa]
     repeat (refine nst ?_)
     refine sp true rfl rfl (by rw [hn]; rfl) ?_ ?_
     · exact ⟨rfl, by rw [cellsOf129]; omega, hAn⟩
     refine s_storeA rfl rfl rfl rfl rfl (by exact vcs) rfl (by rw [cellsOf129]; first | rfl | assumption | omega | kernel_rfl | (simp; done) | (simp; omega) | (simp at *; omega)) (by first | rfl | assumption | omega | kernel_rfl | (simp; done) | (simp; omega) | (simp at *; omega)) (by first | assumption | (simp; done) | exact List.cons_ne_nil _ _) ?_
     repeat (refine nst ?_)
     exact N_retN [] rfl (⟨rfl, by rw [cellsOf129]; omega, hAn⟩) ⟨rfl, by first | trivial | exact ⟨rfl, rfl⟩, by first | trivial | exact rfl | exact ⟨rfl, rfl⟩, rfl⟩ hb rfl (by first | trivial | (simp; done) | (simp [ordL]; done))
end Go.Proofs.YtohfhephkjihfaaGreat

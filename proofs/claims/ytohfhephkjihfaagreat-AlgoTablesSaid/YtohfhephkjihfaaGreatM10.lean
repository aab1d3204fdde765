/-
  Chapter 12, the document's digest. The conditions: bytes that are bytes, at most a million of them.
-/
import Derived.Test.YtohfhephkjihfaaGreatM7
import Derived.Test.YtohfhephkjihfaaGreatM9
namespace Go.Proofs.YtohfhephkjihfaaGreat
set_option linter.unusedSimpArgs false
set_option linter.unusedVariables false
open Go.Sx
set_option maxRecDepth 10000
theorem bv64 (n : Nat) (h : n < 4294967296) : (BitVec.ofInt IntKind.i64.bits (n : Int)).toNat = n := by
 have : (BitVec.ofInt 64 (n : Int)).toNat = n := by
   rw [BitVec.ofInt_natCast, BitVec.toNat_ofNat]
   exact Nat.mod_eq_of_lt (by omega)
 exact this
theorem xor64 {a b : Int} (ha : W32 a) (hb : W32 b) : IntKind.i64.wrap (BitVec.ofInt IntKind.i64.bits a ^^^ BitVec.ofInt IntKind.i64.bits b).toNat = xI a b := by
 obtain ⟨m, rfl, hm⟩ := w32_nat ha
 obtain ⟨n, rfl, hn⟩ := w32_nat hb
 have h2 : m ^^^ n < 2 ^ 32 := Nat.xor_lt_two_pow (by omega) (by omega)
 have e : xI (m : Int) (n : Int) = ((m ^^^ n : Nat) : Int) := rfl
 rw [BitVec.toNat_xor, bv64 m hm, bv64 n hn, e]
 generalize m ^^^ n = z at *
 rw [wrap_i64]
 omega
theorem and64 {a b : Int} (ha : W32 a) (hb : W32 b) : IntKind.i64.wrap (BitVec.ofInt IntKind.i64.bits a &&& BitVec.ofInt IntKind.i64.bits b).toNat = aI a b := by
 obtain ⟨m, rfl, hm⟩ := w32_nat ha
 obtain ⟨n, rfl, hn⟩ := w32_nat hb
 have h2 : m &&& n ≤ m := Nat.and_le_left
 have e : aI (m : Int) (n : Int) = ((m &&& n : Nat) : Int) := rfl
 rw [BitVec.toNat_and, bv64 m hm, bv64 n hn, e]
 generalize m &&& n = z at *
 rw [wrap_i64]
 omega
theorem small64 (x : Int) (hx : W32 x) (a b c : Nat) (ha : a ≤ 32) (hb : b ≤ 32) : IntKind.i64.wrap (BitVec.ofInt IntKind.i64.bits (IntKind.i64.wrap (BitVec.ofInt IntKind.i64.bits (rR x a) ^^^ BitVec.ofInt IntKind.i64.bits (rR x b)).toNat) ^^^ BitVec.ofInt IntKind.i64.bits (x / 2 ^ c)).toNat = smallS x a b c := by
 rw [xor64 (rR_low hx ha) (rR_low hx hb), xor64 (xI_low (rR_low hx ha) (rR_low hx hb)) (div_low hx c)]
 rfl
theorem great64 (x : Int) (hx : W32 x) (a b c : Nat) (ha : a ≤ 32) (hb : b ≤ 32) (hc : c ≤ 32) : IntKind.i64.wrap (BitVec.ofInt IntKind.i64.bits (IntKind.i64.wrap (BitVec.ofInt IntKind.i64.bits (rR x a) ^^^ BitVec.ofInt IntKind.i64.bits (rR x b)).toNat) ^^^ BitVec.ofInt IntKind.i64.bits (rR x c)).toNat = greatS x a b c := by
 rw [xor64 (rR_low hx ha) (rR_low hx hb), xor64 (xI_low (rR_low hx ha) (rR_low hx hb)) (rR_low hx hc)]
 rfl
theorem stepT64 (u : V8) (hu : u.ok) (k w : Int) (hk : W32 k) (hw : W32 w) : (IntKind.i64.wrap (IntKind.i64.wrap (IntKind.i64.wrap (u.h + greatS u.e 6 11 25 + IntKind.i64.wrap (BitVec.ofInt IntKind.i64.bits (IntKind.i64.wrap (BitVec.ofInt IntKind.i64.bits u.e &&& BitVec.ofInt IntKind.i64.bits u.f).toNat) ^^^ BitVec.ofInt IntKind.i64.bits (IntKind.i64.wrap (BitVec.ofInt IntKind.i64.bits (4294967295 - u.e) &&& BitVec.ofInt IntKind.i64.bits u.g).toNat)).toNat) + k) + w)).tmod 4294967296 = stepT u k w := by
 obtain ⟨h1, h2, h3, h4, h5, h6, h7, h8⟩ := hu
 have hn : W32 (4294967295 - u.e) := by unfold W32 at *; omega
 have hg := great_low h5 (a := 6) (b := 11) (c := 25) (by omega) (by omega) (by omega)
 have hx := xI_low (aI_low h5 h6) (aI_low hn h7)
 rw [and64 h5 h6, and64 hn h7, xor64 (aI_low h5 h6) (aI_low hn h7)]
 unfold stepT
 generalize greatS u.e 6 11 25 = q1 at *
 generalize xI (aI u.e u.f) (aI (4294967295 - u.e) u.g) = q2 at *
 unfold W32 at *
 rw [(wrap_i64 (u.h + q1 + q2)).2 (by omega), (wrap_i64 (u.h + q1 + q2 + k)).2 (by omega), (wrap_i64 (u.h + q1 + q2 + k + w)).2 (by omega), Int.tmod_eq_emod_of_nonneg (by omega)]
theorem stepU64 (u : V8) (hu : u.ok) : (IntKind.i64.wrap (greatS u.a 2 13 22 + IntKind.i64.wrap (BitVec.ofInt IntKind.i64.bits (IntKind.i64.wrap (BitVec.ofInt IntKind.i64.bits (IntKind.i64.wrap (BitVec.ofInt IntKind.i64.bits u.a &&& BitVec.ofInt IntKind.i64.bits u.b).toNat) ^^^ BitVec.ofInt IntKind.i64.bits (IntKind.i64.wrap (BitVec.ofInt IntKind.i64.bits u.a &&& BitVec.ofInt IntKind.i64.bits u.c).toNat)).toNat) ^^^ BitVec.ofInt IntKind.i64.bits (IntKind.i64.wrap (BitVec.ofInt IntKind.i64.bits u.b &&& BitVec.ofInt IntKind.i64.bits u.c).toNat)).toNat)).tmod 4294967296 = stepU u := by
 obtain ⟨h1, h2, h3, h4, h5, h6, h7, h8⟩ := hu
 have hg := great_low h1 (a := 2) (b := 13) (c := 22) (by omega) (by omega) (by omega)
 have hx := xI_low (xI_low (aI_low h1 h2) (aI_low h1 h3)) (aI_low h2 h3)
 rw [and64 h1 h2, and64 h1 h3, and64 h2 h3, xor64 (aI_low h1 h2) (aI_low h1 h3), xor64 (xI_low (aI_low h1 h2) (aI_low h1 h3)) (aI_low h2 h3)]
 unfold stepU
 generalize greatS u.a 2 13 22 = q1 at *
 generalize xI (xI (aI u.a u.b) (aI u.a u.c)) (aI u.b u.c) = q2 at *
 unfold W32 at *
 rw [(wrap_i64 (q1 + q2)).2 (by omega), Int.tmod_eq_emod_of_nonneg (by omega)]
theorem bytes4 (v : V8) (hv : v.ok) (i : Nat) (hi : i < 8) : W32 (v.l.getD i 0) ∧ v.bytes[4 * i]? = some (v.l.getD i 0 / 16777216 % 256) ∧ v.bytes[4 * i + 1]? = some (v.l.getD i 0 / 65536 % 256) ∧ v.bytes[4 * i + 2]? = some (v.l.getD i 0 / 256 % 256) ∧ v.bytes[4 * i + 3]? = some (v.l.getD i 0 % 256) := by
 obtain ⟨h1, h2, h3, h4, h5, h6, h7, h8⟩ := hv
 have : i = 0 ∨ i = 1 ∨ i = 2 ∨ i = 3 ∨ i = 4 ∨ i = 5 ∨ i = 6 ∨ i = 7 := by omega
 rcases this with rfl | rfl | rfl | rfl | rfl | rfl | rfl | rfl
 · exact ⟨h1, rfl, rfl, rfl, rfl⟩
 · exact ⟨h2, rfl, rfl, rfl, rfl⟩
 · exact ⟨h3, rfl, rfl, rfl, rfl⟩
 · exact ⟨h4, rfl, rfl, rfl, rfl⟩
 · exact ⟨h5, rfl, rfl, rfl, rfl⟩
 · exact ⟨h6, rfl, rfl, rfl, rfl⟩
 · exact ⟨h7, rfl, rfl, rfl, rfl⟩
 · exact ⟨h8, rfl, rfl, rfl, rfl⟩
theorem h0_get (i : Nat) (hi : i < 8) : H0.l[i]? = some (rootS (pr64.getD i 0) 2) := by
 rw [← roots8, List.getElem?_map, List.getElem?_take, if_pos hi, List.getElem?_eq_getElem (by rw [prm_len.2]; omega)]
 have h : i < pr64.length := by rw [prm_len.2]; omega
 simp [h]
theorem ks_get (i : Nat) (hi : i < 64) : KS[i]? = some (rootS (pr64.getD i 0) 3) := by
 rw [← roots64, List.getElem?_map, List.getElem?_eq_getElem (by rw [prm_len.2]; omega)]
 have h : i < pr64.length := by rw [prm_len.2]; omega
 simp [h]
theorem pr_get (i : Nat) : 0 ≤ pr64.getD i 0 ∧ pr64.getD i 0 < 1000 := by
 rw [List.getD_eq_getElem?_getD]
 cases h : pr64[i]? with
 | none => simp
 | some x => exact pr64_low x (List.mem_of_getElem? h)
theorem len_step (n j : Nat) (hj : j < 8) (hn : n ≤ 1000000) : (lenBytes n)[7 - j]? = some (8 * (n : Int) / 256 ^ j % 256) := by
 rw [lenBytes_get n (7 - j) (by omega) hn]
 have e : (2 : Int) ^ (56 - 8 * (7 - j)) = 256 ^ j := by
   have : j = 0 ∨ j = 1 ∨ j = 2 ∨ j = 3 ∨ j = 4 ∨ j = 5 ∨ j = 6 ∨ j = 7 := by omega
   rcases this with rfl | rfl | rfl | rfl | rfl | rfl | rfl | rfl <;> rfl
 rw [e, Int.mul_comm]
set_option maxHeartbeats 16000000 in
theorem refsum_ok (b : List Int) (hb' : WfB b) (hbl : b.length ≤ 1000000) : Ct Tryz.prog 13 [B8 b] [] (.ai .u8 (digS b)) [] [] := by
 obtain ⟨FS, hFS⟩ : ∃ FS, finS H0 (b ++ padS b.length) = FS := ⟨_, rfl⟩
 have hdig : digS b = FS.bytes := by rw [← hFS]; rfl
 rw [hdig]
 clear hdig
 have hpl := prm_len.2
 have hprg := pr_get
 have hr2 := fun i : Nat => root_ok (pr64.getD (i : Int).toNat 0) 2 (hprg _)
 have hr3 := fun i : Nat => root_ok (pr64.getD (i : Int).toNat 0) 3 (hprg _)
 have hH0g := h0_get
 have hKSg := ks_get
 have hPA := primes_ok
 generalize pr64 = PR at *
 refine Ct_intro Tryz.func13 rfl rfl rfl rfl rfl (fun E hn hb => ?_)
 repeat (refine nst ?_)
 refine s_allocAN .u8 32 rfl rfl rfl (by rw [hn]; rfl) (by kernel_rfl) ?_
 repeat (refine nst ?_)
 refine s_call0 (hPA) rfl rfl rfl (by rw [hn]; rfl) rfl rfl (by exact vcs) rfl rfl rfl ?_
 repeat (refine nst ?_)
 refine s_allocAN .i64 8 rfl rfl rfl (by rw [hn]; rfl) (by kernel_rfl) ?_
 repeat (refine nst ?_)
 have e0 : List.replicate 8 (0 : Int) = fillUp H0.l 0 := by rw [fillUp_zero]; rfl
 refine W_weaken (St.le_of (l := [(0, B8 b), (2, .c (.ptr 66 0)), (3, .c (.lf (.ints .i64 PR))), (4, .c (.ptr 68 0)), (5, lv (.int .i64 0))]) (h := [(66, .row (.ints .u8 (List.replicate 32 0))), (68, .row (.ints .i64 (List.replicate 8 0)))]) (by refine ⟨?_, ?_⟩ <;> (repeat' (first | exact trivial | exact rfl | refine ⟨?_, ?_⟩)) <;> first | exact rfl | (simp; done) | skip)) ?_
 rw [e0]
 refine W_loop (ι := {i : Nat // i ≤ 8}) (fun i => St.of [(0, B8 b), (2, .c (.ptr 66 0)), (3, .c (.lf (.ints .i64 PR))), (4, .c (.ptr 68 0)), (5, lv (.int .i64 (i.1 : Int)))] [(66, .row (.ints .u8 (List.replicate 32 0))), (68, .row (.ints .i64 (fillUp H0.l i.1)))]) (fun i => 8 - i.1) (fun i => ?_) ⟨0, by omega⟩
 obtain ⟨i, hi⟩ := i
 dsimp only
 have hfl : (fillUp H0.l i).length = 8 := by rw [fillUp_length]; rfl
 repeat (refine nst ?_)
 refine W_cond rfl (by simp) (fun hc => ?_) (fun hc => ?_)
 · have hi8 : i < 8 := by simp at hc; omega
   have hst : (fillUp H0.l i).set (0 + (i : Int).toNat) (rootS (PR.getD (i : Int).toNat 0) 2) = fillUp H0.l (i + 1) := by
     rw [Nat.zero_add, Int.toNat_natCast]
     exact fillUp_set _ i _ (hH0g i hi8)
   repeat (refine nst ?_)
   refine s_call0 (hr2 i) rfl rfl rfl (by rw [hn]; rfl) rfl rfl (by exact vcs) rfl rfl rfl ?_
   repeat (refine nst ?_)
   refine s_storeI rfl rfl rfl rfl rfl (by exact vcs) rfl (by rw [cellsOf3]) (by first | (simp; done) | (simp; omega) | (simp at *; omega)) ?_
   repeat (refine nst ?_)
   refine N_round ⟨i + 1, by omega⟩ (by dsimp only; omega) (St.le_of ⟨⟨rfl, rfl, rfl, rfl, rfl⟩, ⟨rfl, congrArg (fun l => Blk.row (.ints .i64 l)) hst⟩⟩)
 have h8 : i = 8 := by simp at hc; omega
 subst h8
 rw [show fillUp H0.l 8 = H0.l from fillUp_all H0.l]
 clear hfl hr2 hH0g e0
 repeat (refine nst ?_)
 refine s_allocAN .i64 64 rfl rfl rfl (by rw [hn]; rfl) (by kernel_rfl) ?_
 repeat (refine nst ?_)
 have e0 : List.replicate 64 (0 : Int) = fillUp KS 0 := by rw [fillUp_zero, KS_len]
 refine W_weaken (St.le_of (l := [(0, B8 b), (2, .c (.ptr 66 0)), (3, .c (.lf (.ints .i64 PR))), (4, .c (.ptr 68 0)), (6, .c (.ptr 70 0)), (7, lv (.int .i64 0))]) (h := [(66, .row (.ints .u8 (List.replicate 32 0))), (68, .row (.ints .i64 H0.l)), (70, .row (.ints .i64 (List.replicate 64 0)))]) (by refine ⟨?_, ?_⟩ <;> (repeat' (first | exact trivial | exact rfl | refine ⟨?_, ?_⟩)) <;> first | exact rfl | (simp; done) | skip)) ?_
 rw [e0]
 refine W_loop (ι := {i : Nat // i ≤ 64}) (fun i => St.of [(0, B8 b), (2, .c (.ptr 66 0)), (3, .c (.lf (.ints .i64 PR))), (4, .c (.ptr 68 0)), (6, .c (.ptr 70 0)), (7, lv (.int .i64 (i.1 : Int)))] [(66, .row (.ints .u8 (List.replicate 32 0))), (68, .row (.ints .i64 H0.l)), (70, .row (.ints .i64 (fillUp KS i.1)))]) (fun i => 64 - i.1) (fun i => ?_) ⟨0, by omega⟩
 obtain ⟨i, hi⟩ := i
 dsimp only
 have hfl : (fillUp KS i).length = 64 := by rw [fillUp_length, KS_len]
 repeat (refine nst ?_)
 refine W_cond rfl (by simp) (fun hc => ?_) (fun hc => ?_)
 · have hi8 : i < 64 := by simp at hc; omega
   have hst : (fillUp KS i).set (0 + (i : Int).toNat) (rootS (PR.getD (i : Int).toNat 0) 3) = fillUp KS (i + 1) := by
     rw [Nat.zero_add, Int.toNat_natCast]
     exact fillUp_set _ i _ (hKSg i hi8)
   repeat (refine nst ?_)
   refine s_call0 (hr3 i) rfl rfl rfl (by rw [hn]; rfl) rfl rfl (by exact vcs) rfl rfl rfl ?_
   repeat (refine nst ?_)
   refine s_storeI rfl rfl rfl rfl rfl (by exact vcs) rfl (by rw [cellsOf3]) (by first | (simp; done) | (simp; omega) | (simp at *; omega)) ?_
   repeat (refine nst ?_)
   refine N_round ⟨i + 1, by omega⟩ (by dsimp only; omega) (St.le_of ⟨⟨rfl, rfl, rfl, rfl, rfl, rfl⟩, ⟨rfl, rfl, congrArg (fun l => Blk.row (.ints .i64 l)) hst⟩⟩)
 have h8 : i = 64 := by simp at hc; omega
 subst h8
 rw [show fillUp KS 64 = KS from by have := fillUp_all KS; rwa [KS_len] at this]
 clear hfl hr3 hKSg e0 hPA hprg
 repeat (refine nst ?_)
 refine s_litI rfl rfl rfl (by rw [hn]; rfl) (elt_mk Tryz.underlying29 rfl rfl) (zok5) (by exact vcs) ⟨by decide, rfl⟩ ?_
 repeat (refine nst ?_)
 refine s_appI rfl rfl rfl rfl rfl rfl (by rw [hn]; rfl) (elt_mk Tryz.underlying29 rfl rfl) rfl rfl rfl rfl (by exact vcs) (by first | rfl | (simp; done) | (simp; omega)) ⟨by first | (simp; done) | (simp; omega) | (simp at *; omega), by decide⟩ ?_
 repeat (refine nst ?_)
 refine s_litI rfl rfl rfl (by rw [hn]; rfl) (elt_mk Tryz.underlying29 rfl rfl) (zok5) (by exact vcs) ⟨by decide, rfl⟩ ?_
 repeat (refine nst ?_)
 refine s_appI rfl rfl rfl rfl rfl rfl (by rw [hn]; rfl) (elt_mk Tryz.underlying29 rfl rfl) rfl rfl rfl rfl (by exact vcs) (by first | rfl | (simp; done) | (simp; omega)) ⟨by first | (simp; done) | (simp; omega) | (simp at *; omega), by decide⟩ ?_
 repeat (refine nst ?_)
 have hZ : padZ b.length < 64 := by unfold padZ; omega
 have hZ2 : (b.length + 1 + padZ b.length) % 64 = 56 := by unfold padZ; omega
 rw [padS_eq] at hFS
 generalize padZ b.length = z at *
 refine W_weaken (St.le_of (l := [(0, B8 b), (2, .c (.ptr 66 0)), (4, .c (.ptr 68 0)), (6, .c (.ptr 70 0)), (8, .c (.own 119 1 0 (b ++ [128]).length))]) (h := [(66, .row (.ints .u8 (List.replicate 32 0))), (68, .row (.ints .i64 H0.l)), (70, .row (.ints .i64 KS)), (119, .row (.ints .u8 (b ++ [128])))]) (by refine ⟨?_, ?_⟩ <;> (repeat' (first | exact trivial | exact rfl | refine ⟨?_, ?_⟩)) <;> first | exact rfl | (simp; done) | skip)) ?_
 refine W_loop (ι := {k : Nat // k ≤ z}) (fun k => St.of [(0, B8 b), (2, .c (.ptr 66 0)), (4, .c (.ptr 68 0)), (6, .c (.ptr 70 0)), (8, .c (.own 119 1 0 (b ++ 128 :: List.replicate k.1 0).length))] [(66, .row (.ints .u8 (List.replicate 32 0))), (68, .row (.ints .i64 H0.l)), (70, .row (.ints .i64 KS)), (119, .row (.ints .u8 (b ++ 128 :: List.replicate k.1 0)))]) (fun k => z - k.1) (fun k => ?_) ⟨0, by omega⟩
 obtain ⟨k, hk⟩ := k
 dsimp only
 have hEl : (b ++ 128 :: List.replicate k 0).length = b.length + 1 + k := by simp; omega
 have hEn : (b ++ 128 :: List.replicate k 0) ++ [0] = (b ++ 128 :: List.replicate (k + 1) 0) := by rw [List.replicate_succ', List.append_assoc]; rfl
 repeat (refine nst ?_)
 refine W_cond rfl (by simp) (fun hc => ?_) (fun hc => ?_)
 · have hne : (b.length + 1 + k) % 64 ≠ 56 := by rw [hEl] at hc; simp at hc; omega
   have hkz : k < z := by
     rcases Nat.lt_or_ge k z with h | h
     · exact h
     · have : k = z := by omega
       subst this; omega
   repeat (refine nst ?_)
   refine s_litI rfl rfl rfl (by rw [hn]; rfl) (elt_mk Tryz.underlying29 rfl rfl) (zok5) (by exact vcs) ⟨by decide, rfl⟩ ?_
   repeat (refine nst ?_)
   refine s_appI rfl rfl rfl rfl rfl rfl (by rw [hn]; rfl) (elt_mk Tryz.underlying29 rfl rfl) rfl rfl rfl rfl (by exact vcs) (by first | rfl | (simp; done) | (simp; omega)) ⟨by first | (simp; done) | (simp; omega) | (simp at *; omega), by decide⟩ ?_
   repeat (refine nst ?_)
   refine N_round ⟨k + 1, by omega⟩ (by dsimp only; omega) (St.le_of ⟨⟨rfl, rfl, rfl, rfl, congrArg (fun E : List Int => Av.c (.own 119 1 0 E.length)) hEn⟩, ⟨rfl, rfl, rfl, congrArg (fun E => Blk.row (.ints .u8 E)) hEn⟩⟩)
 have heq : (b.length + 1 + k) % 64 = 56 := by rw [hEl] at hc; simp at hc; omega
 have hkz : k = z := by omega
 subst hkz
 have hE1wf : WfB (b ++ 128 :: List.replicate k 0) := wf_app hb' fun y hy => by
   cases hy with
   | head => omega
   | tail _ hy => exact replicate_wf k y hy
 have hLl : (lenBytes b.length).length = 8 := rfl
 have hLg := fun j hj => len_step b.length j hj hbl
 have hLw := lenBytes_wf b.length
 have hFS2 : finS H0 ((b ++ 128 :: List.replicate k 0) ++ lenBytes b.length) = FS := by rw [← hFS, List.append_assoc]; rfl
 clear hEn hFS hc
 generalize (b ++ 128 :: List.replicate k 0) = E1 at *
 generalize lenBytes b.length = L at *
 repeat (refine nst ?_)
 refine s_allocAN .u8 8 rfl rfl rfl (by rw [hn]; rfl) (by kernel_rfl) ?_
 repeat (refine nst ?_)
 refine W_weaken (St.le_of (l := [(2, .c (.ptr 66 0)), (4, .c (.ptr 68 0)), (6, .c (.ptr 70 0)), (8, .c (.own 119 1 0 E1.length)), (9, lv (.int .i64 (8 * (b.length : Int)))), (10, .c (.ptr 74 0)), (11, lv (.int .i64 7))]) (h := [(66, .row (.ints .u8 (List.replicate 32 0))), (68, .row (.ints .i64 H0.l)), (70, .row (.ints .i64 KS)), (74, .row (.ints .u8 (List.replicate 8 0))), (119, .row (.ints .u8 E1))]) (by refine ⟨?_, ?_⟩ <;> (repeat' (first | exact trivial | exact rfl | refine ⟨?_, ?_⟩)) <;> first | exact rfl | (simp; done) | skip)) ?_
 refine W_weaken (τ := St.of [(2, .c (.ptr 66 0)), (4, .c (.ptr 68 0)), (6, .c (.ptr 70 0)), (8, .c (.own 119 1 0 E1.length)), (9, lv (.int .i64 (8 * (b.length : Int) / 256 ^ 0))), (10, .c (.ptr 74 0)), (11, lv (.int .i64 (7 - ((0 : Nat) : Int))))] [(66, .row (.ints .u8 (List.replicate 32 0))), (68, .row (.ints .i64 H0.l)), (70, .row (.ints .i64 KS)), (74, .row (.ints .u8 (List.replicate (8 - 0) 0 ++ L.drop (8 - 0)))), (119, .row (.ints .u8 E1))]) ?_ ?_
 · rw [Int.pow_zero, Int.ediv_one, List.drop_of_length_le (by omega), List.append_nil]; exact ⟨fun _ => .inl rfl, fun _ => .inl rfl⟩
 refine W_loop (ι := {j : Nat // j ≤ 8}) (fun j => St.of [(2, .c (.ptr 66 0)), (4, .c (.ptr 68 0)), (6, .c (.ptr 70 0)), (8, .c (.own 119 1 0 E1.length)), (9, lv (.int .i64 (8 * (b.length : Int) / 256 ^ j.1))), (10, .c (.ptr 74 0)), (11, lv (.int .i64 (7 - (j.1 : Int))))] [(66, .row (.ints .u8 (List.replicate 32 0))), (68, .row (.ints .i64 H0.l)), (70, .row (.ints .i64 KS)), (74, .row (.ints .u8 (List.replicate (8 - j.1) 0 ++ L.drop (8 - j.1)))), (119, .row (.ints .u8 E1))]) (fun j => 8 - j.1) (fun j => ?_) ⟨0, by omega⟩
 obtain ⟨j, hj⟩ := j
 dsimp only
 repeat (refine nst ?_)
 refine W_cond rfl (by simp) (fun hc => ?_) (fun hc => ?_)
 · have hj8 : j < 8 := by simp at hc; omega
   have hy := hLg j hj8
   have hy0 : 0 ≤ 8 * (b.length : Int) / 256 ^ j ∧ 8 * (b.length : Int) / 256 ^ j ≤ 8000000 := by
     refine ⟨Int.ediv_nonneg (by omega) (Int.pow_nonneg (by decide)), ?_⟩
     have h1 : 8 * (b.length : Int) / 256 ^ j ≤ 8 * (b.length : Int) := Int.ediv_le_self _ (by omega)
     omega
   have hyd : 8 * (b.length : Int) / 256 ^ j / 256 = 8 * (b.length : Int) / 256 ^ (j + 1) := by rw [Int.pow_succ, Int.ediv_ediv_of_nonneg (Int.pow_nonneg (by decide))]
   have hrl : (List.replicate (8 - j) 0 ++ L.drop (8 - j)).length = 8 := by simp; omega
   generalize 8 * (b.length : Int) / 256 ^ j = y at *
   have hst : (List.replicate (8 - j) 0 ++ L.drop (8 - j)).set (0 + (7 - (j : Int)).toNat) (y % 256) = List.replicate (8 - (j + 1)) 0 ++ L.drop (8 - (j + 1)) := by
     have hlt : 7 - j < L.length := by omega
     rw [List.getElem?_eq_getElem hlt] at hy
     have e1 : 0 + (7 - (j : Int)).toNat = 7 - j := by omega
     rw [e1, show 8 - j = (7 - j) + 1 by omega, show 8 - (j + 1) = 7 - j by omega, List.replicate_succ', List.append_assoc, List.drop_eq_getElem_cons hlt, Option.some.inj hy]
     exact set_mid _ _ _ _ _ (by simp)
   repeat (refine nst ?_)
   refine s_storeI rfl rfl rfl rfl rfl (by exact vcs) rfl (by rw [cellsOf5]) (by first | (simp; done) | (simp; omega) | (simp at *; omega)) ?_
   repeat (refine nst ?_)
   refine N_round ⟨j + 1, by omega⟩ (by dsimp only; omega) (St.le_of ⟨⟨rfl, rfl, rfl, rfl, congrArg (fun y => lv (.int .i64 y)) hyd, rfl, ?_⟩, ⟨rfl, rfl, rfl, congrArg (fun l => Blk.row (.ints .u8 l)) hst, rfl⟩⟩)
   refine congrArg (fun y => lv (.int .i64 y)) ?_
   show 7 - (j : Int) - 1 = 7 - ((j + 1 : Nat) : Int)
   omega
 have h8 : j = 8 := by simp at hc; omega
 subst h8
 rw [show List.replicate (8 - 8) (0 : Int) ++ L.drop (8 - 8) = L from rfl]
 clear hLg
 repeat (refine nst ?_)
 refine W_weaken (St.le_of (l := [(2, .c (.ptr 66 0)), (4, .c (.ptr 68 0)), (6, .c (.ptr 70 0)), (8, .c (.own 119 1 0 E1.length)), (10, .c (.ptr 74 0)), (12, lv (.int .i64 0))]) (h := [(66, .row (.ints .u8 (List.replicate 32 0))), (68, .row (.ints .i64 H0.l)), (70, .row (.ints .i64 KS)), (74, .row (.ints .u8 L)), (119, .row (.ints .u8 E1))]) (by refine ⟨?_, ?_⟩ <;> (repeat' (first | exact trivial | exact rfl | refine ⟨?_, ?_⟩)) <;> first | exact rfl | (simp; done) | skip)) ?_
 refine W_weaken (τ := St.of [(2, .c (.ptr 66 0)), (4, .c (.ptr 68 0)), (6, .c (.ptr 70 0)), (8, .c (.own 119 1 0 (E1 ++ L.take 0).length)), (10, .c (.ptr 74 0)), (12, lv (.int .i64 ((0 : Nat) : Int)))] [(66, .row (.ints .u8 (List.replicate 32 0))), (68, .row (.ints .i64 H0.l)), (70, .row (.ints .i64 KS)), (74, .row (.ints .u8 L)), (119, .row (.ints .u8 (E1 ++ L.take 0)))]) ?_ ?_
 · rw [List.take_zero, List.append_nil]; exact ⟨fun _ => .inl rfl, fun _ => .inl rfl⟩
 refine W_loop (ι := {i : Nat // i ≤ 8}) (fun i => St.of [(2, .c (.ptr 66 0)), (4, .c (.ptr 68 0)), (6, .c (.ptr 70 0)), (8, .c (.own 119 1 0 (E1 ++ L.take i.1).length)), (10, .c (.ptr 74 0)), (12, lv (.int .i64 (i.1 : Int)))] [(66, .row (.ints .u8 (List.replicate 32 0))), (68, .row (.ints .i64 H0.l)), (70, .row (.ints .i64 KS)), (74, .row (.ints .u8 L)), (119, .row (.ints .u8 (E1 ++ L.take i.1)))]) (fun i => 8 - i.1) (fun i => ?_) ⟨0, by omega⟩
 obtain ⟨i, hi⟩ := i
 dsimp only
 repeat (refine nst ?_)
 refine W_cond rfl (by simp) (fun hc => ?_) (fun hc => ?_)
 · have hi8 : i < 8 := by simp at hc; omega
   have hnx : (E1 ++ L.take i) ++ [L.getD (0 + (i : Int).toNat) 0] = E1 ++ L.take (i + 1) := by
     have hlt : i < L.length := by omega
     rw [Nat.zero_add, Int.toNat_natCast, List.append_assoc, List.take_succ_eq_append_getElem hlt]
     simp [hlt]
   repeat (refine nst ?_)
   refine s_litI rfl rfl rfl (by rw [hn]; rfl) (elt_mk Tryz.underlying29 rfl rfl) (zok5) (by exact vcs) ⟨by decide, rfl⟩ ?_
   repeat (refine nst ?_)
   refine s_appI rfl rfl rfl rfl rfl rfl (by rw [hn]; rfl) (elt_mk Tryz.underlying29 rfl rfl) rfl rfl rfl rfl (by exact vcs) (by first | rfl | (simp; done) | (simp; omega)) ⟨by first | (simp; done) | (simp; omega) | (simp at *; omega), by decide⟩ ?_
   repeat (refine nst ?_)
   refine N_round ⟨i + 1, by omega⟩ (by dsimp only; omega) (St.le_of ⟨⟨rfl, rfl, rfl, congrArg (fun E : List Int => Av.c (.own 119 1 0 E.length)) hnx, rfl, rfl⟩, ⟨rfl, rfl, rfl, rfl, congrArg (fun E => Blk.row (.ints .u8 E)) hnx⟩⟩)
 have h8 : i = 8 := by simp at hc; omega
 subst h8
 rw [List.take_of_length_le (by omega)]
 have hDl : (E1 ++ L).length % 64 = 0 := by simp; omega
 have hDm : (E1 ++ L).length ≤ 2000000 := by simp; omega
 have hDw : WfB (E1 ++ L) := wf_app hE1wf hLw
 generalize E1 ++ L = D at *
 repeat (refine nst ?_)
 refine W_weaken (St.le_of (l := [(2, .c (.ptr 66 0)), (4, .c (.ptr 68 0)), (6, .c (.ptr 70 0)), (8, .c (.own 119 1 0 D.length)), (13, lv (.int .i64 0))]) (h := [(66, .row (.ints .u8 (List.replicate 32 0))), (68, .row (.ints .i64 H0.l)), (70, .row (.ints .i64 KS)), (119, .row (.ints .u8 D))]) (by refine ⟨?_, ?_⟩ <;> (repeat' (first | exact trivial | exact rfl | refine ⟨?_, ?_⟩)) <;> first | exact rfl | (simp; done) | skip)) ?_
 refine W_loop (ι := {p : SI // 64 * p.k ≤ D.length ∧ finS p.v (D.drop (64 * p.k)) = FS ∧ p.v.ok}) (fun p => St.of [(2, .c (.ptr 66 0)), (4, .c (.ptr 68 0)), (6, .c (.ptr 70 0)), (8, .c (.own 119 1 0 D.length)), (13, lv (.int .i64 ((64 * p.1.k : Nat) : Int)))] [(66, .row (.ints .u8 (List.replicate 32 0))), (68, .row (.ints .i64 p.1.v.l)), (70, .row (.ints .i64 KS)), (119, .row (.ints .u8 D))]) (fun p => D.length - 64 * p.1.k) (fun p => ?_) ⟨⟨H0, 0⟩, by dsimp only; omega, hFS2, H0_ok⟩
 obtain ⟨⟨v, k⟩, q1, q2, q3⟩ := p
 have hkD : 64 * k ≤ D.length := q1
 have hfs : finS v (D.drop (64 * k)) = FS := q2
 have hv : v.ok := q3
 dsimp only
 clear q1 q2 q3 hFS2 hZ2 heq hk hEl hE1wf hLl hLw hi
 have hdl : (D.drop (64 * k)).length = D.length - 64 * k := by simp
 repeat (refine nst ?_)
 refine W_cond rfl (by simp) (fun hc3 => ?_) (fun hc3 => ?_)
 · have h64 : 64 * k + 64 ≤ D.length := by simp at hc3; omega
   rw [finS_step v _ (by omega), List.drop_drop] at hfs
   obtain ⟨K, hK⟩ : ∃ K, (D.drop (64 * k)).take 64 = K := ⟨_, rfl⟩
   have hK64 : K.length = 64 := by rw [← hK]; simp; omega
   have hKg : ∀ i, i < 64 → K.getD i 0 = D.getD (64 * k + i) 0 := fun i hi => by rw [← hK]; exact drop_take_getD D (64 * k) 64 i hi
   have hKw : WfB K := by rw [← hK]; exact fun x hx => hDw x (List.mem_of_mem_drop (List.mem_of_mem_take hx))
   have hA1 := words_get1 K hK64
   have hA2 := words_get2 K hK64
   have hAl := wordsS_len K hK64
   have hAw := wordsS_low hKw
   have hcs : compS v K = addV v (runV v KS (wordsS K)) := rfl
   rw [hK, hcs] at hfs
   clear hcs hK
   generalize wordsS K = A at *
   repeat (refine nst ?_)
   refine s_allocAN .i64 64 rfl rfl rfl (by rw [hn]; rfl) (by kernel_rfl) ?_
   repeat (refine nst ?_)
   have e0 : List.replicate 64 (0 : Int) = fillUp A 0 := by rw [fillUp_zero, hAl]
   refine W_weaken (St.le_of (l := [(2, .c (.ptr 66 0)), (4, .c (.ptr 68 0)), (6, .c (.ptr 70 0)), (8, .c (.own 119 1 0 D.length)), (13, lv (.int .i64 ((64 * k : Nat) : Int))), (14, .c (.ptr 78 0)), (15, lv (.int .i64 0))]) (h := [(66, .row (.ints .u8 (List.replicate 32 0))), (68, .row (.ints .i64 v.l)), (70, .row (.ints .i64 KS)), (78, .row (.ints .i64 (List.replicate 64 0))), (119, .row (.ints .u8 D))]) (by refine ⟨?_, ?_⟩ <;> (repeat' (first | exact trivial | exact rfl | refine ⟨?_, ?_⟩)) <;> first | exact rfl | (simp; done) | skip)) ?_
   rw [e0]
   refine W_loop (ι := {i : Nat // i ≤ 16}) (fun i => St.of [(2, .c (.ptr 66 0)), (4, .c (.ptr 68 0)), (6, .c (.ptr 70 0)), (8, .c (.own 119 1 0 D.length)), (13, lv (.int .i64 ((64 * k : Nat) : Int))), (14, .c (.ptr 78 0)), (15, lv (.int .i64 (i.1 : Int)))] [(66, .row (.ints .u8 (List.replicate 32 0))), (68, .row (.ints .i64 v.l)), (70, .row (.ints .i64 KS)), (78, .row (.ints .i64 (fillUp A i.1))), (119, .row (.ints .u8 D))]) (fun i => 16 - i.1) (fun i => ?_) ⟨0, by omega⟩
   obtain ⟨i, hi⟩ := i
   dsimp only
   repeat (refine nst ?_)
   refine W_cond rfl (by simp) (fun hc => ?_) (fun hc => ?_)
   · have hi16 : i < 16 := by simp at hc; omega
     have hfl : (fillUp A i).length = 64 := by rw [fillUp_length, hAl]
     have hx := hA1 i hi16
     rw [hKg _ (by omega), hKg _ (by omega), hKg _ (by omega), hKg _ (by omega)] at hx
     repeat (refine nst ?_)
     obtain ⟨q, hq⟩ : ∃ q, ((64 * k : Nat) : Int) + 4 * (i : Int) = q := ⟨_, rfl⟩
     have hq0 : 0 ≤ q ∧ q + 3 < (D.length : Int) := by omega
     rw [hq]
     have i1 : 0 + q.toNat = 64 * k + 4 * i := by omega
     have i2 : 0 + (q + 1).toNat = 64 * k + (4 * i + 1) := by omega
     have i3 : 0 + (q + 2).toNat = 64 * k + (4 * i + 2) := by omega
     have i4 : 0 + (q + 3).toNat = 64 * k + (4 * i + 3) := by omega
     have g1 := wf_get hDw (0 + q.toNat)
     have g2 := wf_get hDw (0 + (q + 1).toNat)
     have g3 := wf_get hDw (0 + (q + 2).toNat)
     have g4 := wf_get hDw (0 + (q + 3).toNat)
     repeat (refine nst ?_)
     refine W_drawX [] (by kernel_rfl) (by kernel_rfl) (by rw [hn]; rfl) ?_
     repeat (refine nsx ?_)
     refine DrawX_storeI rfl rfl rfl rfl (by exact vcs) rfl (by rw [cellsOf3]) (by first | (simp; done) | (simp; omega) | (simp at *; omega)) ?_
     repeat (refine nsx ?_)
     repeat (refine nst ?_)
     have hst : (fillUp A i).set (0 + (i : Int).toNat) (D.getD (0 + q.toNat) 0 * 16777216 + D.getD (0 + (q + 1).toNat) 0 * 65536 + D.getD (0 + (q + 2).toNat) 0 * 256 + D.getD (0 + (q + 3).toNat) 0) = fillUp A (i + 1) := by
       rw [i1, i2, i3, i4, Nat.zero_add, Int.toNat_natCast]
       exact fillUp_set A i _ hx
     refine N_round ⟨i + 1, by omega⟩ (by dsimp only; omega) (St.le_of ⟨⟨rfl, rfl, rfl, rfl, rfl, rfl, rfl⟩, ⟨rfl, rfl, rfl, congrArg (fun l => Blk.row (.ints .i64 l)) hst, rfl⟩⟩)
   have h16 : i = 16 := by simp at hc; omega
   subst h16
   clear hA1 hKg hc hi e0
   repeat (refine nst ?_)
   refine W_weaken (St.le_of (l := [(2, .c (.ptr 66 0)), (4, .c (.ptr 68 0)), (6, .c (.ptr 70 0)), (8, .c (.own 119 1 0 D.length)), (13, lv (.int .i64 ((64 * k : Nat) : Int))), (14, .c (.ptr 78 0)), (17, lv (.int .i64 16))]) (h := [(66, .row (.ints .u8 (List.replicate 32 0))), (68, .row (.ints .i64 v.l)), (70, .row (.ints .i64 KS)), (78, .row (.ints .i64 (fillUp A 16))), (119, .row (.ints .u8 D))]) (by refine ⟨?_, ?_⟩ <;> (repeat' (first | exact trivial | exact rfl | refine ⟨?_, ?_⟩)) <;> first | exact rfl | (simp; done) | skip)) ?_
   refine W_loop (ι := {i : Nat // 16 ≤ i ∧ i ≤ 64}) (fun i => St.of [(2, .c (.ptr 66 0)), (4, .c (.ptr 68 0)), (6, .c (.ptr 70 0)), (8, .c (.own 119 1 0 D.length)), (13, lv (.int .i64 ((64 * k : Nat) : Int))), (14, .c (.ptr 78 0)), (17, lv (.int .i64 (i.1 : Int)))] [(66, .row (.ints .u8 (List.replicate 32 0))), (68, .row (.ints .i64 v.l)), (70, .row (.ints .i64 KS)), (78, .row (.ints .i64 (fillUp A i.1))), (119, .row (.ints .u8 D))]) (fun i => 64 - i.1) (fun i => ?_) ⟨16, by omega, by omega⟩
   obtain ⟨i, hi, hi2⟩ := i
   dsimp only
   repeat (refine nst ?_)
   refine W_cond rfl (by simp) (fun hc => ?_) (fun hc => ?_)
   · have hi64 : i < 64 := by simp at hc; omega
     have hfl : (fillUp A i).length = 64 := by rw [fillUp_length, hAl]
     have hfg : ∀ k, k < i → (fillUp A i).getD k 0 = A.getD k 0 := by
       intro k hk
       unfold fillUp
       rw [List.getD_eq_getElem?_getD, List.getElem?_append_left (by simp; omega), List.getElem?_take, if_pos hk, List.getD_eq_getElem?_getD]
     have htl : (A.take i).length = i := by simp; omega
     have htg : ∀ k, k < i → (A.take i).getD k 0 = A.getD k 0 := by
       intro k hk
       rw [List.getD_eq_getElem?_getD, List.getElem?_take, if_pos hk, List.getD_eq_getElem?_getD]
     have j2 : (0 : Nat) + ((i : Int) - 2).toNat = i - 2 := by omega
     have j7 : (0 : Nat) + ((i : Int) - 7).toNat = i - 7 := by omega
     have j15 : (0 : Nat) + ((i : Int) - 15).toNat = i - 15 := by omega
     have j16 : (0 : Nat) + ((i : Int) - 16).toNat = i - 16 := by omega
     have hx := hA2 i hi hi64
     unfold newW at hx
     rw [htl, htg _ (by omega), htg _ (by omega), htg _ (by omega), htg _ (by omega)] at hx
     have w2 := w32_get hAw (i - 2)
     have w7 := w32_get hAw (i - 7)
     have w15 := w32_get hAw (i - 15)
     have w16 := w32_get hAw (i - 16)
     rw [← hfg _ (by omega), ← j2] at w2
     rw [← hfg _ (by omega), ← j7] at w7
     rw [← hfg _ (by omega), ← j15] at w15
     rw [← hfg _ (by omega), ← j16] at w16
     rw [← hfg _ (by omega), ← hfg _ (by omega), ← hfg _ (by omega), ← hfg _ (by omega), ← j2, ← j7, ← j15, ← j16] at hx
     clear htl htg hfg
     obtain ⟨x2, hx2⟩ : ∃ x, (fillUp A i).getD (0 + ((i : Int) - 2).toNat) 0 = x := ⟨_, rfl⟩
     obtain ⟨x15, hx15⟩ : ∃ x, (fillUp A i).getD (0 + ((i : Int) - 15).toNat) 0 = x := ⟨_, rfl⟩
     rw [hx2] at w2 hx
     rw [hx15] at w15 hx
     have c1 := right32_ok x15 7 w15 (by omega)
     have c2 := right32_ok x15 18 w15 (by omega)
     have c3 := down_ok x15 3 w15 (by omega)
     have c4 := right32_ok x2 17 w2 (by omega)
     have c5 := right32_ok x2 19 w2 (by omega)
     have c6 := down_ok x2 10 w2 (by omega)
     repeat (refine nst ?_)
     refine W_drawX [] (by kernel_rfl) (by kernel_rfl) (by rw [hn]; rfl) ?_
     repeat (refine nsx ?_)
     repeat (refine nst ?_)
     rw [hx2, hx15]
     refine s_call0 (c1) rfl rfl rfl (by rw [hn]; rfl) rfl rfl (by exact vcs) rfl rfl rfl ?_
     repeat (refine nst ?_)
     refine s_call0 (c2) rfl rfl rfl (by rw [hn]; rfl) rfl rfl (by exact vcs) rfl rfl rfl ?_
     repeat (refine nst ?_)
     refine s_call0 (c3) rfl rfl rfl (by rw [hn]; rfl) rfl rfl (by exact vcs) rfl rfl rfl ?_
     repeat (refine nst ?_)
     refine s_call0 (c4) rfl rfl rfl (by rw [hn]; rfl) rfl rfl (by exact vcs) rfl rfl rfl ?_
     repeat (refine nst ?_)
     refine s_call0 (c5) rfl rfl rfl (by rw [hn]; rfl) rfl rfl (by exact vcs) rfl rfl rfl ?_
     repeat (refine nst ?_)
     refine s_call0 (c6) rfl rfl rfl (by rw [hn]; rfl) rfl rfl (by exact vcs) rfl rfl rfl ?_
     repeat (refine nst ?_)
     have e20 := small64 x15 w15 7 18 3 (by omega) (by omega)
     have e21 := small64 x2 w2 17 19 10 (by omega) (by omega)
     have s20 := small_low w15 (a := 7) (b := 18) (c := 3) (by omega) (by omega)
     have s21 := small_low w2 (a := 17) (b := 19) (c := 10) (by omega) (by omega)
     obtain ⟨S0, hS0⟩ : ∃ S, smallS x15 7 18 3 = S := ⟨_, rfl⟩
     obtain ⟨S1, hS1⟩ : ∃ S, smallS x2 17 19 10 = S := ⟨_, rfl⟩
     rw [hS0] at e20 s20 hx
     rw [hS1] at e21 s21 hx
     refine W_sr (τ := St.of [(2, .c (.ptr 66 0)), (4, .c (.ptr 68 0)), (6, .c (.ptr 70 0)), (8, .c (.own 119 1 0 D.length)), (13, lv (.int .i64 ((64 * k : Nat) : Int))), (14, .c (.ptr 78 0)), (17, lv (.int .i64 (i : Int))), (20, lv (.int .i64 S0)), (21, lv (.int .i64 S1))] [(66, .row (.ints .u8 (List.replicate 32 0))), (68, .row (.ints .i64 v.l)), (70, .row (.ints .i64 KS)), (78, .row (.ints .i64 (fillUp A i))), (119, .row (.ints .u8 D))]) (fun a w h => h.weaken (St.le_of ⟨⟨rfl, rfl, rfl, rfl, rfl, rfl, rfl, congrArg (fun y => lv (.int .i64 y)) e20, congrArg (fun y => lv (.int .i64 y)) e21⟩, ⟨rfl, rfl, rfl, rfl, rfl⟩⟩)) ?_
     unfold W32 at w7 w16 s20 s21
     clear c1 c2 c3 c4 c5 c6 e20 e21 hS0 hS1 w2 w15 hx2 hx15
     have hst : (fillUp A i).set (0 + (i : Int).toNat) (((fillUp A i).getD (0 + ((i : Int) - 16).toNat) 0 + S0 + (fillUp A i).getD (0 + ((i : Int) - 7).toNat) 0 + S1) % 4294967296) = fillUp A (i + 1) := by
       rw [Nat.zero_add ((i : Int).toNat), Int.toNat_natCast]
       refine fillUp_set A i _ (hx.trans (congrArg some ?_))
       generalize (fillUp A i).getD (0 + ((i : Int) - 16).toNat) 0 = y16
       generalize (fillUp A i).getD (0 + ((i : Int) - 7).toNat) 0 = y7
       omega
     clear hx
     refine W_drawX [] (by kernel_rfl) (by kernel_rfl) (by rw [hn]; rfl) ?_
     repeat (refine nsx ?_)
     refine DrawX_storeI rfl rfl rfl rfl (by exact vcs) rfl (by rw [cellsOf3]) (by first | (simp; done) | (simp; omega) | (simp at *; omega)) ?_
     repeat (refine nsx ?_)
     repeat (refine nst ?_)
     refine N_round ⟨i + 1, by omega, by omega⟩ (by dsimp only; omega) (St.le_of ⟨⟨rfl, rfl, rfl, rfl, rfl, rfl, rfl⟩, ⟨rfl, rfl, rfl, congrArg (fun l => Blk.row (.ints .i64 l)) hst, rfl⟩⟩)
   have h64i : i = 64 := by simp at hc; omega
   subst h64i
   rw [show fillUp A 64 = A from by have := fillUp_all A; rwa [hAl] at this]
   clear hA2 hc hi hi2
   have hvl : v.l.length = 8 := rfl
   have hvn : v.l ≠ [] := by intro h; rw [h] at hvl; simp at hvl
   repeat (refine nst ?_)
   refine s_allocN rfl rfl rfl (by rw [hn]; rfl) rfl zok60 ?_
   repeat (refine nst ?_)
   refine s_storeN rfl rfl rfl rfl rfl (by exact vcs) rfl rfl rfl (by rw [cellsOf60]; rfl) (by rw [info60]; rfl) rfl rfl ?_
   repeat (refine nst ?_)
   refine W_weaken (St.le_of (l := [(2, .c (.ptr 66 0)), (4, .c (.ptr 68 0)), (6, .c (.ptr 70 0)), (8, .c (.own 119 1 0 D.length)), (13, lv (.int .i64 ((64 * k : Nat) : Int))), (14, .c (.ptr 78 0)), (22, .c (.ptr 86 0)), (23, lv (.int .i64 0))]) (h := [(66, .row (.ints .u8 (List.replicate 32 0))), (68, .row (.ints .i64 v.l)), (70, .row (.ints .i64 KS)), (78, .row (.ints .i64 A)), (86, .cells [.lf (.v (.int .i64 (v.a))), .lf (.v (.int .i64 (v.b))), .lf (.v (.int .i64 (v.c))), .lf (.v (.int .i64 (v.d))), .lf (.v (.int .i64 (v.e))), .lf (.v (.int .i64 (v.f))), .lf (.v (.int .i64 (v.g))), .lf (.v (.int .i64 (v.h)))]), (119, .row (.ints .u8 D))]) (by refine ⟨?_, ?_⟩ <;> (repeat' (first | exact trivial | exact rfl | refine ⟨?_, ?_⟩)) <;> first | exact rfl | (simp; done) | skip)) ?_
   refine W_loop (ι := {p : VI // p.i ≤ 64 ∧ runV p.v (KS.drop p.i) (A.drop p.i) = runV v KS A ∧ p.v.ok}) (fun p => St.of [(2, .c (.ptr 66 0)), (4, .c (.ptr 68 0)), (6, .c (.ptr 70 0)), (8, .c (.own 119 1 0 D.length)), (13, lv (.int .i64 ((64 * k : Nat) : Int))), (14, .c (.ptr 78 0)), (22, .c (.ptr 86 0)), (23, lv (.int .i64 (p.1.i : Int)))] [(66, .row (.ints .u8 (List.replicate 32 0))), (68, .row (.ints .i64 v.l)), (70, .row (.ints .i64 KS)), (78, .row (.ints .i64 A)), (86, .cells [.lf (.v (.int .i64 (p.1.v.a))), .lf (.v (.int .i64 (p.1.v.b))), .lf (.v (.int .i64 (p.1.v.c))), .lf (.v (.int .i64 (p.1.v.d))), .lf (.v (.int .i64 (p.1.v.e))), .lf (.v (.int .i64 (p.1.v.f))), .lf (.v (.int .i64 (p.1.v.g))), .lf (.v (.int .i64 (p.1.v.h)))]), (119, .row (.ints .u8 D))]) (fun p => 64 - p.1.i) (fun p => ?_) ⟨⟨v, 0⟩, by simp, rfl, hv⟩
   obtain ⟨⟨u, i⟩, q1, q2, q3⟩ := p
   have hi : i ≤ 64 := q1
   have hru : runV u (KS.drop i) (A.drop i) = runV v KS A := q2
   have huo : u.ok := q3
   dsimp only
   clear q1 q2 q3
   repeat (refine nst ?_)
   refine W_cond rfl (by simp) (fun hc => ?_) (fun hc => ?_)
   · have hi64 : i < 64 := by simp at hc; omega
     have hkd := drop_cons (l := KS) (i := i) (by rw [KS_len]; omega)
     have had := drop_cons (l := A) (i := i) (by omega)
     rw [hkd, had, runV_step] at hru
     have hk2 : KS.getD (0 + (i : Int).toNat) 0 = KS.getD i 0 := by rw [Nat.zero_add, Int.toNat_natCast]
     have ha2 : A.getD (0 + (i : Int).toNat) 0 = A.getD i 0 := by rw [Nat.zero_add, Int.toNat_natCast]
     have hkl := w32_get KS_low i
     have hal := w32_get hAw i
     obtain ⟨h1, h2, h3, h4, h5, h6, h7, h8⟩ := huo
     have c1 := right32_ok u.e 6 h5 (by omega)
     have c2 := right32_ok u.e 11 h5 (by omega)
     have c3 := right32_ok u.e 25 h5 (by omega)
     have c4 := right32_ok u.a 2 h1 (by omega)
     have c5 := right32_ok u.a 13 h1 (by omega)
     have c6 := right32_ok u.a 22 h1 (by omega)
     have hK := KS_len
     repeat (refine nst ?_)
     refine W_drawW 12 (by kernel_rfl) (by kernel_rfl) (by kernel_rfl) (by rw [hn]; rfl) rfl rfl ?_
     repeat (first | refine dp1 ?_ | refine dg1 ?_ | refine DrawW_nil ?_)
     refine DrawW_cons rfl (ops_of (opys_call (c1) rfl rfl rfl (by exact vcs) rfl rfl rfl) rfl) ?_
     repeat (first | refine dp1 ?_ | refine dg1 ?_ | refine DrawW_nil ?_)
     refine DrawW_cons rfl (ops_of (opys_call (c2) rfl rfl rfl (by exact vcs) rfl rfl rfl) rfl) ?_
     repeat (first | refine dp1 ?_ | refine dg1 ?_ | refine DrawW_nil ?_)
     refine DrawW_cons rfl (ops_of (opys_call (c3) rfl rfl rfl (by exact vcs) rfl rfl rfl) rfl) ?_
     repeat (first | refine dp1 ?_ | refine dg1 ?_ | refine DrawW_nil ?_)
     repeat (refine nst ?_)
     have g24 := great_low h5 (a := 6) (b := 11) (c := 25) (by omega) (by omega) (by omega)
     have e24 := great64 u.e h5 6 11 25 (by omega) (by omega) (by omega)
     have g26 := great_low h1 (a := 2) (b := 13) (c := 22) (by omega) (by omega) (by omega)
     have e26 := great64 u.a h1 2 13 22 (by omega) (by omega) (by omega)
     have eT := stepT64 u ⟨h1, h2, h3, h4, h5, h6, h7, h8⟩ (KS.getD i 0) (A.getD i 0) hkl hal
     have eU := stepU64 u ⟨h1, h2, h3, h4, h5, h6, h7, h8⟩
     have hst : stepV u (KS.getD i 0) (A.getD i 0) = ⟨(stepT u (KS.getD i 0) (A.getD i 0) + stepU u) % 4294967296, u.a, u.b, u.c, (u.d + stepT u (KS.getD i 0) (A.getD i 0)) % 4294967296, u.e, u.f, u.g⟩ := rfl
     have huo2 : (stepV u (KS.getD i 0) (A.getD i 0)).ok := stepV_ok ⟨h1, h2, h3, h4, h5, h6, h7, h8⟩ _ _
     have hTl : W32 (stepT u (KS.getD i 0) (A.getD i 0)) := mod_low _
     have hUl : W32 (stepU u) := mod_low _
     obtain ⟨G1, hG1⟩ : ∃ G, greatS u.e 6 11 25 = G := ⟨_, rfl⟩
     obtain ⟨G2, hG2⟩ : ∃ G, greatS u.a 2 13 22 = G := ⟨_, rfl⟩
     obtain ⟨T, hT⟩ : ∃ T, stepT u (KS.getD i 0) (A.getD i 0) = T := ⟨_, rfl⟩
     obtain ⟨U, hU⟩ : ∃ U, stepU u = U := ⟨_, rfl⟩
     rw [hG1] at g24 e24 eT
     rw [hG2] at g26 e26 eU
     rw [hT] at eT hst hTl
     rw [hU] at eU hst hUl
     rw [hst] at hru huo2
     rw [← hk2, ← ha2] at eT
     clear hG1 hG2 hT hU hst
     refine W_sr (τ := St.of [(2, .c (.ptr 66 0)), (4, .c (.ptr 68 0)), (6, .c (.ptr 70 0)), (8, .c (.own 119 1 0 D.length)), (13, lv (.int .i64 ((64 * k : Nat) : Int))), (14, .c (.ptr 78 0)), (22, .c (.ptr 86 0)), (23, lv (.int .i64 (i : Int))), (24, lv (.int .i64 G1))] [(66, .row (.ints .u8 (List.replicate 32 0))), (68, .row (.ints .i64 v.l)), (70, .row (.ints .i64 KS)), (78, .row (.ints .i64 A)), (86, .cells [.lf (.v (.int .i64 (u.a))), .lf (.v (.int .i64 (u.b))), .lf (.v (.int .i64 (u.c))), .lf (.v (.int .i64 (u.d))), .lf (.v (.int .i64 (u.e))), .lf (.v (.int .i64 (u.f))), .lf (.v (.int .i64 (u.g))), .lf (.v (.int .i64 (u.h)))]), (119, .row (.ints .u8 D))]) (fun a w h => h.weaken (St.le_of ⟨⟨rfl, rfl, rfl, rfl, rfl, rfl, rfl, rfl, congrArg (fun y => lv (.int .i64 y)) e24⟩, ⟨rfl, rfl, rfl, rfl, rfl, rfl⟩⟩)) ?_
     unfold W32 at g24 g26 hTl hUl h4 h5 h8
     refine W_drawW 27 (by kernel_rfl) (by kernel_rfl) (by kernel_rfl) (by rw [hn]; rfl) rfl rfl ?_
     repeat (first | refine dp1 ?_ | refine dg1 ?_ | refine DrawW_nil ?_)
     refine DrawW_cons rfl (ops_pure false rfl rfl (by exact vcs)) ?_
     repeat (first | refine dp1 ?_ | refine dg1 ?_ | refine DrawW_nil ?_)
     refine DrawW_cons rfl (ops_pure false rfl rfl (by exact vcs)) ?_
     repeat (first | refine dp1 ?_ | refine dg1 ?_ | refine DrawW_nil ?_)
     refine DrawW_cons rfl (ops_pure false rfl rfl (by exact vcs)) ?_
     repeat (first | refine dp1 ?_ | refine dg1 ?_ | refine DrawW_nil ?_)
     refine DrawW_cons rfl (ops_pure false rfl rfl (by exact vcs)) ?_
     repeat (first | refine dp1 ?_ | refine dg1 ?_ | refine DrawW_nil ?_)
     repeat (refine nst ?_)
     refine W_drawW 12 (by kernel_rfl) (by kernel_rfl) (by kernel_rfl) (by rw [hn]; rfl) rfl rfl ?_
     repeat (first | refine dp1 ?_ | refine dg1 ?_ | refine DrawW_nil ?_)
     refine DrawW_cons rfl (ops_of (opys_call (c4) rfl rfl rfl (by exact vcs) rfl rfl rfl) rfl) ?_
     repeat (first | refine dp1 ?_ | refine dg1 ?_ | refine DrawW_nil ?_)
     refine DrawW_cons rfl (ops_of (opys_call (c5) rfl rfl rfl (by exact vcs) rfl rfl rfl) rfl) ?_
     repeat (first | refine dp1 ?_ | refine dg1 ?_ | refine DrawW_nil ?_)
     refine DrawW_cons rfl (ops_of (opys_call (c6) rfl rfl rfl (by exact vcs) rfl rfl rfl) rfl) ?_
     repeat (first | refine dp1 ?_ | refine dg1 ?_ | refine DrawW_nil ?_)
     repeat (refine nst ?_)
     refine sp false rfl rfl (by rw [hn]; rfl) (by exact vcs) ?_
     repeat (refine nst ?_)
     refine sp false rfl rfl (by rw [hn]; rfl) (by exact vcs) ?_
     repeat (refine nst ?_)
     refine W_sr (τ := St.of [(2, .c (.ptr 66 0)), (4, .c (.ptr 68 0)), (6, .c (.ptr 70 0)), (8, .c (.own 119 1 0 D.length)), (13, lv (.int .i64 ((64 * k : Nat) : Int))), (14, .c (.ptr 78 0)), (22, .c (.ptr 86 0)), (23, lv (.int .i64 (i : Int))), (25, lv (.int .i64 T)), (27, lv (.int .i64 U)), (28, lv (.int .i64 7))] [(66, .row (.ints .u8 (List.replicate 32 0))), (68, .row (.ints .i64 v.l)), (70, .row (.ints .i64 KS)), (78, .row (.ints .i64 A)), (86, .cells [.lf (.v (.int .i64 (u.a))), .lf (.v (.int .i64 (u.b))), .lf (.v (.int .i64 (u.c))), .lf (.v (.int .i64 (u.d))), .lf (.v (.int .i64 (u.e))), .lf (.v (.int .i64 (u.f))), .lf (.v (.int .i64 (u.g))), .lf (.v (.int .i64 (u.h)))]), (119, .row (.ints .u8 D))]) (fun a w h => h.weaken (St.le_of ⟨⟨rfl, rfl, rfl, rfl, rfl, rfl, rfl, rfl, congrArg (fun y => lv (.int .i64 y)) eT, ?_, rfl⟩, ⟨rfl, rfl, rfl, rfl, rfl, rfl⟩⟩)) ?_
     · refine congrArg (fun y => lv (.int .i64 y)) (Eq.trans ?_ eU)
       rw [← e26]
     refine W_loop (ι := {j : Nat // j ≤ 7}) (fun j => match j.1 with | 7 => St.of [(2, .c (.ptr 66 0)), (4, .c (.ptr 68 0)), (6, .c (.ptr 70 0)), (8, .c (.own 119 1 0 D.length)), (13, lv (.int .i64 ((64 * k : Nat) : Int))), (14, .c (.ptr 78 0)), (22, .c (.ptr 86 0)), (23, lv (.int .i64 (i : Int))), (25, lv (.int .i64 T)), (27, lv (.int .i64 U)), (28, lv (.int .i64 7))] [(66, .row (.ints .u8 (List.replicate 32 0))), (68, .row (.ints .i64 v.l)), (70, .row (.ints .i64 KS)), (78, .row (.ints .i64 A)), (86, .cells [.lf (.v (.int .i64 (u.a))), .lf (.v (.int .i64 (u.b))), .lf (.v (.int .i64 (u.c))), .lf (.v (.int .i64 (u.d))), .lf (.v (.int .i64 (u.e))), .lf (.v (.int .i64 (u.f))), .lf (.v (.int .i64 (u.g))), .lf (.v (.int .i64 (u.h)))]), (119, .row (.ints .u8 D))] | 6 => St.of [(2, .c (.ptr 66 0)), (4, .c (.ptr 68 0)), (6, .c (.ptr 70 0)), (8, .c (.own 119 1 0 D.length)), (13, lv (.int .i64 ((64 * k : Nat) : Int))), (14, .c (.ptr 78 0)), (22, .c (.ptr 86 0)), (23, lv (.int .i64 (i : Int))), (25, lv (.int .i64 T)), (27, lv (.int .i64 U)), (28, lv (.int .i64 6))] [(66, .row (.ints .u8 (List.replicate 32 0))), (68, .row (.ints .i64 v.l)), (70, .row (.ints .i64 KS)), (78, .row (.ints .i64 A)), (86, .cells [.lf (.v (.int .i64 (u.a))), .lf (.v (.int .i64 (u.b))), .lf (.v (.int .i64 (u.c))), .lf (.v (.int .i64 (u.d))), .lf (.v (.int .i64 (u.e))), .lf (.v (.int .i64 (u.f))), .lf (.v (.int .i64 (u.g))), .lf (.v (.int .i64 (u.g)))]), (119, .row (.ints .u8 D))] | 5 => St.of [(2, .c (.ptr 66 0)), (4, .c (.ptr 68 0)), (6, .c (.ptr 70 0)), (8, .c (.own 119 1 0 D.length)), (13, lv (.int .i64 ((64 * k : Nat) : Int))), (14, .c (.ptr 78 0)), (22, .c (.ptr 86 0)), (23, lv (.int .i64 (i : Int))), (25, lv (.int .i64 T)), (27, lv (.int .i64 U)), (28, lv (.int .i64 5))] [(66, .row (.ints .u8 (List.replicate 32 0))), (68, .row (.ints .i64 v.l)), (70, .row (.ints .i64 KS)), (78, .row (.ints .i64 A)), (86, .cells [.lf (.v (.int .i64 (u.a))), .lf (.v (.int .i64 (u.b))), .lf (.v (.int .i64 (u.c))), .lf (.v (.int .i64 (u.d))), .lf (.v (.int .i64 (u.e))), .lf (.v (.int .i64 (u.f))), .lf (.v (.int .i64 (u.f))), .lf (.v (.int .i64 (u.g)))]), (119, .row (.ints .u8 D))] | 4 => St.of [(2, .c (.ptr 66 0)), (4, .c (.ptr 68 0)), (6, .c (.ptr 70 0)), (8, .c (.own 119 1 0 D.length)), (13, lv (.int .i64 ((64 * k : Nat) : Int))), (14, .c (.ptr 78 0)), (22, .c (.ptr 86 0)), (23, lv (.int .i64 (i : Int))), (25, lv (.int .i64 T)), (27, lv (.int .i64 U)), (28, lv (.int .i64 4))] [(66, .row (.ints .u8 (List.replicate 32 0))), (68, .row (.ints .i64 v.l)), (70, .row (.ints .i64 KS)), (78, .row (.ints .i64 A)), (86, .cells [.lf (.v (.int .i64 (u.a))), .lf (.v (.int .i64 (u.b))), .lf (.v (.int .i64 (u.c))), .lf (.v (.int .i64 (u.d))), .lf (.v (.int .i64 (u.e))), .lf (.v (.int .i64 (u.e))), .lf (.v (.int .i64 (u.f))), .lf (.v (.int .i64 (u.g)))]), (119, .row (.ints .u8 D))] | 3 => St.of [(2, .c (.ptr 66 0)), (4, .c (.ptr 68 0)), (6, .c (.ptr 70 0)), (8, .c (.own 119 1 0 D.length)), (13, lv (.int .i64 ((64 * k : Nat) : Int))), (14, .c (.ptr 78 0)), (22, .c (.ptr 86 0)), (23, lv (.int .i64 (i : Int))), (25, lv (.int .i64 T)), (27, lv (.int .i64 U)), (28, lv (.int .i64 3))] [(66, .row (.ints .u8 (List.replicate 32 0))), (68, .row (.ints .i64 v.l)), (70, .row (.ints .i64 KS)), (78, .row (.ints .i64 A)), (86, .cells [.lf (.v (.int .i64 (u.a))), .lf (.v (.int .i64 (u.b))), .lf (.v (.int .i64 (u.c))), .lf (.v (.int .i64 (u.d))), .lf (.v (.int .i64 (u.d))), .lf (.v (.int .i64 (u.e))), .lf (.v (.int .i64 (u.f))), .lf (.v (.int .i64 (u.g)))]), (119, .row (.ints .u8 D))] | 2 => St.of [(2, .c (.ptr 66 0)), (4, .c (.ptr 68 0)), (6, .c (.ptr 70 0)), (8, .c (.own 119 1 0 D.length)), (13, lv (.int .i64 ((64 * k : Nat) : Int))), (14, .c (.ptr 78 0)), (22, .c (.ptr 86 0)), (23, lv (.int .i64 (i : Int))), (25, lv (.int .i64 T)), (27, lv (.int .i64 U)), (28, lv (.int .i64 2))] [(66, .row (.ints .u8 (List.replicate 32 0))), (68, .row (.ints .i64 v.l)), (70, .row (.ints .i64 KS)), (78, .row (.ints .i64 A)), (86, .cells [.lf (.v (.int .i64 (u.a))), .lf (.v (.int .i64 (u.b))), .lf (.v (.int .i64 (u.c))), .lf (.v (.int .i64 (u.c))), .lf (.v (.int .i64 (u.d))), .lf (.v (.int .i64 (u.e))), .lf (.v (.int .i64 (u.f))), .lf (.v (.int .i64 (u.g)))]), (119, .row (.ints .u8 D))] | 1 => St.of [(2, .c (.ptr 66 0)), (4, .c (.ptr 68 0)), (6, .c (.ptr 70 0)), (8, .c (.own 119 1 0 D.length)), (13, lv (.int .i64 ((64 * k : Nat) : Int))), (14, .c (.ptr 78 0)), (22, .c (.ptr 86 0)), (23, lv (.int .i64 (i : Int))), (25, lv (.int .i64 T)), (27, lv (.int .i64 U)), (28, lv (.int .i64 1))] [(66, .row (.ints .u8 (List.replicate 32 0))), (68, .row (.ints .i64 v.l)), (70, .row (.ints .i64 KS)), (78, .row (.ints .i64 A)), (86, .cells [.lf (.v (.int .i64 (u.a))), .lf (.v (.int .i64 (u.b))), .lf (.v (.int .i64 (u.b))), .lf (.v (.int .i64 (u.c))), .lf (.v (.int .i64 (u.d))), .lf (.v (.int .i64 (u.e))), .lf (.v (.int .i64 (u.f))), .lf (.v (.int .i64 (u.g)))]), (119, .row (.ints .u8 D))] | _ => St.of [(2, .c (.ptr 66 0)), (4, .c (.ptr 68 0)), (6, .c (.ptr 70 0)), (8, .c (.own 119 1 0 D.length)), (13, lv (.int .i64 ((64 * k : Nat) : Int))), (14, .c (.ptr 78 0)), (22, .c (.ptr 86 0)), (23, lv (.int .i64 (i : Int))), (25, lv (.int .i64 T)), (27, lv (.int .i64 U)), (28, lv (.int .i64 0))] [(66, .row (.ints .u8 (List.replicate 32 0))), (68, .row (.ints .i64 v.l)), (70, .row (.ints .i64 KS)), (78, .row (.ints .i64 A)), (86, .cells [.lf (.v (.int .i64 (u.a))), .lf (.v (.int .i64 (u.a))), .lf (.v (.int .i64 (u.b))), .lf (.v (.int .i64 (u.c))), .lf (.v (.int .i64 (u.d))), .lf (.v (.int .i64 (u.e))), .lf (.v (.int .i64 (u.f))), .lf (.v (.int .i64 (u.g)))]), (119, .row (.ints .u8 D))]) (fun j => j.1) (fun j => ?_) ⟨7, by omega⟩
     obtain ⟨j, hj⟩ := j
     have hj8 : j = 7 ∨ j = 6 ∨ j = 5 ∨ j = 4 ∨ j = 3 ∨ j = 2 ∨ j = 1 ∨ j = 0 := by omega
     rcases hj8 with rfl | rfl | rfl | rfl | rfl | rfl | rfl | rfl
     · dsimp only
       repeat (refine nst ?_)
       refine W_cond rfl (by simp) (fun hd => ?_) (fun hd => ?_)
       · repeat (refine nst ?_)
         refine s_storeN rfl rfl rfl rfl rfl (by exact vcs) rfl rfl rfl (by rw [cellsOf3]; rfl) (by rw [info3]; rfl) rfl rfl ?_
         repeat (refine nst ?_)
         refine N_round ⟨6, by omega⟩ (by dsimp only; omega) (by dsimp only; exact St.le_of ⟨⟨rfl, rfl, rfl, rfl, rfl, rfl, rfl, rfl, rfl, rfl, rfl⟩, ⟨rfl, rfl, rfl, rfl, rfl, rfl⟩⟩)
       · simp at hd
     · dsimp only
       repeat (refine nst ?_)
       refine W_cond rfl (by simp) (fun hd => ?_) (fun hd => ?_)
       · repeat (refine nst ?_)
         refine s_storeN rfl rfl rfl rfl rfl (by exact vcs) rfl rfl rfl (by rw [cellsOf3]; rfl) (by rw [info3]; rfl) rfl rfl ?_
         repeat (refine nst ?_)
         refine N_round ⟨5, by omega⟩ (by dsimp only; omega) (by dsimp only; exact St.le_of ⟨⟨rfl, rfl, rfl, rfl, rfl, rfl, rfl, rfl, rfl, rfl, rfl⟩, ⟨rfl, rfl, rfl, rfl, rfl, rfl⟩⟩)
       · simp at hd
     · dsimp only
       repeat (refine nst ?_)
       refine W_cond rfl (by simp) (fun hd => ?_) (fun hd => ?_)
       · repeat (refine nst ?_)
         refine s_storeN rfl rfl rfl rfl rfl (by exact vcs) rfl rfl rfl (by rw [cellsOf3]; rfl) (by rw [info3]; rfl) rfl rfl ?_
         repeat (refine nst ?_)
         refine N_round ⟨4, by omega⟩ (by dsimp only; omega) (by dsimp only; exact St.le_of ⟨⟨rfl, rfl, rfl, rfl, rfl, rfl, rfl, rfl, rfl, rfl, rfl⟩, ⟨rfl, rfl, rfl, rfl, rfl, rfl⟩⟩)
       · simp at hd
     · dsimp only
       repeat (refine nst ?_)
       refine W_cond rfl (by simp) (fun hd => ?_) (fun hd => ?_)
       · repeat (refine nst ?_)
         refine s_storeN rfl rfl rfl rfl rfl (by exact vcs) rfl rfl rfl (by rw [cellsOf3]; rfl) (by rw [info3]; rfl) rfl rfl ?_
         repeat (refine nst ?_)
         refine N_round ⟨3, by omega⟩ (by dsimp only; omega) (by dsimp only; exact St.le_of ⟨⟨rfl, rfl, rfl, rfl, rfl, rfl, rfl, rfl, rfl, rfl, rfl⟩, ⟨rfl, rfl, rfl, rfl, rfl, rfl⟩⟩)
       · simp at hd
     · dsimp only
       repeat (refine nst ?_)
       refine W_cond rfl (by simp) (fun hd => ?_) (fun hd => ?_)
       · repeat (refine nst ?_)
         refine s_storeN rfl rfl rfl rfl rfl (by exact vcs) rfl rfl rfl (by rw [cellsOf3]; rfl) (by rw [info3]; rfl) rfl rfl ?_
         repeat (refine nst ?_)
         refine N_round ⟨2, by omega⟩ (by dsimp only; omega) (by dsimp only; exact St.le_of ⟨⟨rfl, rfl, rfl, rfl, rfl, rfl, rfl, rfl, rfl, rfl, rfl⟩, ⟨rfl, rfl, rfl, rfl, rfl, rfl⟩⟩)
       · simp at hd
     · dsimp only
       repeat (refine nst ?_)
       refine W_cond rfl (by simp) (fun hd => ?_) (fun hd => ?_)
       · repeat (refine nst ?_)
         refine s_storeN rfl rfl rfl rfl rfl (by exact vcs) rfl rfl rfl (by rw [cellsOf3]; rfl) (by rw [info3]; rfl) rfl rfl ?_
         repeat (refine nst ?_)
         refine N_round ⟨1, by omega⟩ (by dsimp only; omega) (by dsimp only; exact St.le_of ⟨⟨rfl, rfl, rfl, rfl, rfl, rfl, rfl, rfl, rfl, rfl, rfl⟩, ⟨rfl, rfl, rfl, rfl, rfl, rfl⟩⟩)
       · simp at hd
     · dsimp only
       repeat (refine nst ?_)
       refine W_cond rfl (by simp) (fun hd => ?_) (fun hd => ?_)
       · repeat (refine nst ?_)
         refine s_storeN rfl rfl rfl rfl rfl (by exact vcs) rfl rfl rfl (by rw [cellsOf3]; rfl) (by rw [info3]; rfl) rfl rfl ?_
         repeat (refine nst ?_)
         refine N_round ⟨0, by omega⟩ (by dsimp only; omega) (by dsimp only; exact St.le_of ⟨⟨rfl, rfl, rfl, rfl, rfl, rfl, rfl, rfl, rfl, rfl, rfl⟩, ⟨rfl, rfl, rfl, rfl, rfl, rfl⟩⟩)
       · simp at hd
     · dsimp only
       repeat (refine nst ?_)
       refine W_cond rfl (by simp) (fun hd => ?_) (fun hd => ?_)
       · simp at hd
       · repeat (refine nst ?_)
         refine s_storeN rfl rfl rfl rfl rfl (by exact vcs) rfl rfl rfl (by rw [cellsOf3]; rfl) (by rw [info3]; rfl) rfl rfl ?_
         repeat (refine nst ?_)
         refine s_storeN rfl rfl rfl rfl rfl (by exact vcs) rfl rfl rfl (by rw [cellsOf3]; rfl) (by rw [info3]; rfl) rfl rfl ?_
         repeat (refine nst ?_)
         refine N_round ⟨⟨⟨(T + U) % 4294967296, u.a, u.b, u.c, (u.d + T) % 4294967296, u.e, u.f, u.g⟩, i + 1⟩, by dsimp only; omega, hru, huo2⟩ (by dsimp only; omega) (St.le_of ⟨⟨rfl, rfl, rfl, rfl, rfl, rfl, rfl, rfl⟩, ⟨rfl, rfl, rfl, rfl, rfl, rfl⟩⟩)
   · have h64i : i = 64 := by simp at hc; omega
     subst h64i
     rw [List.drop_of_length_le (by rw [KS_len]; omega)] at hru
     have hru2 : u = runV v KS A := by
       have : runV u [] (A.drop 64) = u := by cases A.drop 64 <;> rfl
       rw [← hru, this]
     rw [← hru2] at hfs
     clear hru hru2 hc hi
     obtain ⟨v1, v2, v3, v4, v5, v6, v7, v8⟩ := hv
     obtain ⟨u1, u2, u3, u4, u5, u6, u7, u8⟩ := huo
     unfold W32 at v1 v2 v3 v4 v5 v6 v7 v8 u1 u2 u3 u4 u5 u6 u7 u8
     repeat (refine nst ?_)
     refine W_weaken (St.le_of (l := [(2, .c (.ptr 66 0)), (4, .c (.ptr 68 0)), (6, .c (.ptr 70 0)), (8, .c (.own 119 1 0 D.length)), (13, lv (.int .i64 ((64 * k : Nat) : Int))), (22, .c (.ptr 86 0)), (29, lv (.int .i64 0))]) (h := [(66, .row (.ints .u8 (List.replicate 32 0))), (68, .row (.ints .i64 v.l)), (70, .row (.ints .i64 KS)), (86, .cells [.lf (.v (.int .i64 (u.a))), .lf (.v (.int .i64 (u.b))), .lf (.v (.int .i64 (u.c))), .lf (.v (.int .i64 (u.d))), .lf (.v (.int .i64 (u.e))), .lf (.v (.int .i64 (u.f))), .lf (.v (.int .i64 (u.g))), .lf (.v (.int .i64 (u.h)))]), (119, .row (.ints .u8 D))]) (by refine ⟨?_, ?_⟩ <;> (repeat' (first | exact trivial | exact rfl | refine ⟨?_, ?_⟩)) <;> first | exact rfl | (simp; done) | skip)) ?_
     refine W_loop (ι := {i : Nat // i ≤ 8}) (fun i => St.of [(2, .c (.ptr 66 0)), (4, .c (.ptr 68 0)), (6, .c (.ptr 70 0)), (8, .c (.own 119 1 0 D.length)), (13, lv (.int .i64 ((64 * k : Nat) : Int))), (22, .c (.ptr 86 0)), (29, lv (.int .i64 (i.1 : Int)))] [(66, .row (.ints .u8 (List.replicate 32 0))), (68, .row (.ints .i64 (addI v u i.1).l)), (70, .row (.ints .i64 KS)), (86, .cells [.lf (.v (.int .i64 (u.a))), .lf (.v (.int .i64 (u.b))), .lf (.v (.int .i64 (u.c))), .lf (.v (.int .i64 (u.d))), .lf (.v (.int .i64 (u.e))), .lf (.v (.int .i64 (u.f))), .lf (.v (.int .i64 (u.g))), .lf (.v (.int .i64 (u.h)))]), (119, .row (.ints .u8 D))]) (fun i => 8 - i.1) (fun i => ?_) ⟨0, by omega⟩
     obtain ⟨i, hi⟩ := i
     dsimp only
     repeat (refine nst ?_)
     refine W_cond rfl (by simp) (fun hc => ?_) (fun hc => ?_)
     · have hi9 : i = 0 ∨ i = 1 ∨ i = 2 ∨ i = 3 ∨ i = 4 ∨ i = 5 ∨ i = 6 ∨ i = 7 := by simp at hc; omega
       clear hi hc
       rcases hi9 with rfl | rfl | rfl | rfl | rfl | rfl | rfl | rfl
       · rw [show (addI v u 0).l = [v.a, v.b, v.c, v.d, v.e, v.f, v.g, v.h] from rfl]
         repeat (refine nst ?_)
         refine W_drawX [] (by kernel_rfl) (by kernel_rfl) (by rw [hn]; rfl) ?_
         repeat (refine nsx ?_)
         refine DrawX_storeI rfl rfl rfl rfl (by exact vcs) rfl (by rw [cellsOf3]) (by first | (simp; done) | (simp; omega) | (simp at *; omega)) ?_
         repeat (refine nsx ?_)
         repeat (refine nst ?_)
         refine N_round ⟨1, by omega⟩ (by dsimp only; omega) (St.le_of ⟨⟨rfl, rfl, rfl, rfl, rfl, rfl, rfl⟩, ⟨rfl, rfl, rfl, rfl, rfl⟩⟩)
       · rw [show (addI v u 1).l = [(v.a + u.a) % 4294967296, v.b, v.c, v.d, v.e, v.f, v.g, v.h] from rfl]
         repeat (refine nst ?_)
         refine W_drawX [] (by kernel_rfl) (by kernel_rfl) (by rw [hn]; rfl) ?_
         repeat (refine nsx ?_)
         refine DrawX_storeI rfl rfl rfl rfl (by exact vcs) rfl (by rw [cellsOf3]) (by first | (simp; done) | (simp; omega) | (simp at *; omega)) ?_
         repeat (refine nsx ?_)
         repeat (refine nst ?_)
         refine N_round ⟨2, by omega⟩ (by dsimp only; omega) (St.le_of ⟨⟨rfl, rfl, rfl, rfl, rfl, rfl, rfl⟩, ⟨rfl, rfl, rfl, rfl, rfl⟩⟩)
       · rw [show (addI v u 2).l = [(v.a + u.a) % 4294967296, (v.b + u.b) % 4294967296, v.c, v.d, v.e, v.f, v.g, v.h] from rfl]
         repeat (refine nst ?_)
         refine W_drawX [] (by kernel_rfl) (by kernel_rfl) (by rw [hn]; rfl) ?_
         repeat (refine nsx ?_)
         refine DrawX_storeI rfl rfl rfl rfl (by exact vcs) rfl (by rw [cellsOf3]) (by first | (simp; done) | (simp; omega) | (simp at *; omega)) ?_
         repeat (refine nsx ?_)
         repeat (refine nst ?_)
         refine N_round ⟨3, by omega⟩ (by dsimp only; omega) (St.le_of ⟨⟨rfl, rfl, rfl, rfl, rfl, rfl, rfl⟩, ⟨rfl, rfl, rfl, rfl, rfl⟩⟩)
       · rw [show (addI v u 3).l = [(v.a + u.a) % 4294967296, (v.b + u.b) % 4294967296, (v.c + u.c) % 4294967296, v.d, v.e, v.f, v.g, v.h] from rfl]
         repeat (refine nst ?_)
         refine W_drawX [] (by kernel_rfl) (by kernel_rfl) (by rw [hn]; rfl) ?_
         repeat (refine nsx ?_)
         refine DrawX_storeI rfl rfl rfl rfl (by exact vcs) rfl (by rw [cellsOf3]) (by first | (simp; done) | (simp; omega) | (simp at *; omega)) ?_
         repeat (refine nsx ?_)
         repeat (refine nst ?_)
         refine N_round ⟨4, by omega⟩ (by dsimp only; omega) (St.le_of ⟨⟨rfl, rfl, rfl, rfl, rfl, rfl, rfl⟩, ⟨rfl, rfl, rfl, rfl, rfl⟩⟩)
       · rw [show (addI v u 4).l = [(v.a + u.a) % 4294967296, (v.b + u.b) % 4294967296, (v.c + u.c) % 4294967296, (v.d + u.d) % 4294967296, v.e, v.f, v.g, v.h] from rfl]
         repeat (refine nst ?_)
         refine W_drawX [] (by kernel_rfl) (by kernel_rfl) (by rw [hn]; rfl) ?_
         repeat (refine nsx ?_)
         refine DrawX_storeI rfl rfl rfl rfl (by exact vcs) rfl (by rw [cellsOf3]) (by first | (simp; done) | (simp; omega) | (simp at *; omega)) ?_
         repeat (refine nsx ?_)
         repeat (refine nst ?_)
         refine N_round ⟨5, by omega⟩ (by dsimp only; omega) (St.le_of ⟨⟨rfl, rfl, rfl, rfl, rfl, rfl, rfl⟩, ⟨rfl, rfl, rfl, rfl, rfl⟩⟩)
       · rw [show (addI v u 5).l = [(v.a + u.a) % 4294967296, (v.b + u.b) % 4294967296, (v.c + u.c) % 4294967296, (v.d + u.d) % 4294967296, (v.e + u.e) % 4294967296, v.f, v.g, v.h] from rfl]
         repeat (refine nst ?_)
         refine W_drawX [] (by kernel_rfl) (by kernel_rfl) (by rw [hn]; rfl) ?_
         repeat (refine nsx ?_)
         refine DrawX_storeI rfl rfl rfl rfl (by exact vcs) rfl (by rw [cellsOf3]) (by first | (simp; done) | (simp; omega) | (simp at *; omega)) ?_
         repeat (refine nsx ?_)
         repeat (refine nst ?_)
         refine N_round ⟨6, by omega⟩ (by dsimp only; omega) (St.le_of ⟨⟨rfl, rfl, rfl, rfl, rfl, rfl, rfl⟩, ⟨rfl, rfl, rfl, rfl, rfl⟩⟩)
       · rw [show (addI v u 6).l = [(v.a + u.a) % 4294967296, (v.b + u.b) % 4294967296, (v.c + u.c) % 4294967296, (v.d + u.d) % 4294967296, (v.e + u.e) % 4294967296, (v.f + u.f) % 4294967296, v.g, v.h] from rfl]
         repeat (refine nst ?_)
         refine W_drawX [] (by kernel_rfl) (by kernel_rfl) (by rw [hn]; rfl) ?_
         repeat (refine nsx ?_)
         refine DrawX_storeI rfl rfl rfl rfl (by exact vcs) rfl (by rw [cellsOf3]) (by first | (simp; done) | (simp; omega) | (simp at *; omega)) ?_
         repeat (refine nsx ?_)
         repeat (refine nst ?_)
         refine N_round ⟨7, by omega⟩ (by dsimp only; omega) (St.le_of ⟨⟨rfl, rfl, rfl, rfl, rfl, rfl, rfl⟩, ⟨rfl, rfl, rfl, rfl, rfl⟩⟩)
       · rw [show (addI v u 7).l = [(v.a + u.a) % 4294967296, (v.b + u.b) % 4294967296, (v.c + u.c) % 4294967296, (v.d + u.d) % 4294967296, (v.e + u.e) % 4294967296, (v.f + u.f) % 4294967296, (v.g + u.g) % 4294967296, v.h] from rfl]
         repeat (refine nst ?_)
         refine W_drawX [] (by kernel_rfl) (by kernel_rfl) (by rw [hn]; rfl) ?_
         repeat (refine nsx ?_)
         refine DrawX_storeI rfl rfl rfl rfl (by exact vcs) rfl (by rw [cellsOf3]) (by first | (simp; done) | (simp; omega) | (simp at *; omega)) ?_
         repeat (refine nsx ?_)
         repeat (refine nst ?_)
         refine N_round ⟨8, by omega⟩ (by dsimp only; omega) (St.le_of ⟨⟨rfl, rfl, rfl, rfl, rfl, rfl, rfl⟩, ⟨rfl, rfl, rfl, rfl, rfl⟩⟩)
     · have h8 : i = 8 := by simp at hc; omega
       subst h8
       repeat (refine nst ?_)
       have ek : ((64 * k : Nat) : Int) + 64 = ((64 * (k + 1) : Nat) : Int) := by omega
       refine N_round ⟨⟨addV v u, k + 1⟩, by dsimp only; omega, hfs, addV_ok v u⟩ (by dsimp only; omega) (St.le_of ⟨⟨rfl, rfl, rfl, rfl, congrArg (fun y => lv (.int .i64 y)) ek⟩, ⟨rfl, rfl, rfl, rfl⟩⟩)
 · have h0 : D.length - 64 * k = 0 := by simp at hc3; omega
   rw [finS_done v _ (by omega)] at hfs
   subst hfs
   have hbl : v.bytes.length = 32 := rfl
   have hbn : v.bytes ≠ [] := by intro h; rw [h] at hbl; simp at hbl
   have hb4 := bytes4 v hv
   generalize v.bytes = O at *
   repeat (refine nst ?_)
   refine s_allocAN .u8 32 rfl rfl rfl (by rw [hn]; rfl) (by kernel_rfl) ?_
   repeat (refine nst ?_)
   have e0 : List.replicate 32 (0 : Int) = fillUp O (4 * 0) := by rw [Nat.mul_zero, fillUp_zero, hbl]
   refine W_weaken (St.le_of (l := [(2, .c (.ptr 66 0)), (4, .c (.ptr 68 0)), (30, .c (.ptr 94 0)), (31, lv (.int .i64 0))]) (h := [(66, .row (.ints .u8 (List.replicate 32 0))), (68, .row (.ints .i64 v.l)), (94, .row (.ints .u8 (List.replicate 32 0)))]) (by refine ⟨?_, ?_⟩ <;> (repeat' (first | exact trivial | exact rfl | refine ⟨?_, ?_⟩)) <;> first | exact rfl | (simp; done) | skip)) ?_
   rw [e0]
   have hZl : (fillUp O (4 * 0)).length = 32 := by rw [fillUp_length, hbl]
   have hvl : v.l.length = 8 := rfl
   generalize v.l = Lv at *
   refine W_loop (ι := {i : Nat // i ≤ 8}) (fun i => St.of [(2, .c (.ptr 66 0)), (4, .c (.ptr 68 0)), (30, .c (.ptr 94 0)), (31, lv (.int .i64 (i.1 : Int)))] [(66, .row (.ints .u8 (fillUp O (4 * 0)))), (68, .row (.ints .i64 Lv)), (94, .row (.ints .u8 (fillUp O (4 * i.1))))]) (fun i => 8 - i.1) (fun i => ?_) ⟨0, by omega⟩
   obtain ⟨i, hi⟩ := i
   dsimp only
   have hfl : (fillUp O (4 * i)).length = 32 := by rw [fillUp_length, hbl]
   repeat (refine nst ?_)
   refine W_cond rfl (by simp) (fun hc => ?_) (fun hc => ?_)
   · have hi8 : i < 8 := by simp at hc; omega
     obtain ⟨b0, b1, b2, b3, b4⟩ := hb4 i hi8
     have hgl : Lv.getD (0 + (i : Int).toNat) 0 = Lv.getD i 0 := by rw [Nat.zero_add, Int.toNat_natCast]
     rw [← hgl] at b0 b1 b2 b3 b4
     obtain ⟨x, hgx⟩ : ∃ x, Lv.getD (0 + (i : Int).toNat) 0 = x := ⟨_, rfl⟩
     rw [hgx] at b0 b1 b2 b3 b4
     unfold W32 at b0
     have p0 : 0 + (4 * (i : Int)).toNat = 4 * i := by omega
     have p1 : 0 + (4 * (i : Int) + 1).toNat = 4 * i + 1 := by omega
     have p2 : 0 + (4 * (i : Int) + 2).toNat = 4 * i + 2 := by omega
     have p3 : 0 + (4 * (i : Int) + 3).toNat = 4 * i + 3 := by omega
     have hst : ((((fillUp O (4 * i)).set (0 + (4 * (i : Int)).toNat) (x / 16777216)).set (0 + (4 * (i : Int) + 1).toNat) (x / 65536 % 256)).set (0 + (4 * (i : Int) + 2).toNat) (x / 256 % 256)).set (0 + (4 * (i : Int) + 3).toNat) (x % 256) = fillUp O (4 * (i + 1)) := by
       have ex : x / 16777216 = x / 16777216 % 256 := by omega
       rw [p0, p1, p2, p3, ex, fillUp_set O _ _ b1, fillUp_set O _ _ b2, fillUp_set O _ _ b3, fillUp_set O _ _ b4]
       rfl
     rw [← hgx] at hst b0
     clear b1 b2 b3 b4 hgx
     repeat (refine nst ?_)
     refine s_storeI rfl rfl rfl rfl rfl (by exact vcs) rfl (by rw [cellsOf5]) (by first | (simp; done) | (simp; omega) | (simp at *; omega)) ?_
     repeat (refine nst ?_)
     refine s_storeI rfl rfl rfl rfl rfl (by exact vcs) rfl (by rw [cellsOf5]) (by first | (simp; done) | (simp; omega) | (simp at *; omega)) ?_
     repeat (refine nst ?_)
     refine s_storeI rfl rfl rfl rfl rfl (by exact vcs) rfl (by rw [cellsOf5]) (by first | (simp; done) | (simp; omega) | (simp at *; omega)) ?_
     repeat (refine nst ?_)
     refine s_storeI rfl rfl rfl rfl rfl (by exact vcs) rfl (by rw [cellsOf5]) (by first | (simp; done) | (simp; omega) | (simp at *; omega)) ?_
     repeat (refine nst ?_)
     refine N_round ⟨i + 1, by omega⟩ (by dsimp only; omega) (St.le_of ⟨⟨rfl, rfl, rfl, rfl⟩, ⟨rfl, rfl, congrArg (fun l => Blk.row (.ints .u8 l)) hst⟩⟩)
   · have h8 : i = 8 := by simp at hc; omega
     subst h8
     have hfa : fillUp O (4 * 8) = O := by
       have := fillUp_all O
       rwa [hbl] at this
     rw [hfa]
     repeat (refine nst ?_)
     refine sp true rfl rfl (by rw [hn]; rfl) ?_ ?_
     · exact ⟨rfl, by rw [cellsOf43]; omega, hbn⟩
     refine s_storeA rfl rfl rfl rfl rfl (by exact vcs) rfl (by rw [cellsOf43]; first | rfl | assumption | omega | kernel_rfl | (simp; done) | (simp; omega) | (simp at *; omega)) (by first | rfl | assumption | omega | kernel_rfl | (simp; done) | (simp; omega) | (simp at *; omega)) (by first | assumption | (simp; done) | exact List.cons_ne_nil _ _) ?_
     repeat (refine nst ?_)
     exact N_retN [] rfl (⟨rfl, by rw [cellsOf43]; omega, hbn⟩) ⟨rfl, by first | trivial | exact ⟨rfl, rfl⟩, by first | trivial | exact rfl | exact ⟨rfl, rfl⟩, rfl⟩ hb rfl (by first | trivial | (simp; done) | (simp [ordL]; done))
end Go.Proofs.YtohfhephkjihfaaGreat

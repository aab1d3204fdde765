/-
  Chapter 02: all digits to a base that is a power of two. The conditions: numbers up to a hundred million.
-/
import Derived.Test.YtaagjnlkinojcaaGreatDoorC9
import Derived.Test.YtaagjnlkinojcaaGreatDoorSxN
import Derived.Test.YtaagjnlkinojcaaGreatDoorW10
namespace Go.Proofs.YtaagjnlkinojcaaGreatDoor
set_option linter.unusedSimpArgs false
set_option linter.unusedVariables false
open Go.Sx
set_option maxRecDepth 10000
theorem readP_eq (b : List Int) (p : Nat) : readP b p = if (tagP b p).2.2 = 0 then
   if (lenP b (tagP b p).2.1).2.2 = 0 then (((tagP b p).1, (lenP b (tagP b p).2.1).1), (lenP b (tagP b p).2.1).2.1, 0) else ((tag0, 0), p, (lenP b (tagP b p).2.1).2.2)
   else ((tag0, 0), p, (tagP b p).2.2) := by
 unfold readP rawF keepP
 by_cases h1 : (tagP b p).2.2 = 0
 · rw [if_pos h1, if_pos h1]
   by_cases h2 : (lenP b (tagP b p).2.1).2.2 = 0
   · rw [if_pos h2, if_pos h2, h2]
   · rw [if_neg h2, if_neg h2]
 · rw [if_neg h1, if_neg h1, if_neg h1]
theorem openP_eq (b : List Int) (p : Nat) (t : TagP) : openP b p t = if (readP b p).2.2 = 0 then
   if (readP b p).1.1 = t then
     if (b.length : Int) - ((readP b p).2.1 : Int) < (readP b p).1.2 then ([], p, 3)
     else ((b.drop (readP b p).2.1).take (readP b p).1.2.toNat, (readP b p).2.1 + (readP b p).1.2.toNat, 0)
   else ([], p, 4)
   else ([], p, (readP b p).2.2) := by
 unfold openP rawO keepP
 by_cases h1 : (readP b p).2.2 = 0
 · rw [if_pos h1, if_pos h1]
   repeat' split
   all_goals first | rfl | simp_all
 · rw [if_neg h1, if_neg h1, if_neg h1]
abbrev frR (r : (TagP × Int) × Nat × Int) : Av := .tup [tagA r.1.1, lv (.int .i64 r.1.2), lv (.int .i64 (r.2.1 : Int)), lv (.int .i64 r.2.2)]
theorem refread_ok (l : List Int) (p : Nat) (hp : p ≤ l.length) (hl : l.length ≤ 1000000) (hw : WfB l) : Ct Tryz.prog 41 [B8 l, lv (.int .i64 (p : Int))] [] (frR (readP l p)) [] [] := by
 have hTT := readP_eq l p
 have ht := reftagr_ok l p hp hl hw
 have hnl := reflen_ok l (tagP l p).2.1 (tagP_le l p hp).2 hl hw
 generalize readP l p = R at *
 generalize tagP l p = T at *
 generalize lenP l T.2.1 = N at *
 refine Ct_intro Tryz.func41 rfl rfl rfl rfl rfl (fun E hn hb => ?_)
 repeat (refine nst ?_)
 refine s_allocN rfl rfl rfl (by rw [hn]; rfl) rfl zok62 ?_
 repeat (refine nst ?_)
 refine s_call0 (ht) rfl rfl rfl (by rw [hn]; rfl) rfl rfl (by exact vcs) rfl rfl rfl ?_
 repeat (refine nst ?_)
 refine s_allocN rfl rfl rfl (by rw [hn]; rfl) rfl zok62 ?_
 repeat (refine nst ?_)
 refine s_storeN rfl rfl rfl rfl rfl (by exact vcs) rfl rfl rfl (by rw [cellsOf62]; rfl) (by rw [info62]; rfl) rfl rfl ?_
 repeat (refine nst ?_)
 refine W_cond rfl (by simp) (fun h1 => ?_) (fun h1 => ?_)
 · have h1' : ¬ T.2.2 = 0 := by simpa using h1
   rw [if_neg h1'] at hTT
   subst hTT
   repeat (refine nst ?_)
   refine s_storeN rfl rfl rfl rfl rfl (by exact vcs) rfl rfl rfl (by rw [cellsOf62]; rfl) (by rw [info62]; rfl) rfl rfl ?_
   repeat (refine nst ?_)
   exact rt1 []
 have h1' : T.2.2 = 0 := by simpa using h1
 rw [if_pos h1'] at hTT
 repeat (refine nst ?_)
 refine s_call0 (hnl) rfl rfl rfl (by rw [hn]; rfl) rfl rfl (by exact vcs) rfl rfl rfl ?_
 repeat (refine nst ?_)
 refine W_cond rfl (by simp) (fun h2 => ?_) (fun h2 => ?_)
 · have h2' : ¬ N.2.2 = 0 := by simpa using h2
   rw [if_neg h2'] at hTT
   subst hTT
   repeat (refine nst ?_)
   refine s_storeN rfl rfl rfl rfl rfl (by exact vcs) rfl rfl rfl (by rw [cellsOf62]; rfl) (by rw [info62]; rfl) rfl rfl ?_
   repeat (refine nst ?_)
   exact rt1 []
 have h2' : N.2.2 = 0 := by simpa using h2
 rw [if_pos h2'] at hTT
 subst hTT
 repeat (refine nst ?_)
 refine s_storeN rfl rfl rfl rfl rfl (by exact vcs) rfl rfl rfl (by rw [cellsOf62]; rfl) (by rw [info62]; rfl) rfl rfl ?_
 repeat (refine nst ?_)
 exact rt1 []
abbrev opR (r : List Int × Nat × Int) : Av := .tup [B8 r.1, lv (.int .i64 (r.2.1 : Int)), lv (.int .i64 r.2.2)]
theorem refopen_ok (l : List Int) (p : Nat) (t : TagP) (hp : p ≤ l.length) (hl : l.length ≤ 1000000) (hw : WfB l) : Ct Tryz.prog 38 [B8 l, lv (.int .i64 (p : Int)), tagA t] [] (opR (openP l p t)) [] [] := by
 have hTT := openP_eq l p t
 have hr := refread_ok l p hp hl hw
 have hle := readP_le l p hp
 have hpos := readP_pos l p hw
 generalize openP l p t = R at *
 generalize readP l p = F at *
 refine Ct_intro Tryz.func38 rfl rfl rfl rfl rfl (fun E hn hb => ?_)
 repeat (refine nst ?_)
 refine s_boxN rfl rfl rfl (by rw [hn]; rfl) rfl (by exact vcs) rfl rfl ?_
 repeat (refine nst ?_)
 refine s_call0 (hr) rfl rfl rfl (by rw [hn]; rfl) rfl rfl (by exact vcs) rfl rfl rfl ?_
 repeat (refine nst ?_)
 refine s_allocN rfl rfl rfl (by rw [hn]; rfl) rfl zok62 ?_
 repeat (refine nst ?_)
 refine s_storeN rfl rfl rfl rfl rfl (by exact vcs) rfl rfl rfl (by rw [cellsOf62]; rfl) (by rw [info62]; rfl) rfl rfl ?_
 repeat (refine nst ?_)
 refine W_cond rfl (by simp) (fun h1 => ?_) (fun h1 => ?_)
 · have h1' : ¬ F.2.2 = 0 := by simpa using h1
   rw [if_neg h1'] at hTT
   subst hTT
   repeat (refine nst ?_)
   refine N_retU [] rfl (by simp) (r' := .tup [B8 [], lv (.int .i64 (p : Int)), lv (.int .i64 F.2.2)]) ⟨.inr ⟨rfl, .inl ⟨_, rfl⟩⟩, .inl rfl, .inl rfl, trivial⟩ ⟨rfl, trivial, trivial, rfl⟩ hb rfl trivial
 have h1' : F.2.2 = 0 := by simpa using h1
 rw [if_pos h1'] at hTT
 repeat (refine nst ?_)
 refine WL_q (opq_of (opy_eqS (neg := true) (l := tagC F.1.1) (m := tagC t) rfl structT62 heldT62 (by first | rfl | (rw [cellsOf62]; rfl)) (by first | rfl | (rw [cellsOf62]; rfl)) (by trivial) guardT62 (eqokT62 _ _)) rfl) (by rw [hn]; rfl) ?_
 rw [eqT]
 repeat (refine nst ?_)
 refine W_cond rfl (by simp) (fun h2 => ?_) (fun h2 => ?_)
 · have h2' : ¬ F.1.1 = t := by simpa using h2
   rw [if_neg h2'] at hTT
   subst hTT
   repeat (refine nst ?_)
   refine N_retU [] rfl (by simp) (r' := .tup [B8 [], lv (.int .i64 (p : Int)), lv (.int .i64 4)]) ⟨.inr ⟨rfl, .inl ⟨_, rfl⟩⟩, .inl rfl, .inl rfl, trivial⟩ ⟨rfl, trivial, trivial, rfl⟩ hb rfl trivial
 have h2' : F.1.1 = t := by simpa using h2
 rw [if_pos h2'] at hTT
 repeat (refine nst ?_)
 refine W_cond rfl (by simp) (fun h3 => ?_) (fun h3 => ?_)
 · have h3' : (l.length : Int) - (F.2.1 : Int) < F.1.2 := by simpa using h3
   rw [if_pos h3'] at hTT
   subst hTT
   repeat (refine nst ?_)
   refine N_retU [] rfl (by simp) (r' := .tup [B8 [], lv (.int .i64 (p : Int)), lv (.int .i64 3)]) ⟨.inr ⟨rfl, .inl ⟨_, rfl⟩⟩, .inl rfl, .inl rfl, trivial⟩ ⟨rfl, trivial, trivial, rfl⟩ hb rfl trivial
 have h3' : ¬ (l.length : Int) - (F.2.1 : Int) < F.1.2 := by simpa using h3
 rw [if_neg h3'] at hTT
 obtain ⟨n, hn'⟩ : ∃ n : Nat, F.1.2 = (n : Int) := ⟨F.1.2.toNat, by omega⟩
 rw [hn', Int.toNat_natCast] at hTT
 subst hTT
 clear h3
 rw [hn'] at h3' hpos
 repeat (refine nst ?_)
 rw [hn']
 repeat (refine nst ?_)
 refine rt2 [] ?_ ?_
 · show Av.tup [B8 ((List.take ((F.2.1 : Int) + (n : Int)).toNat l).drop (F.2.1 : Int).toNat), lv (.int .i64 ((F.2.1 : Int) + (n : Int))), lv (.int .i64 0)] = _
   rw [show ((F.2.1 : Int) + (n : Int)) = ((F.2.1 + n : Nat) : Int) by omega, Int.toNat_natCast, Int.toNat_natCast, List.drop_take, Nat.add_sub_cancel_left]
   rfl
 · trivial

def oidR (l : List Int) (p : Nat) : List Int × Nat × Int :=
 let r := openP l p (ofT 6)
 if r.2.2 = 0 then (let x := oidP r.1; if x.2 = 0 then (x.1, r.2.1, 0) else ([], p, x.2)) else ([], p, r.2.2)
theorem oread_ok (l : List Int) (p : Nat) (hp : p ≤ l.length) (hl : l.length ≤ 1000000) (hw : WfB l) : Ct Tryz.prog 35 [.c (.ptr 0 0)] [curB l p] (.tup [I64 (oidR l p).1, lv (.int .i64 (oidR l p).2.2)]) [curB l (oidR l p).2.1] [] := by
 have hat := at_ok l p
 have hho := headof_ok 6
 have hop := open_ok l p (ofT 6) hp hl hw
 have hoe := open_err l p (ofT 6) hp hl hw
 have hle := openP_le l p (ofT 6) hp
 have hmem := openP_mem l p (ofT 6)
 unfold oidR
 generalize openP l p (ofT 6) = X at *
 obtain ⟨x, q, e⟩ := X
 dsimp only at *
 by_cases he : e = 0
 · subst he
   have hop := hop rfl
   rw [if_pos rfl]
   have hre := rest_ok x 0 (Nat.zero_le _) (by omega)
   rw [List.drop_zero] at hre
   have hpa := oparse_ok x (by omega) (fun y hy => hw y (hmem.2 y hy))
   have hbk := back_ok l q p hle.1 (by omega)
   generalize oidP x = Y at *
   obtain ⟨o, f⟩ := Y
   dsimp only at *
   by_cases hf : f = 0
   · subst hf
     rw [if_pos rfl]
     refine Ct_intro Tryz.func35 rfl rfl rfl rfl rfl (fun E hn hb => ?_)
     repeat refine nx ?_
     exact rtU []
   · rw [if_neg hf]
     refine Ct_intro Tryz.func35 rfl rfl rfl rfl rfl (fun E hn hb => ?_)
     repeat refine nx ?_
     exact rtU []
 · have hoe := hoe he
   rw [if_neg he]
   refine Ct_intro Tryz.func35 rfl rfl rfl rfl rfl (fun E hn hb => ?_)
   repeat refine nx ?_
   exact rtU []
theorem oidR_le (l : List Int) (p : Nat) (hp : p ≤ l.length) : p ≤ (oidR l p).2.1 ∧ (oidR l p).2.1 ≤ l.length := by
 have h := openP_le l p (ofT 6) hp
 unfold oidR
 dsimp only
 split
 · split
   · exact h
   · exact ⟨Nat.le_refl _, hp⟩
 · exact ⟨Nat.le_refl _, hp⟩

theorem and_mod (s : Nat) (hs : s ≤ 8) (n : Int) (h : 0 ≤ n ∧ n < 4611686018427387904) : IntKind.i64.wrap (BitVec.ofInt IntKind.i64.bits n &&& BitVec.ofInt IntKind.i64.bits (2 ^ s - 1)).toNat = n % 2 ^ s := by
 obtain ⟨n, rfl⟩ : ∃ m : Nat, n = m := ⟨n.toNat, by omega⟩
 have hp : (2 : Nat) ^ s ≤ 256 := Nat.pow_le_pow_right (by decide) hs
 have hp1 : 0 < (2 : Nat) ^ s := Nat.pow_pos (by decide)
 have e0 : (2 : Int) ^ s - 1 = ((2 ^ s - 1 : Nat) : Int) := by
   have : ((2 ^ s : Nat) : Int) = (2 : Int) ^ s := by simp
   omega
 have e3 : ((n : Int) % 2 ^ s) = ((n % 2 ^ s : Nat) : Int) := by simp
 rw [e0, e3]
 have hm := Nat.and_two_pow_sub_one_eq_mod n s
 have hlt : n % 2 ^ s < 256 := Nat.lt_of_lt_of_le (Nat.mod_lt _ hp1) hp
 rw [← hm] at hlt ⊢
 have e1 : (BitVec.ofInt IntKind.i64.bits (n : Int)).toNat = n := by
   rw [BitVec.toNat_ofInt]; simp only [IntKind.bits]; omega
 have e2 : (BitVec.ofInt IntKind.i64.bits ((2 ^ s - 1 : Nat) : Int)).toNat = 2 ^ s - 1 := by
   rw [BitVec.toNat_ofInt]; simp only [IntKind.bits]; omega
 rw [BitVec.toNat_and, e1, e2]
 generalize n &&& (2 ^ s - 1) = z at *
 simp only [IntKind.wrap, IntKind.signed, IntKind.bits]
 simp
 omega
abbrev iB (n : Int) : Blk := .cells [.lf (.v (.int .i64 n))]
theorem digit7_ok (acc : List Int) (n : Int) (hn0 : 0 ≤ n ∧ n < 4611686018427387904) (hl : acc.length ≤ 1000) :
   CtM Tryz.prog 152 [.c (.ptr 0 0), .c (.ptr 1 0), .c (.ptr 2 0)] [.cells [.own 3 1 0 acc.length], iB n, iB 7, .row (.ints .u8 acc)] (.tup [])
     [.cells [.own 4 1 0 (acc.length + 1)], iB n, iB 7, .gone] [.row (.ints .u8 (acc ++ [n % 128]))] := by
 have ha : IntKind.i64.wrap (BitVec.ofInt IntKind.i64.bits n &&& BitVec.ofInt IntKind.i64.bits (1 * 2 ^ min (Int.toNat 7) IntKind.i64.bits - 1)).toNat = n % 128 := and_mod 7 (by decide) n hn0
 refine CtM_intro Tryz.func152 rfl rfl rfl rfl rfl (fun E hn hb => ?_)
 repeat (refine nst ?_)
 refine W_drawW 8 (by kernel_rfl) (by kernel_rfl) (by kernel_rfl) (by rw [hn]; rfl) rfl rfl ?_
 repeat (first | refine dp1 ?_ | refine dg1 ?_ | refine DrawW_nil ?_)
 rw [ha]
 refine DrawW_cons rfl (ops_of (opys_lit (d := (.ints .u8 [n % 128])) rfl (elt_mk Tryz.underlying22 rfl rfl) zok5 rfl (by exact vcs) rfl ⟨by decide, by decide, rfl, rfl⟩) rfl) ?_
 repeat (first | refine dp1 ?_ | refine dg1 ?_ | refine DrawW_nil ?_)
 repeat (refine nst ?_)
 refine s_appendK 95 rfl rfl rfl rfl rfl (by rw [hn]; rfl) (elt_mk Tryz.underlying22 rfl rfl) rfl rfl rfl rfl ?_ (by simp) ⟨by simp; omega, by decide⟩ ?_ ?_
 · trivial
 · repeat (refine nst ?_)
   refine s_storeN rfl rfl rfl rfl rfl (by exact vcs) rfl rfl rfl (by rw [cellsOf22]; rfl) (by rw [info22]; rfl) rfl rfl ?_
   rw [Nat.zero_add, List.take_length]
   repeat (refine nst ?_)
   exact N_endM [3] rfl (by trivial) ⟨rfl, ⟨.inr rfl, .inr rfl, .inr rfl, .inl rfl⟩, rfl, rfl⟩ hb rfl
 · repeat (refine nst ?_)
   refine s_storeN rfl rfl rfl rfl rfl (by exact vcs) rfl rfl rfl (by rw [cellsOf22]; rfl) (by rw [info22]; rfl) rfl rfl ?_
   rw [Nat.zero_add, List.take_length, List.drop_zero]
   repeat (refine nst ?_)
   exact N_endM [95] rfl (by trivial) ⟨rfl, ⟨.inr rfl, .inr rfl, .inr rfl, .inl rfl⟩, rfl, rfl⟩ hb rfl
theorem digit8_ok (acc : List Int) (n : Int) (hn0 : 0 ≤ n ∧ n < 4611686018427387904) (hl : acc.length ≤ 1000) :
   CtM Tryz.prog 152 [.c (.ptr 0 0), .c (.ptr 1 0), .c (.ptr 2 0)] [.cells [.own 3 1 0 acc.length], iB n, iB 8, .row (.ints .u8 acc)] (.tup [])
     [.cells [.own 4 1 0 (acc.length + 1)], iB n, iB 8, .gone] [.row (.ints .u8 (acc ++ [n % 256]))] := by
 have ha : IntKind.i64.wrap (BitVec.ofInt IntKind.i64.bits n &&& BitVec.ofInt IntKind.i64.bits (1 * 2 ^ min (Int.toNat 8) IntKind.i64.bits - 1)).toNat = n % 256 := and_mod 8 (by decide) n hn0
 refine CtM_intro Tryz.func152 rfl rfl rfl rfl rfl (fun E hn hb => ?_)
 repeat (refine nst ?_)
 refine W_drawW 8 (by kernel_rfl) (by kernel_rfl) (by kernel_rfl) (by rw [hn]; rfl) rfl rfl ?_
 repeat (first | refine dp1 ?_ | refine dg1 ?_ | refine DrawW_nil ?_)
 rw [ha]
 refine DrawW_cons rfl (ops_of (opys_lit (d := (.ints .u8 [n % 256])) rfl (elt_mk Tryz.underlying22 rfl rfl) zok5 rfl (by exact vcs) rfl ⟨by decide, by decide, rfl, rfl⟩) rfl) ?_
 repeat (first | refine dp1 ?_ | refine dg1 ?_ | refine DrawW_nil ?_)
 repeat (refine nst ?_)
 refine s_appendK 95 rfl rfl rfl rfl rfl (by rw [hn]; rfl) (elt_mk Tryz.underlying22 rfl rfl) rfl rfl rfl rfl ?_ (by simp) ⟨by simp; omega, by decide⟩ ?_ ?_
 · trivial
 · repeat (refine nst ?_)
   refine s_storeN rfl rfl rfl rfl rfl (by exact vcs) rfl rfl rfl (by rw [cellsOf22]; rfl) (by rw [info22]; rfl) rfl rfl ?_
   rw [Nat.zero_add, List.take_length]
   repeat (refine nst ?_)
   exact N_endM [3] rfl (by trivial) ⟨rfl, ⟨.inr rfl, .inr rfl, .inr rfl, .inl rfl⟩, rfl, rfl⟩ hb rfl
 · repeat (refine nst ?_)
   refine s_storeN rfl rfl rfl rfl rfl (by exact vcs) rfl rfl rfl (by rw [cellsOf22]; rfl) (by rw [info22]; rfl) rfl rfl ?_
   rw [Nat.zero_add, List.take_length, List.drop_zero]
   repeat (refine nst ?_)
   exact N_endM [95] rfl (by trivial) ⟨rfl, ⟨.inr rfl, .inr rfl, .inr rfl, .inl rfl⟩, rfl, rfl⟩ hb rfl

def lowD (m : Nat) : Nat → Nat → List Int
 | 0, _ => []
 | k + 1, n => if n = 0 then [] else ((n % m : Nat) : Int) :: lowD m k (n / m)
theorem lowD_len (m : Nat) : ∀ (k n : Nat), (lowD m k n).length ≤ k
 | 0, n => by simp [lowD]
 | k + 1, n => by
   have := lowD_len m k (n / m)
   unfold lowD
   split <;> simp <;> omega
theorem lowD_wf (m : Nat) (h0 : 0 < m) (hm : m ≤ 256) : ∀ (k n : Nat), WfB (lowD m k n)
 | 0, n => fun x h => by simp [lowD] at h
 | k + 1, n => by
   have ih := lowD_wf m h0 hm k (n / m)
   have := Nat.mod_lt n h0
   unfold lowD
   split
   · exact fun x h => by simp at h
   · intro x hx
     cases hx with
     | head => omega
     | tail _ hx => exact ih x hx
structure DS where
 n : Nat
 k : Nat
 acc : List Int
theorem digits7_ok (n : Nat) (hn1 : n ≤ 100000000) :
   Ct Tryz.prog 144 [lv (.int .i64 (n : Int)), lv (.int .i64 7)] [] (.c (.own 0 1 0 (lowD 128 5 n).length)) [] [.row (.ints .u8 (lowD 128 5 n).reverse)] := by
 obtain ⟨D, hD⟩ : ∃ D, lowD 128 5 n = D := ⟨_, rfl⟩
 have hDl : D.length ≤ 5 := by rw [← hD]; exact lowD_len _ _ _
 rw [hD]
 refine Ct_intro Tryz.func144 rfl rfl rfl rfl rfl (fun E hn hb => ?_)
 repeat (refine nst ?_)
 refine s_boxN rfl rfl rfl (by rw [hn]; rfl) rfl (by exact vcs) rfl rfl ?_
 repeat (refine nst ?_)
 refine s_boxN rfl rfl rfl (by rw [hn]; rfl) rfl (by exact vcs) rfl rfl ?_
 repeat (refine nst ?_)
 refine s_allocN rfl rfl rfl (by rw [hn]; rfl) rfl zok22 ?_
 repeat (refine nst ?_)
 refine W_sr (fun a w h => SR.cell_nil (cs := [.lf (.v (.slice none 0 0))]) (cs' := [.own 900 1 0 0]) 69 0 900 rfl rfl rfl rfl rfl h) ?_
 refine W_weaken (St.le_of (l := [(2, .c (.ptr 66 0)), (3, .c (.ptr 67 0)), (5, .c (.ptr 69 0)), (6, .c (.fn (.func 152) [] [.ptr 69 0, .ptr 66 0, .ptr 67 0]))]) (h := [(66, iB (n : Int)), (67, iB 7), (69, .cells [.own 900 1 0 ([] : List Int).length]), (900, .row (.ints .u8 []))]) (by refine ⟨?_, ?_⟩ <;> (repeat' (first | exact trivial | exact rfl | refine ⟨?_, ?_⟩)) <;> first | exact rfl | (simp; done) | skip)) ?_
 refine W_loop (ι := {s : DS // s.acc ++ lowD 128 s.k s.n = D ∧ s.n ≤ 100000000 ∧ s.n < 128 ^ s.k ∧ s.acc.length ≤ 5}) (fun s => St.of [(2, .c (.ptr 66 0)), (3, .c (.ptr 67 0)), (5, .c (.ptr 69 0)), (6, .c (.fn (.func 152) [] [.ptr 69 0, .ptr 66 0, .ptr 67 0]))] [(66, iB (s.1.n : Int)), (67, iB 7), (69, .cells [.own 900 1 0 s.1.acc.length]), (900, .row (.ints .u8 s.1.acc))]) (fun s => s.1.k) (fun s => ?_) ⟨⟨n, 5, []⟩, hD, hn1, by dsimp only; omega, by simp⟩
 obtain ⟨⟨n, k, acc⟩, h1, h2, h3, h4⟩ := s
 dsimp only at h1 h2 h3 h4 ⊢
 clear hn1 hD
 repeat (refine nst ?_)
 refine W_cond rfl (by simp) (fun hc => ?_) (fun hc => ?_)
 · have hnp : 0 < n := by simpa using hc
   obtain ⟨k, rfl⟩ : ∃ k', k = k' + 1 := by
     cases k with
     | zero => simp at h3; omega
     | succ k => exact ⟨k, rfl⟩
   have hcl := digit7_ok acc (n : Int) (by omega) (by omega)
   have e1 : ((n : Int) % 128) = ((n % 128 : Nat) : Int) := by omega
   rw [e1] at hcl
   unfold lowD at h1
   rw [if_neg (by omega)] at h1
   have h5 : (acc ++ [((n % 128 : Nat) : Int)]) ++ lowD 128 k (n / 128) = D := by rw [List.append_assoc]; exact h1
   have h6 : (acc ++ [((n % 128 : Nat) : Int)]).length ≤ 5 := by
     have := congrArg List.length h5
     simp at this ⊢
     omega
   have h7 : n / 128 < 128 ^ k := by
     rw [Nat.pow_succ] at h3
     exact Nat.div_lt_of_lt_mul (by rw [Nat.mul_comm]; exact h3)
   have e8 : (acc ++ [((n % 128 : Nat) : Int)]).length = acc.length + 1 := by simp
   generalize acc ++ [((n % 128 : Nat) : Int)] = acc2 at *
   repeat (refine nst ?_)
   refine s_callM [69, 66, 67, 900] hcl rfl rfl (by rw [hn]; rfl) rfl rfl (by trivial) ⟨rfl, ⟨rfl, rfl, rfl, rfl⟩, (by simp [ordL]), rfl⟩ ?_
   repeat (refine nst ?_)
   have e9 : (n : Int) / 2 ^ min (Int.toNat 7) IntKind.i64.bits = ((n / 128 : Nat) : Int) := by
     have : min (Int.toNat 7) IntKind.i64.bits = 7 := by decide
     rw [this]
     omega
   rw [e9]
   refine s_storeN rfl rfl rfl rfl rfl (by exact vcs) rfl rfl rfl (by rw [cellsOf3]; rfl) (by rw [info3]; rfl) rfl rfl ?_
   repeat (refine nst ?_)
   refine N_sr (fun a w h => SR.mv 78 900 rfl rfl rfl rfl rfl h) ?_
   refine N_round ⟨⟨n / 128, k, acc2⟩, h5, by dsimp only; omega, h7, h6⟩ (by dsimp only; omega) (St.le_of ⟨⟨rfl, rfl, rfl, rfl⟩, ⟨rfl, rfl, ?_, rfl⟩⟩)
   dsimp only
   rw [e8]
   rfl
 · have hn0 : n = 0 := by simp at hc; omega
   subst hn0
   have e1 : lowD 128 k 0 = [] := by cases k <;> rfl
   rw [e1, List.append_nil] at h1
   subst h1
   have hrv := reverse_ok acc (by omega)
   repeat (refine nst ?_)
   refine s_call [900] hrv rfl rfl (by rw [hn]; rfl) rfl rfl (by trivial) ⟨rfl, rfl, (by simp [ordL]), rfl⟩ ?_
   repeat (refine nst ?_)
   exact rt1 [900]
theorem digits8_ok (n : Nat) (hn1 : n ≤ 100000000) :
   Ct Tryz.prog 144 [lv (.int .i64 (n : Int)), lv (.int .i64 8)] [] (.c (.own 0 1 0 (lowD 256 5 n).length)) [] [.row (.ints .u8 (lowD 256 5 n).reverse)] := by
 obtain ⟨D, hD⟩ : ∃ D, lowD 256 5 n = D := ⟨_, rfl⟩
 have hDl : D.length ≤ 5 := by rw [← hD]; exact lowD_len _ _ _
 rw [hD]
 refine Ct_intro Tryz.func144 rfl rfl rfl rfl rfl (fun E hn hb => ?_)
 repeat (refine nst ?_)
 refine s_boxN rfl rfl rfl (by rw [hn]; rfl) rfl (by exact vcs) rfl rfl ?_
 repeat (refine nst ?_)
 refine s_boxN rfl rfl rfl (by rw [hn]; rfl) rfl (by exact vcs) rfl rfl ?_
 repeat (refine nst ?_)
 refine s_allocN rfl rfl rfl (by rw [hn]; rfl) rfl zok22 ?_
 repeat (refine nst ?_)
 refine W_sr (fun a w h => SR.cell_nil (cs := [.lf (.v (.slice none 0 0))]) (cs' := [.own 900 1 0 0]) 69 0 900 rfl rfl rfl rfl rfl h) ?_
 refine W_weaken (St.le_of (l := [(2, .c (.ptr 66 0)), (3, .c (.ptr 67 0)), (5, .c (.ptr 69 0)), (6, .c (.fn (.func 152) [] [.ptr 69 0, .ptr 66 0, .ptr 67 0]))]) (h := [(66, iB (n : Int)), (67, iB 8), (69, .cells [.own 900 1 0 ([] : List Int).length]), (900, .row (.ints .u8 []))]) (by refine ⟨?_, ?_⟩ <;> (repeat' (first | exact trivial | exact rfl | refine ⟨?_, ?_⟩)) <;> first | exact rfl | (simp; done) | skip)) ?_
 refine W_loop (ι := {s : DS // s.acc ++ lowD 256 s.k s.n = D ∧ s.n ≤ 100000000 ∧ s.n < 256 ^ s.k ∧ s.acc.length ≤ 5}) (fun s => St.of [(2, .c (.ptr 66 0)), (3, .c (.ptr 67 0)), (5, .c (.ptr 69 0)), (6, .c (.fn (.func 152) [] [.ptr 69 0, .ptr 66 0, .ptr 67 0]))] [(66, iB (s.1.n : Int)), (67, iB 8), (69, .cells [.own 900 1 0 s.1.acc.length]), (900, .row (.ints .u8 s.1.acc))]) (fun s => s.1.k) (fun s => ?_) ⟨⟨n, 5, []⟩, hD, hn1, by dsimp only; omega, by simp⟩
 obtain ⟨⟨n, k, acc⟩, h1, h2, h3, h4⟩ := s
 dsimp only at h1 h2 h3 h4 ⊢
 clear hn1 hD
 repeat (refine nst ?_)
 refine W_cond rfl (by simp) (fun hc => ?_) (fun hc => ?_)
 · have hnp : 0 < n := by simpa using hc
   obtain ⟨k, rfl⟩ : ∃ k', k = k' + 1 := by
     cases k with
     | zero => simp at h3; omega
     | succ k => exact ⟨k, rfl⟩
   have hcl := digit8_ok acc (n : Int) (by omega) (by omega)
   have e1 : ((n : Int) % 256) = ((n % 256 : Nat) : Int) := by omega
   rw [e1] at hcl
   unfold lowD at h1
   rw [if_neg (by omega)] at h1
   have h5 : (acc ++ [((n % 256 : Nat) : Int)]) ++ lowD 256 k (n / 256) = D := by rw [List.append_assoc]; exact h1
   have h6 : (acc ++ [((n % 256 : Nat) : Int)]).length ≤ 5 := by
     have := congrArg List.length h5
     simp at this ⊢
     omega
   have h7 : n / 256 < 256 ^ k := by
     rw [Nat.pow_succ] at h3
     exact Nat.div_lt_of_lt_mul (by rw [Nat.mul_comm]; exact h3)
   have e8 : (acc ++ [((n % 256 : Nat) : Int)]).length = acc.length + 1 := by simp
   generalize acc ++ [((n % 256 : Nat) : Int)] = acc2 at *
   repeat (refine nst ?_)
   refine s_callM [69, 66, 67, 900] hcl rfl rfl (by rw [hn]; rfl) rfl rfl (by trivial) ⟨rfl, ⟨rfl, rfl, rfl, rfl⟩, (by simp [ordL]), rfl⟩ ?_
   repeat (refine nst ?_)
   have e9 : (n : Int) / 2 ^ min (Int.toNat 8) IntKind.i64.bits = ((n / 256 : Nat) : Int) := by
     have : min (Int.toNat 8) IntKind.i64.bits = 8 := by decide
     rw [this]
     omega
   rw [e9]
   refine s_storeN rfl rfl rfl rfl rfl (by exact vcs) rfl rfl rfl (by rw [cellsOf3]; rfl) (by rw [info3]; rfl) rfl rfl ?_
   repeat (refine nst ?_)
   refine N_sr (fun a w h => SR.mv 78 900 rfl rfl rfl rfl rfl h) ?_
   refine N_round ⟨⟨n / 256, k, acc2⟩, h5, by dsimp only; omega, h7, h6⟩ (by dsimp only; omega) (St.le_of ⟨⟨rfl, rfl, rfl, rfl⟩, ⟨rfl, rfl, ?_, rfl⟩⟩)
   dsimp only
   rw [e8]
   rfl
 · have hn0 : n = 0 := by simp at hc; omega
   subst hn0
   have e1 : lowD 256 k 0 = [] := by cases k <;> rfl
   rw [e1, List.append_nil] at h1
   subst h1
   have hrv := reverse_ok acc (by omega)
   repeat (refine nst ?_)
   refine s_call [900] hrv rfl rfl (by rw [hn]; rfl) rfl rfl (by trivial) ⟨rfl, rfl, (by simp [ordL]), rfl⟩ ?_
   repeat (refine nst ?_)
   exact rt1 [900]
end Go.Proofs.YtaagjnlkinojcaaGreatDoor

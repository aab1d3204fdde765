/-
  Chapter 12: digests, tags. The conditions: bytes that are bytes, at most a million of them.
-/
import Derived.Test.YthoaneleeabadaaGreatM6
namespace Go.Proofs.YthoaneleeabadaaGreat
set_option linter.unusedSimpArgs false
set_option linter.unusedVariables false
open Go.Sx
set_option maxRecDepth 10000
theorem digS_len (m : List Int) : (digS m).length = 32 := rfl
theorem digS_wf (m : List Int) : WfB (digS m) := by
 have hw : ∀ x : Int, WfB (wordBytes x) := by
   intro x y hy
   simp only [wordBytes, List.mem_cons, List.mem_nil_iff, or_false] at hy
   rcases hy with rfl | rfl | rfl | rfl <;> exact ⟨Int.emod_nonneg _ (by decide), Int.emod_lt_of_pos _ (by decide)⟩
 intro x hx
 obtain ⟨w, _, hx⟩ := List.mem_flatMap.1 hx
 exact hw w x hx
theorem digS_fin (m : List Int) : (finS (finS H0 m) (finL m ++ padS m.length)).bytes = digS m := by
 rw [← (fin_app _ H0 m (padS m.length) rfl).1]
 rfl
theorem flat_wf {bs : List (List Int)} (h : ∀ b ∈ bs, WfB b) : WfB bs.flatten := by
 intro x hx
 obtain ⟨b, hb, hx⟩ := List.mem_flatten.1 hx
 exact h b hb x hx
theorem finL_mod (m : List Int) : (finL m).length = m.length % 64 := by
 unfold finL
 rw [List.length_drop]
 omega
theorem msum_ok (bs : List (List Int)) (hbs : ∀ b ∈ bs, WfB b) (hbl : bs.length ≤ 1000) (hn1 : bs.flatten.length ≤ 1000000) : Ct Tryz.prog 73 [partsA bs] [] (.ai .u8 (digS bs.flatten)) [] [] := by
 have hput := hput_ok Z8 false [] 0 bs H0_ok (fun y hy => by cases hy) hbs (by simp) hbl (by omega)
 rw [List.nil_append] at hput
 have hsum := hsum_ok (finS H0 bs.flatten) true (finL bs.flatten) (0 + bs.flatten.length) (finS_ok _ _ _ rfl H0_ok) (finL_wf (flat_wf hbs)) (by rw [finL_mod, Nat.zero_add]) (by omega)
 have hd := digS_fin bs.flatten
 have hdl := digS_len bs.flatten
 have hdn : digS bs.flatten ≠ [] := by intro h; rw [h] at hdl; simp at hdl
 rw [Nat.zero_add] at hsum hput
 simp only [cond_true, cond_false] at hsum hput
 rw [hd] at hsum
 generalize digS bs.flatten = D at *
 refine Ct_intro Tryz.func73 rfl rfl rfl rfl rfl (fun E hn hb => ?_)
 repeat (refine nst ?_)
 refine s_allocAN .u8 32 rfl rfl rfl (by rw [hn]; rfl) (by kernel_rfl) ?_
 repeat (refine nst ?_)
 refine s_call [] new_ok rfl rfl (by rw [hn]; rfl) rfl rfl (by trivial) ⟨rfl, trivial, trivial, rfl⟩ ?_
 repeat (refine nst ?_)
 refine WL_sr (fun a w h => SR.cell_nil (cs := hC Z8 false (.lf (.v (.slice none 0 0))) 0) (cs' := hC Z8 false (.own 200 1 0 0) 0) 68 9 200 rfl rfl rfl rfl rfl h) ?_
 refine s_call [68, 200] hput rfl rfl (by rw [hn]; rfl) rfl rfl (by trivial) ⟨rfl, ⟨rfl, rfl⟩, by simp [ordL], rfl⟩ ?_
 repeat (refine nst ?_)
 refine s_call [68, 71] hsum rfl rfl (by rw [hn]; rfl) rfl rfl (by trivial) ⟨rfl, ⟨rfl, rfl⟩, by simp [ordL], rfl⟩ ?_
 refine s_storeA rfl rfl rfl rfl rfl (by exact vcs) rfl (by rw [cellsOf46]; first | rfl | assumption | omega | kernel_rfl | (simp; done) | (simp; omega) | (simp at *; omega)) (by first | rfl | assumption | omega | kernel_rfl | (simp; done) | (simp; omega) | (simp at *; omega)) (by first | assumption | (simp; done) | exact List.cons_ne_nil _ _) ?_
 repeat (refine nst ?_)
 exact N_retN [] rfl (⟨rfl, by rw [cellsOf46]; omega, hdn⟩) ⟨rfl, by first | trivial | exact ⟨rfl, rfl⟩, by first | trivial | exact rfl | exact ⟨rfl, rfl⟩, rfl⟩ hb rfl (by first | trivial | (simp; done) | (simp [ordL]; done))
def keyS (k : List Int) : List Int := if 64 < k.length then digS k else k
def pad64 (l : List Int) : List Int := l ++ List.replicate (64 - l.length) 0
def padK (k : List Int) (c : Int) : List Int := (pad64 (keyS k)).map fun x => xI x c
def tagS (k m : List Int) : List Int := digS (padK k 92 ++ digS (padK k 54 ++ m))
theorem keyS_len (k : List Int) : (keyS k).length ≤ 64 := by
 unfold keyS
 split
 · rw [digS_len]; omega
 · omega
theorem keyS_wf {k : List Int} (h : WfB k) : WfB (keyS k) := by
 unfold keyS
 split
 · exact digS_wf k
 · exact h
theorem pad64_len {l : List Int} (h : l.length ≤ 64) : (pad64 l).length = 64 := by simp [pad64]; omega
theorem padK_len (k : List Int) (c : Int) : (padK k c).length = 64 := by rw [padK, List.length_map, pad64_len (keyS_len k)]
theorem pad64_wf {l : List Int} (h : WfB l) : WfB (pad64 l) := wf_app h (replicate_wf _)
theorem xor8 {a b : Int} (ha : 0 ≤ a ∧ a < 256) (hb : 0 ≤ b ∧ b < 256) : IntKind.u8.wrap (BitVec.ofInt IntKind.u8.bits a ^^^ BitVec.ofInt IntKind.u8.bits b).toNat = xI a b ∧ 0 ≤ xI a b ∧ xI a b < 256 := by
 obtain ⟨m, rfl⟩ : ∃ n : Nat, a = n := ⟨a.toNat, by omega⟩
 obtain ⟨n, rfl⟩ : ∃ n : Nat, b = n := ⟨b.toNat, by omega⟩
 have bv8 : ∀ n : Nat, n < 256 → (BitVec.ofInt IntKind.u8.bits (n : Int)).toNat = n := by
   intro n h
   have : (BitVec.ofInt 8 (n : Int)).toNat = n := by
     rw [BitVec.ofInt_natCast, BitVec.toNat_ofNat]
     exact Nat.mod_eq_of_lt h
   exact this
 have h2 : m ^^^ n < 2 ^ 8 := Nat.xor_lt_two_pow (by omega) (by omega)
 have e : xI (m : Int) (n : Int) = ((m ^^^ n : Nat) : Int) := by simp [xI]
 rw [BitVec.toNat_xor, bv8 m (by omega), bv8 n (by omega), e]
 refine ⟨?_, by omega, by omega⟩
 rw [wrap_u8]
 omega
theorem padK_wf {k : List Int} (h : WfB k) {c : Int} (hc : 0 ≤ c ∧ c < 256) : WfB (padK k c) := by
 intro x hx
 obtain ⟨y, hy, rfl⟩ := List.mem_map.1 hx
 exact (xor8 (pad64_wf (keyS_wf h) y hy) hc).2
set_option maxHeartbeats 4000000 in
theorem padded_ok (k : List Int) (c : Int) (hk : WfB k) (hkl : k.length ≤ 1000000) (hc : 0 ≤ c ∧ c < 256) : Ct Tryz.prog 126 [B8 k, lv (.int .u8 c)] [] (B8 (padK k c)) [] [] := by
 have hpl := padK_len k c
 refine Ct.freeze (res := .c (.own 0 1 0 64)) (d := .ints .u8 (padK k c)) ?_ ⟨rfl, rfl, rfl, by omega, by rw [List.drop_zero, List.take_of_length_le (by omega)]⟩ rfl
 have hms := msum_ok [k] (fun b hb => by rw [List.mem_singleton.1 hb]; exact hk) (by simp) (by simp; exact hkl)
 have e0 : [k].flatten = k := by simp
 rw [e0] at hms
 have hks := keyS_len k
 have hkw := keyS_wf hk
 refine Ct_intro Tryz.func126 rfl rfl rfl rfl rfl (fun E hn hb => ?_)
 repeat (refine nst ?_)
 refine W_join (St.of [(0, B8 (keyS k)), (1, lv (.int .u8 c))] []) ?_ ?_
 · refine W_cond rfl (by simp) (fun hq => ?_) (fun hq => ?_)
   · have h64 : 64 < k.length := by simp at hq; omega
     have eD : keyS k = digS k := by rw [keyS, if_pos h64]
     rw [eD]
     have hdl := digS_len k
     have hdn : digS k ≠ [] := by intro h; rw [h] at hdl; simp at hdl
     generalize digS k = D at *
     repeat (refine nst ?_)
     refine WL_q (opq_of (opy_lit (d := (.recs 1 [[.ints .u8 k]])) rfl (elt_mk Tryz.underlying76 rfl rfl) zok23 rfl (by exact vcs) rfl ⟨by decide, by decide, rfl, rfl⟩) rfl) (by rw [hn]; rfl) ?_
     refine s_call0 (hms) rfl rfl rfl (by rw [hn]; rfl) rfl rfl (by exact vcs) rfl rfl rfl ?_
     refine s_allocAN .u8 32 rfl rfl rfl (by rw [hn]; rfl) (by kernel_rfl) ?_
     repeat (refine nst ?_)
     refine s_storeA rfl rfl rfl rfl rfl (by exact vcs) rfl (by rw [cellsOf46]; first | rfl | assumption | omega | kernel_rfl | (simp; done) | (simp; omega) | (simp at *; omega)) (by first | rfl | assumption | omega | kernel_rfl | (simp; done) | (simp; omega) | (simp at *; omega)) (by first | assumption | (simp; done) | exact List.cons_ne_nil _ _) ?_
     repeat (refine nst ?_)
     refine sp true rfl rfl (by rw [hn]; rfl) ?_ ?_
     · exact ⟨rfl, by omega, hdn, show 32 ≤ maxLen from by decide⟩
     repeat (refine nst ?_)
     refine N_freeze 69 [(0, B8 D)] rfl hb ⟨⟨rfl, rfl, rfl, by omega, by rw [List.drop_zero, List.take_of_length_le (by omega)]⟩, rfl⟩ ?_
     (refine N_join ?_; refine St.le_of ⟨?_, ?_⟩ <;> (repeat' (first | exact trivial | exact rfl | refine ⟨?_, ?_⟩)) <;> first | exact rfl | (simp; done) | skip)
   · have h64 : ¬ 64 < k.length := by simp at hq; omega
     have eD : keyS k = k := by rw [keyS, if_neg h64]
     rw [eD]
     repeat (refine nst ?_)
     (refine N_join ?_; refine St.le_of ⟨?_, ?_⟩ <;> (repeat' (first | exact trivial | exact rfl | refine ⟨?_, ?_⟩)) <;> first | exact rfl | (simp; done) | skip)
 have hpk : padK k c = (pad64 (keyS k)).map fun x => xI x c := rfl
 rw [hpk] at hpl ⊢
 clear hpk hms
 generalize keyS k = q at *
 have h6l := pad64_len hks
 have h6w := pad64_wf hkw
 repeat (refine nst ?_)
 refine s_makeI (by_ := 1) rfl rfl rfl (by rw [hn]; rfl) (elt_mk Tryz.underlying23 rfl rfl) rfl rfl rfl (by exact vcs) 64 (by first | rfl | (simp; done) | omega) (by first | (simp; done) | omega | (simp at *; omega)) ?_
 repeat (refine nst ?_)
 refine s_copyI rfl rfl rfl rfl rfl rfl (by rw [hn]; rfl) (elt_mk Tryz.underlying23 rfl rfl) rfl rfl rfl (by exact vcs) (by first | (simp; done) | (simp; omega) | (simp at *; omega)) ?_
 repeat (refine nst ?_)
 refine W_sr (τ := St.of [(1, lv (.int .u8 c)), (6, .c (.own 79 1 0 64)), (20, lv (.int .i64 64)), (21, lv (.int .i64 0))] [(79, .row (.ints .u8 (pad64 q)))]) (fun a w h => h.weaken (St.le_of ⟨⟨rfl, rfl, rfl, rfl⟩, ?_⟩)) ?_
 · refine congrArg (fun l => Blk.row (.ints .u8 l)) ?_
   show List.take 0 (List.replicate 64 0) ++ List.take 64 q ++ List.drop (0 + (List.take 64 q).length) (List.replicate 64 0) = pad64 q
   rw [List.take_of_length_le hks, List.take_zero, List.nil_append, Nat.zero_add, List.drop_replicate]
   rfl
 obtain ⟨Q, hQ⟩ : ∃ Q, pad64 q = Q := ⟨_, rfl⟩
 rw [hQ] at h6l h6w hpl ⊢
 obtain ⟨R, hR⟩ : ∃ R, (Q.map fun x => xI x c) = R := ⟨_, rfl⟩
 rw [hR] at hpl ⊢
 have hRg : ∀ i, i < 64 → R[i]? = some (xI (Q.getD i 0) c) := by
   intro i hi
   have hlt : i < Q.length := by omega
   rw [← hR, List.getElem?_map, List.getElem?_eq_getElem hlt]
   simp [hlt]
 refine W_weaken (τ := St.of [(1, lv (.int .u8 c)), (6, .c (.own 79 1 0 64)), (20, lv (.int .i64 64)), (21, lv (.int .i64 ((0 : Nat) : Int)))] [(79, .row (.ints .u8 (R.take 0 ++ Q.drop 0)))]) ?_ ?_
 · exact ⟨fun _ => .inl rfl, fun _ => .inl rfl⟩
 refine W_loop (ι := {i : Nat // i ≤ 64}) (fun i => St.of [(1, lv (.int .u8 c)), (6, .c (.own 79 1 0 64)), (20, lv (.int .i64 64)), (21, lv (.int .i64 (i.1 : Int)))] [(79, .row (.ints .u8 (R.take i.1 ++ Q.drop i.1)))]) (fun i => 64 - i.1) (fun i => ?_) ⟨0, by omega⟩
 obtain ⟨i, hi⟩ := i
 dsimp only
 have hml : (R.take i ++ Q.drop i).length = 64 := by simp; omega
 repeat (refine nst ?_)
 refine W_cond rfl (by simp) (fun hq => ?_) (fun hq => ?_)
 · have hi64 : i < 64 := by simp at hq; omega
   have hmg : (R.take i ++ Q.drop i).getD (0 + (i : Int).toNat) 0 = Q.getD i 0 := by
     rw [Nat.zero_add, Int.toNat_natCast, List.getD_eq_getElem?_getD, List.getElem?_append_right (by simp; omega), List.getElem?_drop, List.getD_eq_getElem?_getD]
     congr 2
     simp; omega
   have hby := wf_get h6w i
   obtain ⟨x1, x2, x3⟩ := xor8 hby hc
   have hst : (R.take i ++ Q.drop i).set (0 + (i : Int).toNat) (xI (Q.getD i 0) c) = R.take (i + 1) ++ Q.drop (i + 1) := by
     rw [Nat.zero_add, Int.toNat_natCast, drop_cons (by omega), set_mid _ _ _ _ _ (by simp; omega), List.take_succ_eq_append_getElem (by omega)]
     have := hRg i hi64
     rw [List.getElem?_eq_getElem (by omega)] at this
     rw [Option.some.inj this, List.append_assoc]
     rfl
   repeat (refine nst ?_)
   rw [hmg]
   repeat (refine nst ?_)
   rw [x1]
   refine s_storeI rfl rfl rfl rfl rfl (by exact vcs) rfl (by rw [cellsOf5]) (by first | (simp; done) | (simp; omega) | (simp at *; omega)) ?_
   repeat (refine nst ?_)
   refine N_round ⟨i + 1, by omega⟩ (by dsimp only; omega) (St.le_of ⟨⟨rfl, rfl, rfl, rfl⟩, congrArg (fun l => Blk.row (.ints .u8 l)) hst⟩)
 · have : i = 64 := by simp at hq; omega
   subst this
   rw [List.take_of_length_le (by omega), List.drop_of_length_le (by omega), List.append_nil]
   repeat (refine nst ?_)
   exact rt1 [79]
set_option maxHeartbeats 4000000 in
theorem tag_ok (k : List Int) (bs : List (List Int)) (hk : WfB k) (hkl : k.length ≤ 1000000) (hbs : ∀ b ∈ bs, WfB b) (hbl : bs.length ≤ 1000) (hn1 : bs.flatten.length ≤ 900000) : Ct Tryz.prog 88 [B8 k, partsA bs] [] (.ai .u8 (tagS k bs.flatten)) [] [] := by
 have hp1 := padded_ok k 54 hk hkl (by omega)
 have hp2 := padded_ok k 92 hk hkl (by omega)
 have hl1 := padK_len k 54
 have hl2 := padK_len k 92
 have hw1 := padK_wf hk (c := 54) (by omega)
 have hw2 := padK_wf hk (c := 92) (by omega)
 have hM := flat_wf hbs
 obtain ⟨P, hP⟩ : ∃ P, padK k 54 = P := ⟨_, rfl⟩
 obtain ⟨R, hR⟩ : ∃ R, padK k 92 = R := ⟨_, rfl⟩
 have htag : tagS k bs.flatten = digS (R ++ digS (P ++ bs.flatten)) := by rw [← hP, ← hR]; rfl
 rw [hP] at hp1 hl1 hw1
 rw [hR] at hp2 hl2 hw2
 rw [htag]
 have e0 : [P].flatten = P := by simp
 have hput1 := hput_ok Z8 false [] 0 [P] H0_ok (fun y hy => by cases hy) (fun b hb => by rw [List.mem_singleton.1 hb]; exact hw1) (by simp) (by simp) (by rw [e0]; omega)
 rw [List.nil_append, e0] at hput1
 simp only [cond_false] at hput1
 have hput2 := hput_ok (finS H0 P) true (finL P) (0 + P.length) bs (finS_ok _ _ _ rfl H0_ok) (finL_wf hw1) hbs (finL_len P).1 hbl (by omega)
 obtain ⟨f1, f2⟩ := fin_app _ H0 P bs.flatten rfl
 simp only [cond_true] at hput2
 rw [← f1, ← f2] at hput2
 have hPM : WfB (P ++ bs.flatten) := wf_app hw1 hM
 have eN : 0 + P.length + bs.flatten.length = (P ++ bs.flatten).length := by simp
 have hsum := hsum_ok (finS H0 (P ++ bs.flatten)) true (finL (P ++ bs.flatten)) (0 + P.length + bs.flatten.length) (finS_ok _ _ _ rfl H0_ok) (finL_wf hPM) (by rw [finL_mod, eN]) (by omega)
 simp only [cond_true] at hsum
 have hd := digS_fin (P ++ bs.flatten)
 rw [← eN] at hd
 rw [hd] at hsum
 have hdl := digS_len (P ++ bs.flatten)
 have hdw := digS_wf (P ++ bs.flatten)
 have hdn : digS (P ++ bs.flatten) ≠ [] := by intro h; rw [h] at hdl; simp at hdl
 generalize digS (P ++ bs.flatten) = D at *
 have e1 : [R, D].flatten = R ++ D := by simp
 have hms := msum_ok [R, D] (fun b hb => by
   rcases List.mem_cons.1 hb with rfl | hb
   · exact hw2
   · rw [List.mem_singleton.1 hb]; exact hdw) (by simp) (by rw [e1]; simp; omega)
 rw [e1] at hms
 have hol := digS_len (R ++ D)
 have hon : digS (R ++ D) ≠ [] := by intro h; rw [h] at hol; simp at hol
 generalize digS (R ++ D) = O at *
 refine Ct_intro Tryz.func88 rfl rfl rfl rfl rfl (fun E hn hb => ?_)
 repeat (refine nst ?_)
 refine s_allocAN .u8 32 rfl rfl rfl (by rw [hn]; rfl) (by kernel_rfl) ?_
 repeat (refine nst ?_)
 refine s_call [] new_ok rfl rfl (by rw [hn]; rfl) rfl rfl (by trivial) ⟨rfl, trivial, trivial, rfl⟩ ?_
 repeat (refine nst ?_)
 refine s_call0 (hp1) rfl rfl rfl (by rw [hn]; rfl) rfl rfl (by exact vcs) rfl rfl rfl ?_
 refine WL_q (opq_of (opy_lit (d := (.recs 1 [[.ints .u8 P]])) rfl (elt_mk Tryz.underlying76 rfl rfl) zok23 rfl (by exact vcs) rfl ⟨by decide, by decide, rfl, rfl⟩) rfl) (by rw [hn]; rfl) ?_
 refine WL_sr (fun a w h => SR.cell_nil (cs := hC Z8 false (.lf (.v (.slice none 0 0))) 0) (cs' := hC Z8 false (.own 200 1 0 0) 0) 71 9 200 rfl rfl rfl rfl rfl h) ?_
 refine s_call [71, 200] hput1 rfl rfl (by rw [hn]; rfl) rfl rfl (by trivial) ⟨rfl, ⟨rfl, rfl⟩, by simp [ordL], rfl⟩ ?_
 repeat (refine nst ?_)
 refine s_call [71, 76] hput2 rfl rfl (by rw [hn]; rfl) rfl rfl (by trivial) ⟨rfl, ⟨rfl, rfl⟩, by simp [ordL], rfl⟩ ?_
 repeat (refine nst ?_)
 refine s_call [71, 79] hsum rfl rfl (by rw [hn]; rfl) rfl rfl (by trivial) ⟨rfl, ⟨rfl, rfl⟩, by simp [ordL], rfl⟩ ?_
 repeat (refine nst ?_)
 refine s_allocAN .u8 32 rfl rfl rfl (by rw [hn]; rfl) (by kernel_rfl) ?_
 repeat (refine nst ?_)
 refine s_storeA rfl rfl rfl rfl rfl (by exact vcs) rfl (by rw [cellsOf46]; first | rfl | assumption | omega | kernel_rfl | (simp; done) | (simp; omega) | (simp at *; omega)) (by first | rfl | assumption | omega | kernel_rfl | (simp; done) | (simp; omega) | (simp at *; omega)) (by first | assumption | (simp; done) | exact List.cons_ne_nil _ _) ?_
 repeat (refine nst ?_)
 refine W_drawW 3 (by kernel_rfl) (by kernel_rfl) (by kernel_rfl) (by rw [hn]; rfl) rfl rfl ?_
 repeat (first | refine dp1 ?_ | refine dg1 ?_ | refine DrawW_nil ?_)
 refine DrawW_cons rfl (ops_of (opys_call (hp2) rfl rfl rfl (by exact vcs) rfl rfl rfl) rfl) ?_
 repeat (first | refine dp1 ?_ | refine dg1 ?_ | refine DrawW_nil ?_)
 refine DrawW_cons rfl (ops_pure true rfl rfl ⟨rfl, by omega, hdn, show 32 ≤ maxLen from by decide⟩) ?_
 repeat (first | refine dp1 ?_ | refine dg1 ?_ | refine DrawW_nil ?_)
 refine WL_freeze 70 [(20, B8 D)] rfl hb ⟨⟨rfl, rfl, rfl, by omega, by rw [List.drop_zero, List.take_of_length_le (by omega)]⟩, rfl⟩ ?_
 refine WL_q (opq_of (opy_lit (d := (.recs 1 [[.ints .u8 R], [.ints .u8 D]])) rfl (elt_mk Tryz.underlying76 rfl rfl) zok23 rfl (by exact vcs) rfl ⟨by decide, by decide, rfl, rfl⟩) rfl) (by rw [hn]; rfl) ?_
 refine s_call0 (hms) rfl rfl rfl (by rw [hn]; rfl) rfl rfl (by exact vcs) rfl rfl rfl ?_
 refine s_storeA rfl rfl rfl rfl rfl (by exact vcs) rfl (by rw [cellsOf46]; first | rfl | assumption | omega | kernel_rfl | (simp; done) | (simp; omega) | (simp at *; omega)) (by first | rfl | assumption | omega | kernel_rfl | (simp; done) | (simp; omega) | (simp at *; omega)) (by first | assumption | (simp; done) | exact List.cons_ne_nil _ _) ?_
 repeat (refine nst ?_)
 exact N_retN [] rfl (⟨rfl, by rw [cellsOf46]; omega, hon⟩) ⟨rfl, by first | trivial | exact ⟨rfl, rfl⟩, by first | trivial | exact rfl | exact ⟨rfl, rfl⟩, rfl⟩ hb rfl (by first | trivial | (simp; done) | (simp [ordL]; done))
end Go.Proofs.YthoaneleeabadaaGreat

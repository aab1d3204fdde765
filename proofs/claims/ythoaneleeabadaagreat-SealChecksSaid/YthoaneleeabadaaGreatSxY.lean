/-
  Rows of rows and of structs that came in, as data. No condition.
-/
import Derived.Test.YthoaneleeabadaaGreatA42
import Derived.Test.YthoaneleeabadaaGreatD8
namespace Go.Proofs.YthoaneleeabadaaGreat
set_option linter.unusedSimpArgs false
set_option linter.unusedVariables false
open Go.Sx
set_option maxRecDepth 10000
set_option maxHeartbeats 4000000 in
theorem smakeO_ok (es : MapL) (n k x : List Int) (hn1 : n.length ≤ 64) (hk : k.length ≤ 256) (hkw : WfB k) (hx : x.length ≤ 100000) (hxw : WfB x) (hf : findM es (strOfNums n) = some (.ints .u8 k)) (hs : sglB x = true) :
   Ct Tryz.prog 34 [.c (.ptr 0 0), B8 n, B8 x] [tabB, .map es] (.tup [.agg [.lf (.ints .u8 x), .lf (.ints .i64 hmO), .lf (.ints .u8 [5, 0]), .own 2 1 0 32], lv (.int .i64 0)]) [tabB, .map es] [.row (.ints .u8 (tagS k x))] := by
 have h1 := single_ok x hx hxw
 rw [hs] at h1
 have h2 := tget_ok es n k hn1 hk hf
 have h3 := tag_ok k [x] hkw (by omega) (by simpa using hxw) (by simp) (by simp; omega)
 rw [show [x].flatten = x by simp] at h3
 have h4 := clone_ok x (by omega)
 have h5 := hmac_ok
 have hdl : (tagS k x).length = 32 := digS_len _
 have hdw : WfB (tagS k x) := digS_wf _
 generalize tagS k x = D at *
 have hdn := ne32 hdl
 refine Ct_intro Tryz.func34 rfl rfl rfl rfl rfl (fun E hn hb => ?_)
 refine nxm ?_
 refine nxm ?_
 refine nxm ?_
 refine nxm ?_
 repeat (first | refine s_allocAN .u8 32 rfl rfl rfl (by rw [hn]; rfl) (by kernel_rfl) ?_ | refine nxm ?_)
 refine s_storeA rfl rfl rfl rfl rfl (by exact vcs) rfl (by rw [cellsOf46]; first | rfl | assumption | omega | kernel_rfl | (simp; done) | (simp; omega) | (simp at *; omega)) (by first | rfl | assumption | omega | kernel_rfl | (simp; done) | (simp; omega) | (simp at *; omega)) (by first | assumption | (simp; done) | exact List.cons_ne_nil _ _) ?_
 repeat refine nxm ?_
 refine dup1 (hp := ?_) ?_
 rotate_left
 · exact ⟨rfl, by omega, hdn, show 32 ≤ maxLen from by decide⟩
 repeat refine nxm ?_
 exact rt1 [74]
theorem tget_far (es : MapL) (n : List Int) (hn1 : n.length ≤ 9223372036854775807) (hf : findM es (strOfNums n) = none) :
   Ct Tryz.prog 65 [.c (.ptr 0 0), B8 n] [tabB, .map es] (.tup [B8 [], lv (.int .i64 14)]) [tabB, .map es] [] := by
 refine Ct_intro Tryz.func65 rfl rfl rfl rfl rfl (fun E hn hb => ?_)
 repeat refine nxm ?_
 exact rtU []
theorem smake_far (es : MapL) (n x : List Int) (hn1 : n.length ≤ 9223372036854775807) (hx : x.length ≤ 100000) (hxw : WfB x) (hf : findM es (strOfNums n) = none) (hs : sglB x = true) :
   Ct Tryz.prog 34 [.c (.ptr 0 0), B8 n, B8 x] [tabB, .map es] (.tup [sealA [] [] [] [], lv (.int .i64 14)]) [tabB, .map es] [] := by
 have h1 := single_ok x hx hxw
 rw [hs] at h1
 have h2 := tget_far es n hn1 hf
 refine Ct_intro Tryz.func34 rfl rfl rfl rfl rfl (fun E hn hb => ?_)
 repeat refine nxm ?_
 refine rtU [] (hu := ?_)
 exact ⟨⟨.inr ⟨rfl, .inl ⟨_, rfl⟩⟩, .inr ⟨rfl, .inl ⟨_, rfl⟩⟩, .inr ⟨rfl, .inl ⟨_, rfl⟩⟩, .inr ⟨rfl, .inl ⟨_, rfl⟩⟩, trivial⟩, .inl rfl, trivial⟩
theorem du3 {P : Program} {E : Env} {Q : Exit → Act → World → Prop} {σ : St} {id : Nat} {l : List Oper} {bs : List (List Nat × List Nat)} (ns : List Nat) (ws : List (Nat × Nat)) (h : DrawU P E l.toArray ns bs l (σ.kills ns) (fun τ => WL P E l.toArray Q [] τ)) (hm : P.follows .mixedOrders = true := by kernel_rfl)
   (hbs : forceB (badsU l.toArray ws 0 l) some = some bs := by exact rfl) (hB : drawU l.toArray l ns ws = true := by kernel_rfl) (h64 : ns.all (Nat.ble 64) = true := by exact rfl) : W P E (.region id l.toArray true) Q σ := W_drawU ns ws hm hB hbs h64 h
theorem dsi1 {P : Program} {E : Env} {ops : Array Oper} {o : Oper} {σ : St} {ns b own : List Nat} {bs : List (List Nat × List Nat)} {l : List Oper} {K : St → Prop} {t : TypeId} {x y : Operand} {px py : List Prop} {j off : Nat} {k : IntKind} {n : Int} {l1 : List Int} (hk : DrawU P E ops ns bs l (σ.seth j (.row (.ints k (l1.set off n)))) K) (hop : o.op = .store t x y := by exact rfl) (hg : o.guard = none := by exact rfl) (hdn : o.dst = none := by exact rfl) (hx : ox σ x = (px, .c (.ptr j off)) := by exact rfl) (hc : σ.hp j = .row (.ints k l1) := by exact rfl)
   (hy : ox σ y = (py, lv (.int k n)) := by exact rfl) (hb : memB j b = false := by exact rfl) (ho : memB j own = true := by exact rfl) (hsz : P.cellsOf t = 1 := by first | (simp; done) | fail) (hp : AllP (px ++ py) := by exact vcs) (hlt : off < l1.length := by first | assumption | omega) : DrawU P E ops ns ((b, own) :: bs) (o :: l) σ K := by
 refine DU_step (stepU_st hg hdn hb fun τ hox hj => stb_storeI hop hdn ((hox x (by rw [hop]; simp [Op.operands])).trans hx) ((hox y (by rw [hop]; simp [Op.operands])).trans hy) hp (hj.trans hc) hsz hlt) (own1 ho (by simp)) ?_
 rw [upd1, hdn]
 exact hk
def fstQ (f : List Int → Int) (fs : List (List Int)) (k : Nat) (fi : Int) : Prop := (fi = -1 ∧ ∀ j, k ≤ j → j < fs.length → ¬ f (fs.getD j []) = 0) ∨ ∃ a : Nat, fi = (a : Int) ∧ k ≤ a ∧ a < fs.length ∧ f (fs.getD a []) = 0 ∧ ∀ j, k ≤ j → j < a → ¬ f (fs.getD j []) = 0
theorem fstQ_next {f : List Int → Int} {fs : List (List Int)} {j : Nat} {fi : Int} (hj : j < fs.length) (h : fstQ f fs (j + 1) fi) : fstQ f fs j (if f (fs.getD j []) = 0 then (j : Int) else fi) := by
 by_cases h0 : f (fs.getD j []) = 0
 · rw [if_pos h0]
   exact .inr ⟨j, rfl, Nat.le_refl _, hj, h0, fun i h1 h2 => by omega⟩
 · rw [if_neg h0]
   have key : ∀ i, j ≤ i → ¬ (j + 1 ≤ i) → ¬ f (fs.getD i []) = 0 := fun i h1 h2 => by
     obtain rfl : i = j := by omega
     exact h0
   rcases h with ⟨h1, h2⟩ | ⟨a, h1, h2, h3, h4, h5⟩
   · exact .inl ⟨h1, fun i h3 h4 => by
       by_cases h5 : j + 1 ≤ i
       · exact h2 i h5 h4
       · exact key i h3 h5⟩
   · exact .inr ⟨a, h1, by omega, h3, h4, fun i h6 h7 => by
       by_cases h8 : j + 1 ≤ i
       · exact h5 i h8 h7
       · exact key i h6 h8⟩
theorem fstQ_by {L : List PairT} {t o m s : List Int} {fs : List (List Int)} {fi : Int} (h : fstQ (fun r => chkR L r t o m s) fs 0 fi) : (fi = -1 ∧ byR L t o m s fs = ([], 13)) ∨ ∃ a : Nat, fi = (a : Int) ∧ a < fs.length ∧ byR L t o m s fs = (fs.getD a [], 0) := by
 rcases h with ⟨h1, h2⟩ | ⟨a, h1, h2, h3, h4, h5⟩
 · refine .inl ⟨h1, ?_⟩
   rw [byR_drop L t o m s fs fs.length (Nat.le_refl _) fun j hj => h2 j (Nat.zero_le _) hj, List.drop_length]
   rfl
 · refine .inr ⟨a, h1, h3, ?_⟩
   rw [byR_drop L t o m s fs a (by omega) fun j hj => h5 j (Nat.zero_le _) hj, List.drop_eq_getElem_cons h3, byR]
   have e : fs[a] = fs.getD a [] := by rw [List.getD_eq_getElem?_getD, List.getElem?_eq_getElem h3]; rfl
   rw [e, if_pos h4]
abbrev sealC (z : List Int × List Int × List Int × List Int) : Blk := .cells [.lf (.ints .u8 z.1), .lf (.ints .i64 z.2.1), .lf (.ints .u8 z.2.2.1), .lf (.ints .u8 z.2.2.2)]
def sealW (z : List Int × List Int × List Int × List Int) : Prop := (z.1.length ≤ 1000 ∧ WfB z.1) ∧ z.2.1.length ≤ 1000 ∧ (z.2.2.1.length ≤ 1000 ∧ WfB z.2.2.1) ∧ (z.2.2.2.length ≤ 1000 ∧ WfB z.2.2.2)
set_option maxHeartbeats 32000000 in
theorem checks19_ok (l : List PairT) (t0 o0 m0 s0 : List Int) (rs : List (List Int)) (wh tu : Int) (hl : l.length ≤ 9223372036854775807) (ht0 : t0.length ≤ 9223372036854775807) (ho0 : o0.length ≤ 9223372036854775807) (hm0 : m0.length ≤ 9223372036854775807) (hs0 : s0.length ≤ 9223372036854775807) (hrl : rs.length ≤ 9223372036854775807)
   (hw : ∀ p ∈ l, (p.1.length ≤ 9223372036854775807 ∧ WfB p.1) ∧ (p.2.length ≤ 9223372036854775807 ∧ WfB p.2)) (hwt0 : WfB t0) (hwm0 : WfB m0) (hws0 : WfB s0) (hrs : ∀ r ∈ rs, r.length ≤ 9223372036854775807 ∧ WfB r) (hwh : -9223372036854775808 ≤ wh ∧ wh < 9223372036854775808) (htu : -9223372036854775808 ≤ tu ∧ tu < 9223372036854775808) :
   Ct Tryz.prog 5 [.c (.lf (.recs 2 (l.map prL))), sealA t0 o0 m0 s0, rowsA rs, lv (.int .i64 wh), lv (.int .i64 tu)] [] (lv (.bool true)) [] [] := by
 have hkn := known19_ok
 have htb := tables_ok l hl hw
 obtain ⟨al, rt, le1, le2⟩ := good_tabs l (fun p hp => ⟨(hw p hp).1.2, (hw p hp).2.2⟩)
 generalize tabsT l = T at *
 obtain ⟨es, L⟩ := T
 dsimp only at *
 have hls : ∀ q ∈ L, q.1.length ≤ 1000000 := fun q hq => by have := (rt q hq).1; omega
 have hto := sto_ok t0 o0 m0 s0 ht0 ho0 hm0 hs0
 have hz : sealW (t0.take (min (t0.length : Int) 500).toNat, o0.take (min (o0.length : Int) 40).toNat, m0.take (min (m0.length : Int) 200).toNat, s0.take (min (s0.length : Int) 100).toNat) :=
   ⟨⟨by simp; omega, wfl_take hwt0 _⟩, by simp; omega, ⟨by simp; omega, wfl_take hwm0 _⟩, ⟨by simp; omega, wfl_take hws0 _⟩⟩
 generalize t0.take (min (t0.length : Int) 500).toNat = t at *
 generalize o0.take (min (o0.length : Int) 40).toNat = o at *
 generalize m0.take (min (m0.length : Int) 200).toNat = m at *
 generalize s0.take (min (s0.length : Int) 100).toNat = s at *
 refine Ct_intro Tryz.func5 rfl rfl rfl rfl rfl (fun E hn hb => ?_)
 repeat refine nxm ?_
 refine W_own_nil 14 900 1 (.recs 1 []) rfl rfl (.inr (.inr ⟨_, rfl⟩)) ?_
 refine W_weaken (St.le_of (l := [(0, .c (.lf (.recs 2 (l.map prL)))), (2, rowsA rs), (3, lv (.int .i64 wh)), (4, lv (.int .i64 tu)), (11, .c (.ptr 91 0)), (12, .c (.ptr 2091 0)), (13, .c (.ptr 77 0)), (14, .c (.own 900 1 0 0)), (15, lv (.int .i64 ((0 : Nat) : Int)))]) (h := [(77, sealC (t, o, m, s)), (91, .cells [.map 1091]), (900, .row (.recs 1 [])), (1091, .map es), (2091, .cells [.own 3091 2 0 L.length]), (3091, rowP L)]) (by refine ⟨?_, ?_⟩ <;> (repeat' (first | exact trivial | exact rfl | refine ⟨?_, ?_⟩)) <;> first | exact rfl | (simp; done) | skip)) ?_
 refine W_loop (ι := {i : Nat // i ≤ rs.length ∧ i ≤ 10}) (fun i => St.of [(0, .c (.lf (.recs 2 (l.map prL)))), (2, rowsA rs), (3, lv (.int .i64 wh)), (4, lv (.int .i64 tu)), (11, .c (.ptr 91 0)), (12, .c (.ptr 2091 0)), (13, .c (.ptr 77 0)), (14, .c (.own 900 1 0 (recB ((rs.take i.1).map (·.take 100))).length)), (15, lv (.int .i64 (i.1 : Int)))] [(77, sealC (t, o, m, s)), (91, .cells [.map 1091]), (900, .row (.recs 1 (recB ((rs.take i.1).map (·.take 100))))), (1091, .map es), (2091, .cells [.own 3091 2 0 L.length]), (3091, rowP L)]) (fun i => 10 - i.1) (fun i => ?_) ⟨0, by omega, by omega⟩
 obtain ⟨i, hi, hi10⟩ := i
 dsimp only
 by_cases hi2 : i < rs.length ∧ i < 10
 · have h1 := few_next rs i hi2.1
   have h2 := min100 (rs.getD ((i : Nat) : Int).toNat [])
   generalize hacc : (rs.take i).map (·.take 100) = acc at *
   have hrec : recB (acc ++ [(rs.getD i []).take 100]) = recB acc ++ [[.ints .u8 ((rs.getD i []).take 100)]] := by simp [recB]
   have hal : acc.length ≤ 10 := by rw [← hacc]; simp; omega
   repeat refine nxw ?_
   refine W_drawW 13 (by kernel_rfl) (by kernel_rfl) (by kernel_rfl) (by rw [hn]; rfl) rfl rfl ?_
   repeat refine nx ?_
   rw [h2]
   repeat refine nx ?_
   refine N_round ⟨i + 1, by omega, by omega⟩ (by dsimp only; omega) (St.le_of ⟨⟨rfl, rfl, rfl, rfl, rfl, rfl, rfl, ?_, rfl⟩, ⟨rfl, rfl, ?_, rfl, rfl, rfl⟩⟩)
   · dsimp only; rw [h1, hrec]; rfl
   · dsimp only; rw [h1, hrec]; rfl
 · have h1 : (rs.take i).map (·.take 100) = fewR rs := by
     unfold fewR
     by_cases h : i = 10
     · rw [h]
     · rw [List.take_of_length_le (show rs.length ≤ i by omega), List.take_of_length_le (show rs.length ≤ 10 by omega)]
   rw [h1]
   refine frzW 14 ?_
   repeat refine nxm ?_
   rw [List.length_map]
   refine W_joinF (ι := {z : List Int × List Int × List Int × List Int // sealW z}) (fun z => St.of [(11, .c (.ptr 91 0)), (12, .c (.ptr 2091 0)), (13, .c (.ptr 77 0)), (14, rowsA (fewR rs))] [(77, sealC z.1), (91, .cells [.map 1091]), (1091, .map es), (2091, .cells [.own 3091 2 0 L.length]), (3091, rowP L)]) ?_ (fun z => ?_)
   · refine W_cond rfl (by simp) (fun hq => ?_) (fun hq => ?_)
     · have hl0 : 0 < l.length := by simp at hq; omega
       have hlm : (l.map prL).length = l.length := List.length_map ..
       repeat refine nxm ?_
       refine sp false rfl rfl (by rw [hn]; rfl) (by simp) ?_
       have hU : 0 ≤ IntKind.u64.wrap wh ∧ IntKind.u64.wrap wh < 18446744073709551616 := by simp only [IntKind.wrap, IntKind.signed, IntKind.bits]; simp; omega
       generalize IntKind.u64.wrap wh = U at *
       repeat refine nxm ?_
       rw [hlm]
       obtain ⟨N, hN⟩ : ∃ N, l.length = N := ⟨_, rfl⟩
       rw [hN]
       have hN0 : 0 < N := by omega
       repeat refine nxm ?_
       have hR : 0 ≤ U % (N : Int) ∧ U % (N : Int) < (N : Int) := ⟨Int.emod_nonneg _ (by omega), Int.emod_lt_of_pos _ (by omega)⟩
       generalize U % (N : Int) = R at *
       obtain ⟨p, rfl⟩ : ∃ p : Nat, R = p := ⟨R.toNat, by omega⟩
       have hp : p < l.length := by omega
       have hpm : l.getD p ([], []) ∈ l := by
         rw [List.getD_eq_getElem?_getD, List.getElem?_eq_getElem hp]
         exact List.getElem_mem hp
       have hq2 : l.getD (p : Int).toNat default = l.getD p ([], []) := rfl
       have hpw := hw _ hpm
       generalize l.getD p ([], []) = kp at *
       repeat (first | refine nxm ?_ | rw [hq2])
       have hz3 := hz
       obtain ⟨⟨z1, z2⟩, z3, ⟨z4, z5⟩, ⟨z6, z7⟩⟩ := hz3
       dsimp only at z1 z2 z3 z4 z5 z6 z7 ⊢
       have hlk := al kp.1 hpw.1.2
       cases hs : sglB t with
       | false =>
         have m1 := smake_arg es kp.1 t (by omega) z2 hs
         repeat refine nxm ?_
         refine N_joinF ⟨(t, o, m, s), hz⟩ (St.le_of ⟨⟨rfl, rfl, rfl, rfl⟩, ⟨rfl, rfl, rfl, rfl, rfl⟩⟩)
       | true =>
         cases hg : gtR L kp.1 with
         | none =>
           rw [hg] at hlk
           have m1 := smake_far es kp.1 t hpw.1.1 (by omega) z2 hlk hs
           repeat refine nxm ?_
           refine N_joinF ⟨(t, o, m, s), hz⟩ (St.le_of ⟨⟨rfl, rfl, rfl, rfl⟩, ⟨rfl, rfl, rfl, rfl, rfl⟩⟩)
         | some k =>
           rw [hg] at hlk
           obtain ⟨r, hr, hr1, hr2⟩ := gt_name hg
           obtain ⟨b1, b2, b3⟩ := rt r hr
           rw [hr1] at b1
           rw [hr2] at b2 b3
           have m1 := smakeO_ok es kp.1 k t b1 b2 b3 (by omega) z2 hlk hs
           have hdl : (tagS k t).length = 32 := digS_len _
           have hdw : WfB (tagS k t) := digS_wf _
           generalize tagS k t = D at *
           by_cases ht2 : 0 < tu
           · repeat (first | refine du3 (id := 14) [] [(13, 138)] ?_ | refine nxm ?_)
             refine DU_op rfl (by rw [hn]; rfl) (ops_pure false rfl rfl (by simp)) ?_
             have hV : 0 ≤ IntKind.u8.wrap tu ∧ IntKind.u8.wrap tu < 256 := by simp only [IntKind.wrap, IntKind.signed, IntKind.bits]; simp; omega
             generalize IntKind.u8.wrap tu = V at *
             repeat refine nxm ?_
             have hR2 : 0 ≤ tu % ((32 : Nat) : Int) ∧ tu % ((32 : Nat) : Int) < 32 := ⟨Int.emod_nonneg _ (by decide), Int.emod_lt_of_pos _ (by decide)⟩
             generalize tu % ((32 : Nat) : Int) = R2 at *
             have hi3 : 0 + R2.toNat < D.length := by omega
             obtain ⟨x1, x2, x3⟩ := xor8 (wf_get hdw (0 + R2.toNat)) hV
             rw [x1]
             generalize xI (D.getD (0 + R2.toNat) 0) V = X at *
             repeat refine nxm ?_
             refine dsi1 ?_
             repeat refine nxm ?_
             refine frcN3 138 77 ?_ (hp := ?_)
             rotate_left
             · show 32 = (D.set (0 + R2.toNat) X).length
               rw [List.length_set]; exact hdl.symm
             refine N_joinF ⟨(t, hmO, [5, 0], D.set (0 + R2.toNat) X), ⟨⟨z1, z2⟩, show hmO.length ≤ 1000 from by decide, ⟨show [(5 : Int), 0].length ≤ 1000 from by decide, show WfB [5, 0] from wf18 (by decide +kernel)⟩, ⟨by dsimp only; rw [List.length_set]; omega, fun y hy => (List.mem_or_eq_of_mem_set hy).elim (fun h => hdw y h) (fun h => by rw [h]; exact ⟨x2, x3⟩)⟩⟩⟩ (St.le_of ⟨⟨rfl, rfl, rfl, rfl⟩, ⟨rfl, rfl, rfl, rfl, rfl⟩⟩)
           · repeat refine nxm ?_
             refine frcN3 138 77 ?_ (hp := ?_)
             rotate_left
             · exact hdl.symm
             refine N_joinF ⟨(t, hmO, [5, 0], D), ⟨⟨z1, z2⟩, show hmO.length ≤ 1000 from by decide, ⟨show [(5 : Int), 0].length ≤ 1000 from by decide, show WfB [5, 0] from wf18 (by decide +kernel)⟩, ⟨by dsimp only; omega, hdw⟩⟩⟩ (St.le_of ⟨⟨rfl, rfl, rfl, rfl⟩, ⟨rfl, rfl, rfl, rfl, rfl⟩⟩)
     · repeat refine nxm ?_
       refine N_joinF ⟨(t, o, m, s), hz⟩ (St.le_of ⟨⟨rfl, rfl, rfl, rfl⟩, ⟨rfl, rfl, rfl, rfl, rfl⟩⟩)
   · obtain ⟨⟨t, o, m, s⟩, hz2⟩ := z
     obtain ⟨⟨z1, z2⟩, z3, ⟨z4, z5⟩, ⟨z6, z7⟩⟩ := hz2
     dsimp only at z1 z2 z3 z4 z5 z6 z7 ⊢
     have f1 := sof_ok t o m s
     have hf10 := fewR_len rs
     have hfw : ∀ r ∈ fewR rs, r.length ≤ 100 ∧ WfB r := fun r hr => by
       unfold fewR at hr
       obtain ⟨q, hq1, rfl⟩ := List.mem_map.1 hr
       exact ⟨by simp; omega, wfl_take (hrs q (List.mem_of_mem_take hq1)).2 _⟩
     generalize fewR rs = fs at *
     have hfl : (fs.map fun b => [Leaf.ints .u8 b]).length = fs.length := List.length_map ..
     have hby := by_ok es L t o m s fs al rt (by omega) (fun r hr => ⟨by have := (hfw r hr).1; omega, (hfw r hr).2⟩) (by omega) z2 (by omega) (by omega) z5 (by omega) z7
     repeat refine nxm ?_
     rw [hfl]
     repeat refine nxm ?_
     refine W_weaken (St.le_of (l := [(11, .c (.ptr 91 0)), (12, .c (.ptr 2091 0)), (13, .c (.ptr 77 0)), (14, rowsA fs), (19, .c (.ptr 83 0)), (20, lv (.int .i64 (-1))), (21, lv (.int .i64 ((fs.length : Int) - 1)))]) (h := [(77, sealC (t, o, m, s)), (83, sealC (t, o, m, s)), (91, .cells [.map 1091]), (1091, .map es), (2091, .cells [.own 3091 2 0 L.length]), (3091, rowP L)]) (by refine ⟨?_, ?_⟩ <;> (repeat' (first | exact trivial | exact rfl | refine ⟨?_, ?_⟩)) <;> first | exact rfl | (simp; done) | skip)) ?_
     refine W_loop (ι := {q : Nat × Int // q.1 ≤ fs.length ∧ fstQ (fun r => chkR L r t o m s) fs q.1 q.2}) (fun q => St.of [(11, .c (.ptr 91 0)), (12, .c (.ptr 2091 0)), (13, .c (.ptr 77 0)), (14, rowsA fs), (19, .c (.ptr 83 0)), (20, lv (.int .i64 q.1.2)), (21, lv (.int .i64 ((q.1.1 : Int) - 1)))] [(77, sealC (t, o, m, s)), (83, sealC (t, o, m, s)), (91, .cells [.map 1091]), (1091, .map es), (2091, .cells [.own 3091 2 0 L.length]), (3091, rowP L)]) (fun q => q.1.1) (fun q => ?_) ⟨(fs.length, -1), Nat.le_refl _, .inl ⟨rfl, fun j h1 h2 => by omega⟩⟩
     obtain ⟨⟨k, fi⟩, hk, hQ⟩ := q
     dsimp only at hk hQ ⊢
     cases k with
     | succ j =>
       rw [show ((j + 1 : Nat) : Int) - 1 = (j : Int) by omega]
       have hm2 : fs.getD j [] ∈ fs := by
         rw [List.getD_eq_getElem?_getD, List.getElem?_eq_getElem (by omega)]
         exact List.getElem_mem (by omega)
       have hc1 := scheck_all es L (fs.getD j []) t o m s al rt (by have := (hfw _ hm2).1; omega) (hfw _ hm2).2 (by omega) z2 (by omega) (by omega) z5 (by omega) z7
       have hc2 := rscheck_all L (fs.getD j []) t o m s rt (by omega) (by have := (hfw _ hm2).1; omega) (by omega) z2 (by omega) (by omega) (by omega)
       have hq : fs.getD (j : Int).toNat [] = fs.getD j [] := rfl
       have hst := fstQ_next (f := fun r => chkR L r t o m s) (by omega) hQ
       generalize chkR L (fs.getD j []) t o m s = c at *
       repeat (first | refine nxm ?_ | rw [hq])
       refine DU_cl [91, 1091] hn hc1 rfl rfl rfl rfl rfl ⟨rfl, ⟨rfl, rfl⟩, by simp [ordL], rfl⟩ (by first | trivial | (simp; done)) ?_
       repeat (first | refine nxm ?_ | rw [hq])
       refine DU_cl [2091, 3091] hn hc2 rfl rfl rfl rfl rfl ⟨rfl, ⟨rfl, rfl⟩, by simp [ordL], rfl⟩ (by first | trivial | (simp; done)) ?_
       by_cases h0 : c = 0
       · subst h0
         rw [if_pos rfl] at hst
         repeat (first | refine nxm ?_ | rw [hq])
         refine N_round ⟨(j, (j : Int)), by omega, hst⟩ (by dsimp only; omega) (St.le_of ⟨⟨rfl, rfl, rfl, rfl, rfl, rfl, rfl⟩, ⟨rfl, rfl, rfl, rfl, rfl, rfl⟩⟩)
       · rw [if_neg h0] at hst
         repeat (first | refine nxm ?_ | rw [hq])
         refine N_round ⟨(j, fi), by omega, hst⟩ (by dsimp only; omega) (St.le_of ⟨⟨rfl, rfl, rfl, rfl, rfl, rfl, rfl⟩, ⟨rfl, rfl, rfl, rfl, rfl, rfl⟩⟩)
     | zero =>
       rw [show ((0 : Nat) : Int) - 1 = -1 by rfl]
       rcases fstQ_by hQ with ⟨rfl, hb2⟩ | ⟨a, rfl, ha, hb2⟩
       · rw [hb2] at hby
         dsimp only at hby
         repeat refine nxm ?_
         refine rt2 [] (congrArg (fun x => lv (.bool x)) ?_) trivial; (simp [eqCs, Cell.kill, Cell.kill1])
       · rw [hb2] at hby
         dsimp only at hby
         have hq : fs.getD (a : Int).toNat [] = fs.getD a [] := rfl
         have hm2 : fs.getD a [] ∈ fs := by
           rw [List.getD_eq_getElem?_getD, List.getElem?_eq_getElem (by omega)]
           exact List.getElem_mem (by omega)
         have hsm := same_ok (fs.getD a []) (fs.getD a []) (by have := (hfw _ hm2).1; omega) (by have := (hfw _ hm2).1; omega)
         rw [decide_eq_true rfl] at hsm
         generalize fs.getD a [] = r at *
         repeat (first | refine nxm ?_ | rw [hq])
         refine rt2 [] (congrArg (fun x => lv (.bool x)) ?_) trivial; (simp [eqCs, Cell.kill, Cell.kill1])
end Go.Proofs.YthoaneleeabadaaGreat

namespace Go.Sx
open Go
open Go.ChangeShapes Go.WideShapes Go.ChangeAt Go.RowKit Go.Joins Go.Deep
set_option linter.unusedVariables false
section
variable {H : Type} {enc : TypeId × Value → H} {P : Program} {w : World} {base : Nat} {spare : Nat → Bool} {held : Bool} {fuel : Nat}
def LeavesR (w : World) (cs : List Value) (ls : List Leaf) : Prop := cs.length = ls.length ∧ ∀ (j : Nat) (z : Leaf), ls[j]? = some z → ∃ u, cs[j]? = some u ∧ LfR (Was w) w z u
theorem open_recs {α : Type} {t e : TypeId} {sz : Nat} {f : α → List Leaf} {Φ : α → Prop} {v : Value} {x : DataW H × List MemPlace} (ht : P.underlying t = some (.slice e)) (hc : P.cellsOf e = sz) (hsz : sz ≠ 0)
   (hel : ∀ n cs y, cs.length = sz → DataW.trod enc P w base spare held n e cs = some y → ∃ a, Φ a ∧ (f a).length = sz ∧ LeavesR w cs (f a)) (h : DataW.trod enc P w base spare held fuel t [v] = some x) :
   ∃ l : List α, l.length ≤ 9223372036854775807 ∧ (∀ a ∈ l, Φ a) ∧ LfR (Was w) w (.recs sz (l.map f)) v := by
 rcases DataW.trod_slice ht h with ⟨hcs, _⟩ | ⟨a, len, cap, elems, rest, n, _, hcs, _, hb, hl, hm, hlen, hel2, hsp, hns⟩
 · simp at hcs
   subst hcs
   exact ⟨[], by simp, fun a h => (by cases h), LfR.recs _ _ _ _ _ (fun _ _ => undef) rfl (Nat.le_refl _) (Nat.zero_le _) (fun r h => by cases h) (fun h => absurd rfl h) (fun i r j x h => by simp at h)⟩
 · simp at hcs
   subst hcs
   have each : ∀ i : _root_.Fin len, ∃ a' : α, Φ a' ∧ (f a').length = sz ∧ ∀ (j : Nat) (z : Leaf), (f a')[j]? = some z → ∃ u, w.cell? ((a.add (i.val * sz)).add j) = some u ∧ LfR (Was w) w z u := by
     intro i
     have h1 := hel2 i.val i.isLt
     rw [hc] at h1
     have h2 : elems[i.val]? = some elems[i.val] := by simp [hlen]
     rw [h2] at h1
     obtain ⟨cs, e1, e2⟩ := Option.bind_eq_some_iff.1 h1
     obtain ⟨q1, q2, q3⟩ := World.cells?_some e1
     obtain ⟨a', p1, p2, p3, p4⟩ := hel n cs _ q2 e2
     refine ⟨a', p1, p2, fun j z hz => ?_⟩
     obtain ⟨u, u1, u2⟩ := p4 j z hz
     have hj : j < sz := by
       have := (List.getElem?_eq_some_iff.1 hz).1
       omega
     refine ⟨u, ?_, u2⟩
     rw [q3 j hj]
     exact u1
   obtain ⟨g, hg⟩ := Classical.axiomOfChoice each
   have hm' : cap ≤ 9223372036854775807 := hm
   refine ⟨List.ofFn g, by simp; omega, fun a' ha => ?_, ?_⟩
   · obtain ⟨i, rfl⟩ := (List.mem_ofFn).1 ha
     exact (hg i).1
   · have hget : ∀ (i : Nat) (r : List Leaf), ((List.ofFn g).map f)[i]? = some r → ∃ hi : i < len, r = f (g ⟨i, hi⟩) := by
       intro i r hr
       rw [List.getElem?_map, Option.map_eq_some_iff] at hr
       obtain ⟨q, hq, rfl⟩ := hr
       rw [List.getElem?_ofFn] at hq
       split at hq
       · rename_i hi
         exact ⟨hi, by rw [← Option.some.inj hq]⟩
       · cases hq
     obtain ⟨b, o, sp⟩ := a
     have hone : 0 < len → sp = none ∧ b < w.heap.size := by
       intro h0
       obtain ⟨_, p2, p3⟩ := hg ⟨0, h0⟩
       obtain ⟨z, hz⟩ : ∃ z, (f (g ⟨0, h0⟩))[0]? = some z := ⟨(f (g ⟨0, h0⟩))[0]'(by omega), by simp⟩
       obtain ⟨u, u1, _⟩ := p3 0 z hz
       have := cell_in u1
       simp [Addr.add] at this
       exact ⟨this.2, this.1⟩
     refine LfR.recs _ _ _ _ _ (fun i j => (w.cell? ⟨b, o + i * sz + j, none⟩).getD undef) (by simp) hl hm (fun r hr => ?_) (fun hne => ?_) (fun i r j x hi hj => ?_)
     · obtain ⟨a', ha, rfl⟩ := List.mem_map.1 hr
       obtain ⟨i, rfl⟩ := (List.mem_ofFn).1 ha
       exact (hg i).2.1
     · have h0 : 0 < len := by
         rcases Nat.eq_zero_or_pos len with h | h
         · subst h; simp at hne
         · exact h
       obtain ⟨rfl, hb1⟩ := hone h0
       refine ⟨b, o, rfl, hb1, fun i r j x hi hj => ?_⟩
       obtain ⟨hi', rfl⟩ := hget i r hi
       obtain ⟨u, u1, _⟩ := (hg ⟨i, hi'⟩).2.2 j x hj
       rw [add_none, add_none] at u1
       rw [u1]; rfl
     · obtain ⟨hi', rfl⟩ := hget i r hi
       obtain ⟨rfl, hb1⟩ := hone (by omega)
       obtain ⟨u, u1, u2⟩ := (hg ⟨i, hi'⟩).2.2 j x hj
       rw [add_none, add_none] at u1
       rw [u1]; exact u2
theorem open_rowsB {t e e2 : TypeId} {v : Value} {d : DataW H} {p : List MemPlace} (ht : P.underlying t = some (.slice e)) (he : P.underlying e = some (.slice e2)) (he2 : P.underlying e2 = some (.int .u8)) (hc : P.cellsOf e = 1) (hc2 : P.cellsOf e2 = 1) {r : Reach} {b0 : Nat} (hv : Value.okWide P w r b0 t v)
   (h : DataW.Trod enc P w base spare held t v d p) : ∃ l : List (List Int), l.length ≤ 9223372036854775807 ∧ (∀ b ∈ l, b.length ≤ 9223372036854775807 ∧ ∀ n ∈ b, 0 ≤ n ∧ n < 256) ∧ ∀ β, AvR β (Was w) w (.c (.lf (.recs 1 (l.map fun b => [.ints .u8 b])))) v := by
 obtain ⟨a, n, c, rfl⟩ := okWide_slice ht hv
 obtain ⟨fuel, h⟩ := h
 simp only [Value.cells] at h
 obtain ⟨l, h1, h2, h3⟩ := open_recs (f := fun b => [Leaf.ints .u8 b]) (Φ := fun b => b.length ≤ 9223372036854775807 ∧ ∀ n ∈ b, 0 ≤ n ∧ n < 256) ht hc (by decide) (fun n cs y hcs hy => by
   match cs, hcs with
   | [u], _ =>
     obtain ⟨b, q1, q2, q3⟩ := open_row he he2 hc2 hy
     refine ⟨b, ⟨q1, fun n hn => wf_u8 (q2 n hn)⟩, rfl, rfl, fun j z hz => ?_⟩
     cases j with
     | zero => simp at hz; subst hz; exact ⟨u, rfl, q3⟩
     | succ j => simp at hz) h
 exact ⟨l, h1, h2, fun β => .c (.lf h3)⟩
theorem cell_bytes {ty e : TypeId} (ht : P.underlying ty = some (.slice e)) (he : P.underlying e = some (.int .u8)) (hc : P.cellsOf e = 1) : ∀ n c y, DataW.trod enc P w base spare held n ty [c] = some y → ∃ x : List Int, (x.length ≤ 9223372036854775807 ∧ ∀ n ∈ x, 0 ≤ n ∧ n < 256) ∧ LfR (Was w) w (.ints .u8 x) c := by
 intro n c y h
 obtain ⟨l, h1, h2, h3⟩ := open_row ht he hc h
 exact ⟨l, ⟨h1, fun n hn => wf_u8 (h2 n hn)⟩, h3⟩
theorem cell_ints {k : IntKind} {ty e : TypeId} (ht : P.underlying ty = some (.slice e)) (he : P.underlying e = some (.int k)) (hc : P.cellsOf e = 1) : ∀ n c y, DataW.trod enc P w base spare held n ty [c] = some y → ∃ x : List Int, (x.length ≤ 9223372036854775807 ∧ ∀ n ∈ x, (Lit.int k n).wf = true) ∧ LfR (Was w) w (.ints k x) c := by
 intro n c y h
 obtain ⟨l, h1, h2, h3⟩ := open_row ht he hc h
 exact ⟨l, ⟨h1, h2⟩, h3⟩
end
end Go.Sx

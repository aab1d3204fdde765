/-
  Seals checked, of whatever algorithm, by the program and by the document; by which key. The conditions: rows that a machine can hold.
-/
import Derived.Test.YthoaneleeabadaaGreatA41
namespace Go.Proofs.YthoaneleeabadaaGreat
set_option linter.unusedSimpArgs false
set_option linter.unusedVariables false
open Go.Sx
set_option maxRecDepth 10000
theorem likealg2 (o m o' m' : List Int) (ho : o.length ≤ 1000000) (hm : m.length ≤ 1000000) (ho' : o'.length ≤ 1000000) (hm' : m'.length ≤ 1000000) : Ct Tryz.prog 18 [algA o m, algA o' m'] [] (lv (.bool (decide (o = o' ∧ m = m')))) [] [] := by
 have h1 := refSame_ok o o' ho ho'
 have h2 := same_ok m m' hm hm'
 by_cases e1 : o = o'
 · rw [decide_eq_true e1] at h1
   by_cases e2 : m = m'
   · rw [decide_eq_true e2] at h2
     rw [decide_eq_true ⟨e1, e2⟩]
     refine Ct_intro Tryz.func18 rfl rfl rfl rfl rfl (fun E hn hb => ?_)
     repeat refine nx ?_
     refine rt2 [] (congrArg (fun x => lv (.bool x)) ?_) trivial; (simp [eqCs, Cell.kill, Cell.kill1])
   · rw [decide_eq_false e2] at h2
     rw [decide_eq_false (fun e => e2 e.2)]
     refine Ct_intro Tryz.func18 rfl rfl rfl rfl rfl (fun E hn hb => ?_)
     repeat refine nx ?_
     refine rt2 [] (congrArg (fun x => lv (.bool x)) ?_) trivial; (simp [eqCs, Cell.kill, Cell.kill1])
 · rw [decide_eq_false e1] at h1
   rw [decide_eq_false (fun e => e1 e.1)]
   generalize decide (m = m') = b2 at *
   refine Ct_intro Tryz.func18 rfl rfl rfl rfl rfl (fun E hn hb => ?_)
   repeat refine nx ?_
   refine rt2 [] (congrArg (fun x => lv (.bool x)) ?_) trivial; (simp [eqCs, Cell.kill, Cell.kill1])
theorem wrG_inj {o m o' m' : List Int} (hw : WfB m) (hw' : WfB m') (hg : rightG o m = true) (hg' : rightG o' m' = true) (hm : m.length ≤ 100000) (hm' : m'.length ≤ 100000) (h : (wrG o m).1 = (wrG o' m').1) : o = o' ∧ m = m' := by
 have f1 := algR_fwd [] [] hw hg hm
 have f2 := algR_fwd [] [] hw' hg' hm'
 unfold wrG at h
 rw [if_pos hg, if_pos hg'] at h
 dsimp only at h
 rw [h] at f1
 rw [f1] at f2
 simp only [Prod.mk.injEq] at f2
 exact ⟨f2.1, f2.2.1⟩
theorem samealg2 (o m : List Int) (ho : o.length ≤ 1000000) (hm : m.length ≤ 100000) (hw : WfB m) : Ct Tryz.prog 66 [algA o m, algA hmO [5, 0]] [] (lv (.bool (decide (o = hmO ∧ m = [5, 0])))) [] [] := by
 have hw5 : WfB [5, 0] := wf18 (by decide +kernel)
 cases hr : rightG o m with
 | true =>
   have h := samealg_ok o m hmO [5, 0] ho hm hw (by decide) (by decide) hw5 hr ex19_g
   have e : decide ((wrG o m).1 = (wrG hmO [5, 0]).1) = decide (o = hmO ∧ m = [5, 0]) := decide_eq_decide.2 ⟨fun h => wrG_inj hw hw5 hr ex19_g hm (by decide) h, fun h => by rw [h.1, h.2]⟩
   rw [e] at h
   exact h
 | false =>
   have hne : ¬ (o = hmO ∧ m = [5, 0]) := fun e => by rw [e.1, e.2, ex19_g] at hr; cases hr
   rw [decide_eq_false hne]
   have h1 := wralg_ok o m ho hm hw
   have h2 := wralg_ok hmO [5, 0] (by decide) (by decide) hw5
   unfold wrG at h1 h2
   rw [if_neg (by simp [hr])] at h1
   rw [if_pos ex19_g] at h2
   have l1 := wrap_len (ofT 16) (wrapL (ofT 6) (arcsL (numsL hmO)) ++ [5, 0])
   have wl := whole_len (rightG_o ex19_g)
   rw [List.length_append] at l1
   dsimp only at *
   generalize wrapL (ofT 16) (wrapL (ofT 6) (arcsL (numsL hmO)) ++ [5, 0]) = X at *
   have heq := equal_ok [] X (by simp) (by simp at l1; omega)
   generalize decide (([] : List Int) = X) = b2 at *
   refine Ct_intro Tryz.func66 rfl rfl rfl rfl rfl (fun E hn hb => ?_)
   repeat refine nx ?_
   refine rt2 [] (congrArg (fun x => lv (.bool x)) ?_) trivial; (simp [eqCs, Cell.kill, Cell.kill1])
def chkR (L : List PairT) (n t o m s : List Int) : Int := if o = hmO ∧ m = [5, 0] then (match gtR L n with | some k => chkZ k t o m s | none => 14) else 13
theorem scheck_all (es : MapL) (L : List PairT) (n t o m s : List Int) (al : alikeT es L) (rt : rightT2 L) (hn1 : n.length ≤ 100000) (hwn : WfB n) (ht : t.length ≤ 100000) (hwt : WfB t) (ho : o.length ≤ 1000000) (hm : m.length ≤ 100000) (hw : WfB m) (hs : s.length ≤ 100000) (hws : WfB s) :
   Ct Tryz.prog 39 [.c (.ptr 0 0), B8 n, sealA t o m s] [tabB, .map es] (lv (.int .i64 (chkR L n t o m s))) [tabB, .map es] [] := by
 have hlk := al n hwn
 unfold chkR
 by_cases e : o = hmO ∧ m = [5, 0]
 · rw [if_pos e]
   obtain ⟨rfl, rfl⟩ := e
   cases hg : gtR L n with
   | none =>
     rw [hg] at hlk
     exact scheck_none es n t hmO [5, 0] s (by omega) ho hm hw hlk ex19_g rfl
   | some k =>
     rw [hg] at hlk
     obtain ⟨r, hr, hr1, hr2⟩ := gt_name hg
     obtain ⟨b1, b2, b3⟩ := rt r hr
     rw [hr1] at b1
     rw [hr2] at b2 b3
     exact scheck_ok es n k t hmO [5, 0] s b1 b2 b3 ht hwt ho hm hw hs hws hlk ex19_g rfl
 · rw [if_neg e]
   have h1 := hmac_ok
   have h2 := samealg2 o m ho hm hw
   rw [decide_eq_false e] at h2
   refine Ct_intro Tryz.func39 rfl rfl rfl rfl rfl (fun E hn hb => ?_)
   repeat refine nxm ?_
   exact rt1 []
set_option maxHeartbeats 4000000 in
theorem rscheck_all (L : List PairT) (n t o m s : List Int) (rt : rightT2 L) (hL : L.length ≤ 100000) (hn1 : n.length ≤ 100000) (ht : t.length ≤ 100000) (hwt : WfB t) (ho : o.length ≤ 1000000) (hm : m.length ≤ 100000) (hs : s.length ≤ 100000) :
   Ct Tryz.prog 41 [.c (.ptr 0 0), B8 n, sealA t o m s] [rtB L, rowP L] (lv (.int .i64 (chkR L n t o m s))) [rtB L, rowP L] [] := by
 have hls : ∀ q ∈ L, q.1.length ≤ 1000000 := fun q hq => by have := (rt q hq).1; omega
 have h1 := rhmac_ok
 have h2 := likealg2 o m hmO [5, 0] ho (by omega) (by decide) (by decide)
 have hgt := gtP_R L n
 unfold chkR
 by_cases e : o = hmO ∧ m = [5, 0]
 · rw [if_pos e]
   rw [decide_eq_true e] at h2
   cases hg : gtR L n with
   | none =>
     rw [hg] at hgt
     have h3 := rget_no L n hL hls (by omega) hgt
     refine Ct_intro Tryz.func41 rfl rfl rfl rfl rfl (fun E hn hb => ?_)
     repeat refine nx ?_
     exact rt1 []
   | some k =>
     rw [hg] at hgt
     obtain ⟨r, hr, hr1, hr2⟩ := gt_name hg
     obtain ⟨b1, b2, b3⟩ := rt r hr
     rw [hr2] at b2 b3
     have h3 := rget_ok L n k hL hls (by omega) hgt
     have h4 := reftag_ok k t b3 (by omega) hwt (by omega)
     have hdl : (tagS k t).length = 32 := digS_len _
     unfold chkZ
     dsimp only
     generalize tagS k t = D at *
     have hdn := ne32 hdl
     have h5 := same_ok D s (by omega) (by omega)
     have d1 : (D.drop 0).take 32 = D := by rw [List.drop_zero, List.take_of_length_le (by omega)]
     by_cases hq : D = s
     · rw [decide_eq_true hq] at h5
       rw [if_pos hq]
       refine Ct_intro Tryz.func41 rfl rfl rfl rfl rfl (fun E hn hb => ?_)
       refine nx ?_
       refine nx ?_
       refine nx ?_
       repeat (first | refine s_allocAN .u8 32 rfl rfl rfl (by rw [hn]; rfl) (by kernel_rfl) ?_ | refine nx ?_)
       refine s_storeA rfl rfl rfl rfl rfl (by exact vcs) rfl (by rw [cellsOf46]; first | rfl | assumption | omega | kernel_rfl | (simp; done) | (simp; omega) | (simp at *; omega)) (by first | rfl | assumption | omega | kernel_rfl | (simp; done) | (simp; omega) | (simp at *; omega)) (by first | assumption | (simp; done) | exact List.cons_ne_nil _ _) ?_
       repeat refine nx ?_
       refine dup1 (hp := ?_) ?_
       rotate_left
       · exact ⟨rfl, by omega, hdn, show 32 ≤ maxLen from by decide⟩
       repeat refine nx ?_
       exact rt1 []
     · rw [decide_eq_false hq] at h5
       rw [if_neg hq]
       refine Ct_intro Tryz.func41 rfl rfl rfl rfl rfl (fun E hn hb => ?_)
       refine nx ?_
       refine nx ?_
       refine nx ?_
       repeat (first | refine s_allocAN .u8 32 rfl rfl rfl (by rw [hn]; rfl) (by kernel_rfl) ?_ | refine nx ?_)
       refine s_storeA rfl rfl rfl rfl rfl (by exact vcs) rfl (by rw [cellsOf46]; first | rfl | assumption | omega | kernel_rfl | (simp; done) | (simp; omega) | (simp at *; omega)) (by first | rfl | assumption | omega | kernel_rfl | (simp; done) | (simp; omega) | (simp at *; omega)) (by first | assumption | (simp; done) | exact List.cons_ne_nil _ _) ?_
       repeat refine nx ?_
       refine dup1 (hp := ?_) ?_
       rotate_left
       · exact ⟨rfl, by omega, hdn, show 32 ≤ maxLen from by decide⟩
       repeat refine nx ?_
       exact rt1 []
 · rw [if_neg e]
   rw [decide_eq_false e] at h2
   refine Ct_intro Tryz.func41 rfl rfl rfl rfl rfl (fun E hn hb => ?_)
   repeat refine nx ?_
   exact rt1 []
def byR (L : List PairT) (t o m s : List Int) : List (List Int) → List Int × Int
 | [] => ([], 13)
 | r :: rs => if chkR L r t o m s = 0 then (r, 0) else byR L t o m s rs
theorem byR_drop (L : List PairT) (t o m s : List Int) : ∀ (rs : List (List Int)) (i : Nat), i ≤ rs.length → (∀ j, j < i → ¬ chkR L (rs.getD j []) t o m s = 0) → byR L t o m s rs = byR L t o m s (rs.drop i)
 | rs, 0, _, _ => by simp
 | [], i + 1, h, _ => by simp at h
 | r :: rs, i + 1, h, hj => by
   have h0 := hj 0 (by omega)
   simp only [List.getD_cons_zero] at h0
   rw [byR, if_neg h0, List.drop_succ_cons]
   exact byR_drop L t o m s rs i (by simpa using h) fun j hj2 => by have := hj (j + 1) (by omega); simpa using this
set_option maxHeartbeats 8000000 in
theorem by_ok (es : MapL) (L : List PairT) (t o m s : List Int) (rs : List (List Int)) (al : alikeT es L) (rt : rightT2 L) (hrl : rs.length ≤ 100000) (hrs : ∀ r ∈ rs, r.length ≤ 100000 ∧ WfB r) (ht : t.length ≤ 100000) (hwt : WfB t) (ho : o.length ≤ 1000000) (hm : m.length ≤ 100000) (hw : WfB m) (hs : s.length ≤ 100000) (hws : WfB s) :
   Ct Tryz.prog 42 [.c (.ptr 0 0), sealA t o m s, rowsA rs] [tabB, .map es] (.tup [B8 (byR L t o m s rs).1, lv (.int .i64 (byR L t o m s rs).2)]) [tabB, .map es] [] := by
 refine Ct_intro Tryz.func42 rfl rfl rfl rfl rfl (fun E hn hb => ?_)
 repeat refine nxm ?_
 rw [List.length_map]
 refine W_weaken (St.le_of (l := [(0, .c (.ptr 0 0)), (4, .c (.ptr 68 0)), (6, .c (.lf (.v (.slice none 0 0)))), (10, rowsA rs), (11, lv (.int .i64 (rs.length : Int))), (12, lv (.int .i64 ((0 : Nat) : Int)))]) (h := [(0, tabB), (1, .map es), (68, .cells [.lf (.ints .u8 t), .lf (.ints .i64 o), .lf (.ints .u8 m), .lf (.ints .u8 s)])]) (by refine ⟨?_, ?_⟩ <;> (repeat' (first | exact trivial | exact rfl | refine ⟨?_, ?_⟩)) <;> first | exact rfl | (simp; done) | skip)) ?_
 refine W_loop (ι := {i : Nat // i ≤ rs.length ∧ ∀ j, j < i → ¬ chkR L (rs.getD j []) t o m s = 0}) (fun i => St.of [(0, .c (.ptr 0 0)), (4, .c (.ptr 68 0)), (6, .c (.lf (.v (.slice none 0 0)))), (10, rowsA rs), (11, lv (.int .i64 (rs.length : Int))), (12, lv (.int .i64 (i.1 : Int)))] [(0, tabB), (1, .map es), (68, .cells [.lf (.ints .u8 t), .lf (.ints .i64 o), .lf (.ints .u8 m), .lf (.ints .u8 s)])]) (fun i => rs.length - i.1) (fun i => ?_) ⟨0, by omega, fun j h => by omega⟩
 obtain ⟨i, hi, hj⟩ := i
 dsimp only
 have hbd := byR_drop L t o m s rs i hi hj
 by_cases hi2 : i < rs.length
 · have hm2 : rs.getD i [] ∈ rs := by
     rw [List.getD_eq_getElem?_getD, List.getElem?_eq_getElem hi2]
     exact List.getElem_mem hi2
   have hd : rs.drop i = rs.getD i [] :: rs.drop (i + 1) := by
     rw [List.drop_eq_getElem_cons hi2, List.getD_eq_getElem?_getD, List.getElem?_eq_getElem hi2]
     rfl
   rw [hd, byR] at hbd
   have hck := scheck_all es L (rs.getD i []) t o m s al rt (hrs _ hm2).1 (hrs _ hm2).2 ht hwt ho hm hw hs hws
   have hcl := clone_ok (rs.getD i []) (by have := (hrs _ hm2).1; omega)
   have hq : rs.getD (i : Int).toNat [] = rs.getD i [] := rfl
   have hj2 : ¬ chkR L (rs.getD i []) t o m s = 0 → ∀ j, j < i + 1 → ¬ chkR L (rs.getD j []) t o m s = 0 := fun h0 j h => by
     by_cases h2 : j = i
     · rw [h2]; exact h0
     · exact hj j (by omega)
   generalize chkR L (rs.getD i []) t o m s = c at *
   generalize rs.getD i [] = r at *
   by_cases h0 : c = 0
   · rw [if_pos h0] at hbd
     rw [hbd]
     subst h0
     repeat (first | refine nxm ?_ | rw [hq])
     exact rt1 []
   · rw [if_neg h0] at hbd
     repeat (first | refine nxm ?_ | rw [hq])
     refine N_round ⟨i + 1, by omega, hj2 h0⟩ (by dsimp only; omega) (St.le_of ⟨⟨rfl, rfl, rfl, rfl, rfl, rfl⟩, ⟨rfl, rfl, rfl⟩⟩)
 · obtain rfl : i = rs.length := by omega
   rw [List.drop_length] at hbd
   rw [hbd]
   repeat refine nxm ?_
   exact rtU []
end Go.Proofs.YthoaneleeabadaaGreat

/-
  From a contract to the statement's last step: what came in, as data; what the call leaves. No condition.
-/
import Derived.Test.YtaagjnlkinojcaaGreatP1
import Derived.Test.YtaagjnlkinojcaaGreatSxX
import Derived.WalkKit
import Derived.ProofKit
import Derived.OpenShut
import Derived.ShutString
import Derived.ChangeOld
import Derived.Below
import Derived.Lib.SmallJoins
namespace Go.Proofs.YtaagjnlkinojcaaGreat
set_option linter.unusedSimpArgs false
set_option linter.unusedVariables false
open Go.Sx
set_option maxRecDepth 10000
theorem wf16 {l : List Int} (h : (l.all fun x => decide (0 ≤ x) && decide (x < 256)) = true) : WfB l := fun x hx => by
 have := List.all_eq_true.1 h x hx
 simpa using this
abbrev poA : Av := .agg [.lf (.v (.pointer none)), .lf (.v (.slice none 0 0)), .lf (.v (.slice none 0 0))]
abbrev scA (u : Bool) : Av := .agg [.lf (.v (.pointer none)), .lf (.v (.bool u)), .lf (.v (.bool false)), .lf (.v (.bool false)), .lf (.v (.bool false)), .lf (.v (.slice none 0 0))]
theorem parts_nil : Ct Tryz.prog 86 [nilQ, nilS] [] (lv (.bool true)) [] [] := by
 refine Ct_intro Tryz.func86 rfl rfl rfl rfl rfl (fun E hn hb => ?_)
 repeat (first | refine nx ?_ | refine wgF (lv (.bool false)) hn ?_)
 exact rt1 []
theorem rpoint_no : Ct Tryz.prog 41 [poA] [] (lv (.bool false)) [] [] := by
 have h1 := parts_nil
 refine Ct_intro Tryz.func41 rfl rfl rfl rfl rfl (fun E hn hb => ?_)
 repeat (first | refine nx ?_ | refine wgF (lv (.bool false)) hn ?_)
 exact rt1 []
abbrev bsR (l : List Bool) : Av := .c (.lf (.recs 1 (l.map fun b => [Leaf.v (.bool b)])))
def cntB : List Bool → Nat
 | [] => 0
 | b :: l => (cond b 1 0) + cntB l
theorem cnt_snoc : ∀ (l : List Bool) (i : Nat), i < l.length → cntB (l.take (i + 1)) = cntB (l.take i) + cond (l.getD i false) 1 0
 | [], i, h => by simp at h
 | b :: l, 0, h => by simp [cntB]
 | b :: l, i + 1, h => by
   have := cnt_snoc l i (by simpa using h)
   simp only [List.take_succ_cons, cntB, List.getD_cons_succ]
   omega
theorem cnt_le : ∀ l : List Bool, cntB l ≤ l.length
 | [] => by simp [cntB]
 | b :: l => by
   have := cnt_le l
   cases b <;> simp [cntB] <;> omega
theorem count_ok (l : List Bool) (hl : l.length ≤ 1000) : Ct Tryz.prog 85 [bsR l] [] (lv (.int .i64 (cntB l : Int))) [] [] := by
 refine Ct_intro Tryz.func85 rfl rfl rfl rfl rfl (fun E hn hb => ?_)
 repeat refine nx ?_
 rw [List.length_map]
 refine W_weaken (St.le_of (l := [(3, lv (.int .i64 0)), (6, bsR l), (7, lv (.int .i64 (l.length : Int))), (8, lv (.int .i64 ((0 : Nat) : Int)))]) (h := []) (by refine ⟨?_, ?_⟩ <;> (repeat' (first | exact trivial | exact rfl | refine ⟨?_, ?_⟩)) <;> first | exact rfl | (simp; done) | skip)) ?_
 refine W_loop (ι := {i : Nat // i ≤ l.length}) (fun i => St.of [(3, lv (.int .i64 ((cntB (l.take i.1) : Nat) : Int))), (6, bsR l), (7, lv (.int .i64 (l.length : Int))), (8, lv (.int .i64 (i.1 : Int)))] []) (fun i => l.length - i.1) (fun i => ?_) ⟨0, by omega⟩
 obtain ⟨i, hi⟩ := i
 dsimp only
 by_cases hi2 : i < l.length
 · have hnx := cnt_snoc l i hi2
   have hle := cnt_le (l.take i)
   have hlt : (l.take i).length ≤ 1000 := by simp; omega
   have hq : l.getD (i : Int).toNat default = l.getD i false := rfl
   generalize cntB (l.take i) = n at *
   generalize l.getD i false = b at *
   cases b with
   | true =>
     repeat (first | refine nx ?_ | rw [hq])
     refine N_round ⟨i + 1, by omega⟩ (by dsimp only; omega) (St.le_of ⟨⟨?_, rfl, rfl, rfl⟩, trivial⟩)
     dsimp only; rw [hnx]; rfl
   | false =>
     repeat (first | refine nx ?_ | rw [hq])
     refine N_round ⟨i + 1, by omega⟩ (by dsimp only; omega) (St.le_of ⟨⟨?_, rfl, rfl, rfl⟩, trivial⟩)
     dsimp only; rw [hnx]; rfl
 · obtain rfl : i = l.length := by omega
   rw [List.take_length]
   repeat refine nx ?_
   exact rt1 []
theorem rscope_ok (u : Bool) : Ct Tryz.prog 32 [scA u] [] (lv (.bool u)) [] [] := by
 have h1 := parts_nil
 have h2 := count_ok [u, false, false] (by simp)
 have h2 : Ct Tryz.prog 85 [.c (.lf (.recs 1 [[Leaf.v (.bool u)], [Leaf.v (.bool false)], [Leaf.v (.bool false)]]))] [] (lv (.int .i64 ((cntB [u, false, false] : Nat) : Int))) [] [] := h2
 cases u with
 | true =>
   rw [show cntB [true, false, false] = 1 from rfl] at h2
   refine Ct_intro Tryz.func32 rfl rfl rfl rfl rfl (fun E hn hb => ?_)
   repeat (first | refine nx ?_ | refine wgF (lv (.bool false)) hn ?_)
   refine rt2 [] (congrArg (fun x => lv (.bool x)) ?_) trivial; (simp [eqCs, Cell.kill, Cell.kill1])
 | false =>
   rw [show cntB [false, false, false] = 0 from rfl] at h2
   refine Ct_intro Tryz.func32 rfl rfl rfl rfl rfl (fun E hn hb => ?_)
   repeat (first | refine nx ?_ | refine wgF (lv (.bool false)) hn ?_)
   refine rt2 [] (congrArg (fun x => lv (.bool x)) ?_) trivial; (simp [eqCs, Cell.kill, Cell.kill1])
theorem pclos_ok : Ct Tryz.prog 50 [.c (.ptr 0 0)] [rdB 0, curB [] 0] poA [rdB 0, curB [] 0] [] := by
 have h1 := takeW_no [] 0 0 true 52 (by decide) (by decide) (fun x hx => by cases hx) (by decide +kernel)
 have h2 := takeI_no [] 0 1 false 54 (by decide) (by decide) (fun x hx => by cases hx) (by decide +kernel)
 have h3 := takeG_no [] 0 2 true 56 (by decide) (by decide) (fun x hx => by cases hx) (by decide +kernel)
 refine Ct_intro Tryz.func50 rfl rfl rfl rfl rfl (fun E hn hb => ?_)
 repeat refine nx ?_
 exact rt1 []
theorem pseq_no : Ct Tryz.prog 49 [.c (.ptr 0 0), .c (.fn (.func 50) [] []), .c (.fn (.func 41) [] [])] [curB [48, 0] 0] (.tup [poA, lv (.int .i64 6)]) [curB [48, 0] 0] [] := by
 have ho : openP [48, 0] 0 (ofT 16) = ([], 2, 0) := by decide +kernel
 have hw : WfB [48, 0] := wf16 (by decide +kernel)
 have h0 := at_ok [48, 0] 0
 have h1 := headof_ok 16
 have h2 := open_ok [48, 0] 0 (ofT 16) (by decide) (by decide) hw (by rw [ho])
 rw [ho] at h2
 dsimp only at h2
 have h3 := pclos_ok
 have h4 := left_ok [] 0 (by decide) (by decide)
 have h5 := rpoint_no
 have h6 := back_ok [48, 0] 2 0 (by decide) (by decide)
 refine Ct_intro Tryz.func49 rfl rfl rfl rfl rfl (fun E hn hb => ?_)
 repeat refine nx ?_
 exact rt1 []
theorem rdp_no : Ct Tryz.prog 14 [.c (.ptr 0 0)] [curB [48, 0] 0] (.tup [poA, lv (.int .i64 6)]) [curB [48, 0] 0] [] := by
 have h1 := pseq_no
 refine Ct_intro Tryz.func14 rfl rfl rfl rfl rfl (fun E hn hb => ?_)
 repeat refine nx ?_
 exact rt1 []
theorem sclos_no : Ct Tryz.prog 89 [.c (.ptr 0 0)] [rdB 0, curB [] 0] (scA false) [rdB 0, curB [] 0] [] := by
 have hw : WfB [] := fun x hx => by cases hx
 have h1 := takeW_no [] 0 0 true 52 (by decide) (by decide) hw (by decide +kernel)
 have h2 := takeB_no [] 0 1 false 91 (by decide) (by decide) hw (by decide +kernel)
 have h3 := takeB_no [] 0 2 false 91 (by decide) (by decide) hw (by decide +kernel)
 have h4 := takeI_no [] 0 3 false 54 (by decide) (by decide) hw (by decide +kernel)
 have h5 := takeB_no [] 0 4 false 91 (by decide) (by decide) hw (by decide +kernel)
 have h6 := takeB_no [] 0 5 false 91 (by decide) (by decide) hw (by decide +kernel)
 refine Ct_intro Tryz.func89 rfl rfl rfl rfl rfl (fun E hn hb => ?_)
 repeat refine nx ?_
 exact rt1 []
theorem sseq_no : Ct Tryz.prog 88 [.c (.ptr 0 0), .c (.fn (.func 89) [] []), .c (.fn (.func 32) [] [])] [curB [48, 0] 0] (.tup [scA false, lv (.int .i64 6)]) [curB [48, 0] 0] [] := by
 have ho : openP [48, 0] 0 (ofT 16) = ([], 2, 0) := by decide +kernel
 have hw : WfB [48, 0] := wf16 (by decide +kernel)
 have h0 := at_ok [48, 0] 0
 have h1 := headof_ok 16
 have h2 := open_ok [48, 0] 0 (ofT 16) (by decide) (by decide) hw (by rw [ho])
 rw [ho] at h2
 dsimp only at h2
 have h3 := sclos_no
 have h4 := left_ok [] 0 (by decide) (by decide)
 have h5 := rscope_ok false
 have h6 := back_ok [48, 0] 2 0 (by decide) (by decide)
 refine Ct_intro Tryz.func88 rfl rfl rfl rfl rfl (fun E hn hb => ?_)
 repeat refine nx ?_
 exact rt1 []
theorem rds_no : Ct Tryz.prog 34 [.c (.ptr 0 0)] [curB [48, 0] 0] (.tup [scA false, lv (.int .i64 6)]) [curB [48, 0] 0] [] := by
 have h1 := sseq_no
 refine Ct_intro Tryz.func34 rfl rfl rfl rfl rfl (fun E hn hb => ?_)
 repeat refine nx ?_
 exact rt1 []
theorem sclos_yes : Ct Tryz.prog 89 [.c (.ptr 0 0)] [rdB 0, curB [129, 1, 255] 0] (scA true) [rdB 0, curB [129, 1, 255] 3] [] := by
 have hw : WfB [129, 1, 255] := wf16 (by decide +kernel)
 have h1 := takeW_no [129, 1, 255] 0 0 true 52 (by decide) (by decide) hw (by decide +kernel)
 have h2 := takeB_yes [129, 1, 255] 0 3 1 false (by decide) (by decide) hw (by decide +kernel) (by decide +kernel)
 have h3 := takeB_no [129, 1, 255] 3 2 false 91 (by decide) (by decide) hw (by decide +kernel)
 have h4 := takeI_no [129, 1, 255] 3 3 false 54 (by decide) (by decide) hw (by decide +kernel)
 have h5 := takeB_no [129, 1, 255] 3 4 false 91 (by decide) (by decide) hw (by decide +kernel)
 have h6 := takeB_no [129, 1, 255] 3 5 false 91 (by decide) (by decide) hw (by decide +kernel)
 refine Ct_intro Tryz.func89 rfl rfl rfl rfl rfl (fun E hn hb => ?_)
 repeat refine nx ?_
 exact rt1 []
theorem sseq_yes : Ct Tryz.prog 88 [.c (.ptr 0 0), .c (.fn (.func 89) [] []), .c (.fn (.func 32) [] [])] [curB [48, 3, 129, 1, 255] 0] (.tup [scA true, lv (.int .i64 0)]) [curB [48, 3, 129, 1, 255] 5] [] := by
 have ho : openP [48, 3, 129, 1, 255] 0 (ofT 16) = ([129, 1, 255], 5, 0) := by decide +kernel
 have hw : WfB [48, 3, 129, 1, 255] := wf16 (by decide +kernel)
 have h0 := at_ok [48, 3, 129, 1, 255] 0
 have h1 := headof_ok 16
 have h2 := open_ok [48, 3, 129, 1, 255] 0 (ofT 16) (by decide) (by decide) hw (by rw [ho])
 rw [ho] at h2
 dsimp only at h2
 have h3 := sclos_yes
 have h4 := left_ok [129, 1, 255] 3 (by decide) (by decide)
 have h5 := rscope_ok true
 refine Ct_intro Tryz.func88 rfl rfl rfl rfl rfl (fun E hn hb => ?_)
 repeat refine nx ?_
 exact rt1 []
theorem rds_yes : Ct Tryz.prog 34 [.c (.ptr 0 0)] [curB [48, 3, 129, 1, 255] 0] (.tup [scA true, lv (.int .i64 0)]) [curB [48, 3, 129, 1, 255] 5] [] := by
 have h1 := sseq_yes
 refine Ct_intro Tryz.func34 rfl rfl rfl rfl rfl (fun E hn hb => ?_)
 repeat refine nx ?_
 exact rt1 []
theorem known16_ok : Ct Tryz.prog 11 [] [] (lv (.bool true)) [] [] := by
 have h1 := curnew_ok [48, 0] (by decide)
 have h2 := curnew_ok [48, 3, 129, 1, 255] (by decide)
 have h3 := rdp_no
 have h5 := rds_yes
 have h4 := rds_no
 have h6 := mask_ok [1, 8] (by decide)
 rw [show mskN 0 [1, 8] = 258 from by decide] at h6
 refine Ct_intro Tryz.func11 rfl rfl rfl rfl rfl (fun E hn hb => ?_)
 repeat refine nx ?_
 refine s_call [85] h5 rfl rfl (by rw [hn]; rfl) rfl rfl (by trivial) ⟨rfl, rfl, (by simp [ordL]), rfl⟩ ?_
 repeat (first | refine nx ?_ | refine WL_gT rfl rfl ?_)
 refine rt2 [] (congrArg (fun x => lv (.bool x)) ?_) trivial; (simp [eqCs, Cell.kill, Cell.kill1])

theorem anyK_next (l : List Int) (k : Int) (i : Nat) (h : i < l.length) : (l.take (i + 1)).contains k = ((l.take i).contains k || decide (l.getD i 0 = k)) := by
 rw [List.take_add_one, List.contains_eq_any_beq, List.any_append, List.contains_eq_any_beq, List.getD_eq_getElem?_getD, List.getElem?_eq_getElem h]
 simp [eq_comm]
 congr 1
theorem beqK (x k : Int) : (x == k) = decide (x = k) := by rw [Bool.eq_iff_iff]; simp
theorem lgE {P : Go.Program} {E : Env} {ops : Array Go.Oper} {Q : Go.Exit → Go.Act → Go.World → Prop} {rest : List Go.Oper} {o : Go.Oper} {σ : St} {t e : Go.TypeId} {sz by_ n s nt : Nat} {parts : Array (Nat × Go.Operand)} {ps : List Prop} {out : List Cell} {d : Leaf} {dd : Option Nat} {i : Nat} {g G : Bool} (hn : E.n = nt) (hk : WL P E ops Q rest (σ.put dd (.cnd G (.c (.lf d))))) (hop : o.op = .buildSlice t n parts := by exact rfl) (hg : o.guard = some (i, g) := by exact rfl) (hG : guardC ops σ i g = some G := by exact rfl) (hdf : forceO o.dst some = some dd := by exact rfl) (hd : dstOk nt dd = true := by exact rfl)
   (hE : Elt P t e sz by_ := by exact elt_mk rfl rfl rfl) (hs : forceSz sz some = some s := by exact rfl) (hf : fillA (fun i => some (i * s, s)) (List.replicate (n * s) .un) (parts.toList.map fun (i, x) => (i, ox σ x)) = some (ps, out) := by exact rfl) (hdd : forceDat (dataOf P e s n out) some = some d := by exact rfl) (hnn : n * s ≤ 16777216 ∧ n ≤ 16777216 ∧ lenD d = n ∧ szD d = s := by exact ⟨by decide, by decide, rfl, rfl⟩)
   (hz : zeroOk P e := by first | (simp; done) | fail) (hp : G = true → AllP ps := by intro hG; first | trivial | exact hG | (simp; done)) : WL P E ops Q (o :: rest) σ := by
 obtain rfl := forceSz_some hs
 simp only [forceO_eq, Option.some.injEq] at hdf
 subst hdf
 exact WL_q (opq_ofG hg hG fun hh => opy_lit hop hE hz hf (hp hh) (forceDat_some hdd) hnn) (by rw [hn]; exact hd) hk
theorem getD_cast (R : List Nat) (i : Nat) : (R.map fun (r : Nat) => (r : Int)).getD i 0 = ((R.getD i 0 : Nat) : Int) := by
 rw [List.getD_eq_getElem?_getD, List.getD_eq_getElem?_getD, List.getElem?_map]
 cases R[i]? <;> rfl
theorem rea_rs (mask : Int) : reaL mask 9 = (rsN (mask % 512).toNat).map fun (r : Nat) => (r : Int) := rfl
set_option maxHeartbeats 16000000 in
theorem masks_ok (l0 : List Int) (mask : Int) (hl0 : l0.length ≤ 9223372036854775807) (hm : (Go.Lit.int .i64 mask).wf = true) : Ct Tryz.prog 3 [IL l0, lv (.int .i64 mask)] [] (lv (.bool true)) [] [] := by
 have hkn := known16_ok
 have hfw := few16_ok l0 hl0
 have hll : (l0.take 20).length ≤ 20 := by simp; omega
 generalize l0.take 20 = l at *
 have hre := reasons_ok mask
 have hM : (mask % 512).toNat < 512 := by omega
 have hMi : ((mask % 512).toNat : Int) = mask % 512 := by omega
 have hbo := bitsOk_all ⟨_, hM⟩
 have hmo := mskOk_all ⟨_, hM⟩
 have ha5 := andM 9 (by decide) mask
 rw [show ((2 : Int) ^ 9 - 1) = 511 from rfl, show (2 : Int) ^ 9 = 512 from rfl, ← hMi] at ha5
 rw [rea_rs] at hre
 generalize (mask % 512).toNat = M at *
 dsimp only at hbo hmo
 unfold bitsOk at hbo
 simp only [Bool.and_eq_true, decide_eq_true_eq, List.all_eq_true, List.mem_range] at hbo
 obtain ⟨⟨hb1, hb2⟩, hb3⟩ := hbo
 unfold mskOk at hmo
 have hmo := of_decide_eq_true hmo
 have k1 := mask_ok l (by omega)
 have k2 := mask_ok ((rsN M).map fun (r : Nat) => (r : Int)) (by simp; omega)
 rw [hmo] at k2
 have k3 := mask_ok [1, 2, 3, 4, 5, 6, 7, 8] (by decide)
 rw [show mskN 0 [1, 2, 3, 4, 5, 6, 7, 8] = 510 from by decide] at k3
 rw [mask_want] at k1
 clear hmo
 refine Ct_intro Tryz.func3 rfl rfl rfl rfl rfl (fun E hn hb => ?_)
 repeat refine nx ?_
 refine W_weaken (St.le_of (l := [(0, IL l), (1, lv (.int .i64 mask)), (5, lv (.int .i64 0)), (6, lv (.int .i64 ((0 : Nat) : Int)))]) (h := []) (by refine ⟨?_, ?_⟩ <;> (repeat' (first | exact trivial | exact rfl | refine ⟨?_, ?_⟩)) <;> first | exact rfl | (simp; done) | skip)) ?_
 refine W_loop (ι := {k : Nat // k ≤ 9}) (fun k => St.of [(0, IL l), (1, lv (.int .i64 mask)), (5, lv (.int .i64 ((wantN l k.1 : Nat) : Int))), (6, lv (.int .i64 (k.1 : Int)))] []) (fun k => 9 - k.1) (fun k => ?_) ⟨0, by omega⟩
 obtain ⟨k, hk⟩ := k
 dsimp only
 by_cases hk2 : k < 9
 · have hw1 := wantN_lt l k
   have hpow : 2 ^ k ≤ 256 := (shM ⟨k, hk2⟩).2.2
   have hnw : wantN l (k + 1) = wantN l k + (if l.contains (k : Int) then 2 ^ k else 0) := rfl
   generalize wantN l k = wn at *
   repeat refine nx ?_
   refine W_weaken (St.le_of (l := [(0, IL l), (1, lv (.int .i64 mask)), (5, lv (.int .i64 (wn : Int))), (6, lv (.int .i64 (k : Int))), (7, lv (.bool false)), (8, lv (.int .i64 ((0 : Nat) : Int)))]) (h := []) (by refine ⟨?_, ?_⟩ <;> (repeat' (first | exact trivial | exact rfl | refine ⟨?_, ?_⟩)) <;> first | exact rfl | (simp; done) | skip)) ?_
   refine W_loop (ι := {i : Nat // i ≤ l.length}) (fun i => St.of [(0, IL l), (1, lv (.int .i64 mask)), (5, lv (.int .i64 (wn : Int))), (6, lv (.int .i64 (k : Int))), (7, lv (.bool ((l.take i.1).contains (k : Int)))), (8, lv (.int .i64 (i.1 : Int)))] []) (fun i => l.length - i.1) (fun i => ?_) ⟨0, by omega⟩
   obtain ⟨i, hi⟩ := i
   dsimp only
   by_cases hi2 : i < l.length
   · have hna := anyK_next l k i hi2
     have hq : l.getD (i : Int).toNat 0 = l.getD i 0 := rfl
     generalize (l.take i).contains (k : Int) = B at *
     generalize l.getD i 0 = x at *
     cases B with
     | true =>
       repeat (first | refine nx ?_ | rw [hq])
       refine N_round ⟨i + 1, by omega⟩ (by dsimp only; omega) (St.le_of ⟨⟨rfl, rfl, rfl, rfl, ?_, rfl⟩, trivial⟩)
       dsimp only; rw [hna]; rfl
     | false =>
       repeat (first | refine nx ?_ | rw [hq])
       refine N_round ⟨i + 1, by omega⟩ (by dsimp only; omega) (St.le_of ⟨⟨rfl, rfl, rfl, rfl, ?_, rfl⟩, trivial⟩)
       dsimp only; rw [hna, ← beqK]; rfl
   · obtain rfl : i = l.length := by omega
     rw [List.take_length]
     obtain ⟨s1, s2, s3⟩ := shM ⟨k, hk2⟩
     dsimp only at s1 s2 s3
     generalize l.contains (k : Int) = B at *
     cases B with
     | true =>
       rw [if_pos rfl] at hnw
       repeat refine nx ?_
       rw [s2]
       generalize 2 ^ k = T at *
       repeat refine nx ?_
       refine N_round ⟨k + 1, by omega⟩ (by dsimp only; omega) (St.le_of ⟨⟨rfl, rfl, ?_, rfl⟩, trivial⟩)
       dsimp only; rw [hnw]; rfl
     | false =>
       rw [if_neg (by simp), Nat.add_zero] at hnw
       repeat refine nx ?_
       refine N_round ⟨k + 1, by omega⟩ (by dsimp only; omega) (St.le_of ⟨⟨rfl, rfl, ?_, rfl⟩, trivial⟩)
       dsimp only; rw [hnw]; rfl
 · obtain rfl : k = 9 := by omega
   repeat refine nx ?_
   generalize rsN M = R at *
   have hlr : (R.map fun (r : Nat) => (r : Int)).length = R.length := List.length_map ..
   refine W_weaken (St.le_of (l := [(0, IL l), (1, lv (.int .i64 mask)), (5, lv (.int .i64 ((wantN l 9 : Nat) : Int))), (9, IL (R.map fun (r : Nat) => (r : Int))), (10, lv (.int .i64 0)), (11, lv (.int .i64 (-1))), (12, lv (.int .i64 ((0 : Nat) : Int)))]) (h := []) (by refine ⟨?_, ?_⟩ <;> (repeat' (first | exact trivial | exact rfl | refine ⟨?_, ?_⟩)) <;> first | exact rfl | (simp; done) | skip)) ?_
   refine W_loop (ι := {i : Nat // i ≤ R.length}) (fun i => St.of [(0, IL l), (1, lv (.int .i64 mask)), (5, lv (.int .i64 ((wantN l 9 : Nat) : Int))), (9, IL (R.map fun (r : Nat) => (r : Int))), (10, lv (.int .i64 ((sumP (R.take i.1) : Nat) : Int))), (11, lv (.int .i64 (lastOf R i.1))), (12, lv (.int .i64 (i.1 : Int)))] []) (fun i => R.length - i.1) (fun i => ?_) ⟨0, by omega⟩
   obtain ⟨i, hi⟩ := i
   dsimp only
   by_cases hi2 : i < R.length
   · have hb4 := hb1 i (by omega)
     rw [if_pos hi2] at hb4
     simp only [Bool.and_eq_true, decide_eq_true_eq] at hb4
     obtain ⟨⟨⟨c1, c2⟩, c3⟩, c4⟩ := hb4
     have hq : (R.map fun (r : Nat) => (r : Int)).getD (i : Int).toNat 0 = ((R.getD i 0 : Nat) : Int) := getD_cast R i
     have hla : lastOf R (i + 1) = ((R.getD i 0 : Nat) : Int) := rfl
     generalize R.getD i 0 = r at *
     generalize lastOf R i = la at *
     generalize sumP (R.take i) = n at *
     obtain ⟨s1, s2, s3⟩ := shM ⟨r, by omega⟩
     dsimp only at s1 s2 s3
     repeat (first | refine nx ?_ | rw [hq])
     rw [s2]
     generalize 2 ^ r = T at *
     repeat (first | refine nx ?_ | rw [hq])
     refine N_round ⟨i + 1, by omega⟩ (by dsimp only; omega) (St.le_of ⟨⟨rfl, rfl, rfl, rfl, ?_, ?_, rfl⟩, trivial⟩)
     · dsimp only; rw [c3]; rfl
     · dsimp only; rw [hla]; rfl
   · obtain rfl : i = R.length := by omega
     rw [List.take_length, hb2]
     repeat (first | refine nx ?_ | refine lgE hn ?_)
     rw [ha5]
     refine rt2 [] (congrArg (fun x => lv (.bool x)) ?_) trivial; (simp [eqCs, Cell.kill, Cell.kill1])
end Go.Proofs.YtaagjnlkinojcaaGreat

namespace Go.Sx
open Go
open Go.ChangeShapes Go.WideShapes Go.ChangeAt Go.RowKit Go.Joins Go.Deep
set_option linter.unusedVariables false
abbrev Was (w : World) : Nat → Prop := fun b => b < w.heap.size
theorem cell_in {w : World} {a : Addr} {v : Value} (h : w.cell? a = some v) : a.block < w.heap.size ∧ a.spot = none := by
 unfold World.cell? at h
 split at h
 · rename_i c e m hb
   refine ⟨(Array.getElem?_eq_some_iff.1 hb).1, ?_⟩
   split at h
   · cases h
   · rename_i hs; simpa using hs
 · cases h
section
variable {H : Type} {enc : TypeId × Value → H} {P : Program} {w : World} {base : Nat} {spare : Nat → Bool} {held : Bool} {fuel : Nat}
theorem open_row {t e : TypeId} {k : IntKind} {v : Value} {x : DataW H × List MemPlace} (ht : P.underlying t = some (.slice e)) (he : P.underlying e = some (.int k)) (hc : P.cellsOf e = 1)
   (h : DataW.trod enc P w base spare held fuel t [v] = some x) : ∃ l : List Int, l.length ≤ 9223372036854775807 ∧ (∀ n ∈ l, (Lit.int k n).wf = true) ∧ LfR (Was w) w (.ints k l) v := by
 rcases open_ints ht he hc h with ⟨hcs, _⟩ | ⟨a, len, cap, zs, hcs, _, hl, hm, hz, _, hcell, hw⟩
 · simp at hcs
   subst hcs
   refine ⟨[], Nat.zero_le _, ?_, LfR.ints _ _ _ _ _ rfl (Nat.le_refl _) (Nat.zero_le _) (fun h => absurd rfl h)⟩
   intro n hn
   cases hn
 · simp at hcs
   subst hcs
   have hlz : len ≤ zs.length := by rw [hz]; split <;> omega
   have hlt : (zs.take len).length = len := by simp; omega
   have hm' : cap ≤ 9223372036854775807 := hm
   refine ⟨zs.take len, by omega, fun n hn => hw n (List.mem_of_mem_take hn), LfR.ints _ _ _ _ _ hlt.symm hl hm fun hne => ?_⟩
   have h0 : 0 < len := by
     rcases Nat.eq_zero_or_pos len with h | h
     · subst h; simp at hne
     · exact h
   have hb := cell_in (hcell 0 (by omega))
   obtain ⟨b, o, sp⟩ := a
   simp only [Addr.add, if_true] at hb
   obtain ⟨hb1, hsp⟩ := hb
   subst hsp
   have hadd : ∀ i, (⟨b, o, none⟩ : Addr).add i = ⟨b, o + i, none⟩ := by
     intro i
     unfold Addr.add
     split
     · rename_i h; subst h; rfl
     · rfl
   refine ⟨b, o, rfl, hb1, fun i x hx => ?_⟩
   obtain ⟨hi, hxe⟩ := List.getElem?_eq_some_iff.1 hx
   rw [hlt] at hi
   have := hcell i (by omega)
   rw [hadd] at this
   rw [this]
   rw [List.getElem_take] at hxe
   rw [← hxe]
   simp [show i < zs.length by omega]
theorem open_ints1 {t e : TypeId} {k : IntKind} {v : Value} {d : DataW H} {p : List MemPlace} (ht : P.underlying t = some (.slice e)) (he : P.underlying e = some (.int k)) (hc : P.cellsOf e = 1) {r : Reach} {b0 : Nat} (hv : Value.okWide P w r b0 t v)
   (h : DataW.Trod enc P w base spare held t v d p) : ∃ l : List Int, l.length ≤ 9223372036854775807 ∧ (∀ n ∈ l, (Lit.int k n).wf = true) ∧ ∀ β, AvR β (Was w) w (.c (.lf (.ints k l))) v := by
 obtain ⟨a, n, c, rfl⟩ := okWide_slice ht hv
 obtain ⟨fuel, h⟩ := h
 simp only [Value.cells] at h
 obtain ⟨l, h1, h2, h3⟩ := open_row ht he hc h
 exact ⟨l, h1, h2, fun β => .c (.lf h3)⟩
theorem open_int {t : TypeId} {v : Value} {k : IntKind} {d : DataW H} {p : List MemPlace} (ht : P.underlying t = some (.int k)) {r : Reach} {b0 : Nat} (hv : Value.okWide P w r b0 t v) (h : DataW.Trod enc P w base spare held t v d p) :
   ∃ n : Int, (Lit.int k n).wf = true ∧ ∀ β, AvR β (Was w) w (.c (.lf (.v (.int k n)))) v := by
 obtain ⟨n0, rfl⟩ := okWide_int ht hv
 obtain ⟨fuel, h⟩ := h
 obtain ⟨n, hn, _, hw⟩ := DataW.trod_int ht h
 simp [Value.cells] at hn
 subst hn
 exact ⟨_, hw, fun β => .c (.lf (.v _ rfl))⟩
theorem Ct.calls {f : FuncId} {args : List Av} (h : Ct P f args [] (.c (.lf (.v (.bool true)))) [] []) (w : World) (vs : List Value) (hl : vs.length = args.length) (ha : ∀ (i : Nat) (x : Av) (v : Value), args[i]? = some x → vs[i]? = some v → AvR (fun _ => none) (Was w) w x v) :
   Calls P f vs.toArray w fun e w' => e = .returned (.bool true) ∧ Below w.heap.size w w' := by
 refine (h.2.2 w (fun _ => none) (Was w) vs hl ha (fun i b h => by simp at h) (fun i j g h => absurd h (Nat.not_lt_zero _)) (fun j g h => absurd h (Nat.not_lt_zero _)) (fun _ _ => rfl) (fun b hb => hb)).mono fun e w' hq => ?_
 obtain ⟨v, β', F', rfl, hr, _, _, ho⟩ := hq
 refine ⟨?_, ?_⟩
 · cases hr with | c hr => cases hr with | lf hr => cases hr with | v x h => rfl
 · have hk := ho.keep
   exact ⟨hk.os, hk.tape, hk.output, hk.size, fun k hk' => hk.block k hk' (by rintro ⟨i, hi, _⟩; exact absurd hi (Nat.not_lt_zero _))⟩
end
end Go.Sx

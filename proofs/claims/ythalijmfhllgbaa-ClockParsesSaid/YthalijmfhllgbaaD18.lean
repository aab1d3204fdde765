/-
  Chapter 10's law ClockParses, walked: it returns true. The conditions: rows that a machine can hold.
-/
import Derived.Test.YthalijmfhllgbaaD14
import Derived.Test.YthalijmfhllgbaaD16
import Derived.Test.YthalijmfhllgbaaC17
namespace Go.Proofs.Ythalijmfhllgbaa
set_option linter.unusedSimpArgs false
set_option linter.unusedVariables false
open Go.Sx Dt

set_option maxRecDepth 10000

def exPs : List Pc := [(2049, 4, ByteArray.mk #[45]), (12, 2, ByteArray.mk #[45]), (31, 2, ByteArray.mk #[84]), (23, 2, ByteArray.mk #[58]), (59, 2, ByteArray.mk #[58]), (59, 2, ByteArray.mk #[90])]
theorem exPs_ok : ∀ p ∈ exPs, pcOk p := by
  intro p hp
  simp only [exPs, List.mem_cons, List.not_mem_nil, or_false] at hp
  rcases hp with rfl | rfl | rfl | rfl | rfl | rfl <;> (unfold pcOk; decide)
theorem text10_ex : Ct Try.prog 81 [lv (.int .i64 2524607999)] [] (.tup [lv (.string (ByteArray.mk #[50, 48, 52, 57, 45, 49, 50, 45, 51, 49, 84, 50, 51, 58, 53, 57, 58, 53, 57, 90])), lv (.int .i64 0)]) [] [] := by
  have hat := pat_ok 2524607999 (by decide +kernel)
  unfold atC at hat
  rw [show ofY (2524607999 / 86400) = 2049 by decide +kernel, show ofM (2524607999 / 86400) = 12 by decide +kernel, show ofD (2524607999 / 86400) = 31 by decide +kernel, show (2524607999 : Int) % 86400 / 3600 = 23 by decide +kernel, show (2524607999 : Int) % 86400 / 60 % 60 = 59 by decide +kernel, show (2524607999 : Int) % 86400 % 60 = 59 by decide +kernel] at hat
  have hpl : pcsL exPs = [50, 48, 52, 57, 45, 49, 50, 45, 51, 49, 84, 50, 51, 58, 53, 57, 58, 53, 57, 90] := by decide +kernel
  have hwr := written_ok exPs (by decide) exPs_ok (by rw [hpl]; decide) (by rw [hpl]; decide) (by decide)
  rw [hpl] at hwr
  refine Ct_intro Try.func81 rfl rfl rfl rfl rfl (fun E hn hb => ?_)
  repeat (first | refine stp ?_ | refine N_block_pass rfl ?_ | refine sp1 ?_ | refine sg1 ?_ | refine WL_nil ?_)
  refine s_call0 hat rfl rfl rfl (by rw [hn]; rfl) rfl rfl (by first | trivial | (simp; done) | (simp; omega) | (simp at *; done) | (simp at *; omega)) rfl rfl rfl ?_
  repeat (first | refine stp ?_ | refine N_block_pass rfl ?_ | refine sp1 ?_ | refine sg1 ?_ | refine WL_nil ?_)
  refine s_allocN rfl rfl rfl (by rw [hn]; rfl) rfl zok122 ?_
  refine s_storeN rfl rfl rfl rfl rfl (by first | trivial | (simp; done) | (simp; omega) | (simp at *; done) | (simp at *; omega)) rfl rfl rfl (by rw [cellsOf122]; rfl) (by rw [info122]; rfl) rfl rfl ?_
  repeat (first | refine stp ?_ | refine N_block_pass rfl ?_ | refine sp1 ?_ | refine sg1 ?_ | refine WL_nil ?_)
  refine W_cond rfl (by simp) (fun hc => ?_) (fun hc => ?_)
  · simp at hc
  repeat (first | refine stp ?_ | refine N_block_pass rfl ?_ | refine sp1 ?_ | refine sg1 ?_ | refine WL_nil ?_)
  refine WL_q (opq_of (opy_lit (d := (.recs 3 (exPs.map pcR))) rfl (elt_mk Try.underlying229 rfl rfl) zok191 rfl (by first | trivial | (simp; done) | (simp; omega) | (simp at *; done) | (simp at *; omega)) rfl ⟨by decide, by decide, rfl, rfl⟩) rfl) (by rw [hn]; rfl) ?_
  refine s_call0 hwr rfl rfl rfl (by rw [hn]; rfl) rfl rfl (by first | trivial | (simp; done) | (simp; omega) | (simp at *; done) | (simp at *; omega)) rfl rfl rfl ?_
  repeat (first | refine stp ?_ | refine N_block_pass rfl ?_ | refine sp1 ?_ | refine sg1 ?_ | refine WL_nil ?_)
  exact rt1 []
set_option maxHeartbeats 4000000 in
theorem known10ex_ok : Ct Try.prog 24 [] [] (lv (.bool true)) [] [] := by
  have e1 : parse10 23 [52, 57, 49, 50, 51, 49, 50, 51, 53, 57, 53, 57, 90] = (23, 2524607999, 0) := by decide +kernel
  have e2 : parse10 23 [53, 48, 48, 49, 48, 49, 48, 48, 48, 48, 48, 48, 90] = (23, -631152000, 0) := by decide +kernel
  have e3 : parse10 23 [52, 57, 49, 50, 51, 49, 50, 51, 53, 57, 90] = (0, 0, 6) := by decide +kernel
  have p1 := parse10_ok 23 [52, 57, 49, 50, 51, 49, 50, 51, 53, 57, 53, 57, 90] (by decide)
  have p2 := parse10_ok 23 [53, 48, 48, 49, 48, 49, 48, 48, 48, 48, 48, 48, 90] (by decide)
  have p3 := parse10_ok 23 [52, 57, 49, 50, 51, 49, 50, 51, 53, 57, 90] (by decide)
  rw [e1] at p1
  rw [e2] at p2
  rw [e3] at p3
  have e4 : whole10 24 2524607999 = [24, 15, 50, 48, 52, 57, 49, 50, 51, 49, 50, 51, 53, 57, 53, 57, 90] := by decide +kernel
  have hwr := write10_ok 24 2524607999 (by decide +kernel)
  rw [e4] at hwr
  have hnew := curnew_ok [24, 15, 50, 48, 52, 57, 49, 50, 51, 49, 50, 51, 53, 57, 53, 57, 90] (by decide)
  have e5 : readTm (lkS true) [24, 15, 50, 48, 52, 57, 49, 50, 51, 49, 50, 51, 53, 57, 53, 57, 90] 0 = ((0, 0), 0, 6) := by decide +kernel
  have hrd := creadS_ok [24, 15, 50, 48, 52, 57, 49, 50, 51, 49, 50, 51, 53, 57, 53, 57, 90] 0 (by decide) (by decide) (by unfold WfB; decide)
  rw [e5] at hrd
  have htx := text10_ex
  refine Ct_intro Try.func24 rfl rfl rfl rfl rfl (fun E hn hb => ?_)
  repeat (first | refine stp ?_ | refine N_block_pass rfl ?_ | refine sp1 ?_ | refine sg1 ?_ | refine WL_nil ?_)
  refine s_litC rfl rfl rfl (by rw [hn]; rfl) rfl rfl (by rw [hn]; rfl) (elt_mk Try.underlying24 rfl rfl) Try.underlying5 zok5 rfl (by first | trivial | (simp; done) | (simp; omega) | (simp at *; done) | (simp at *; omega)) rfl ⟨by decide, by decide, rfl⟩ ?_
  repeat (first | refine stp ?_ | refine N_block_pass rfl ?_ | refine sp1 ?_ | refine sg1 ?_ | refine WL_nil ?_)
  refine s_call0 p1 rfl rfl rfl (by rw [hn]; rfl) rfl rfl (by first | trivial | (simp; done) | (simp; omega) | (simp at *; done) | (simp at *; omega)) rfl rfl rfl ?_
  repeat (first | refine stp ?_ | refine N_block_pass rfl ?_ | refine sp1 ?_ | refine sg1 ?_ | refine WL_nil ?_)
  refine s_allocN rfl rfl rfl (by rw [hn]; rfl) rfl zok44 ?_
  refine s_storeN rfl rfl rfl rfl rfl (by first | trivial | (simp; done) | (simp; omega) | (simp at *; done) | (simp at *; omega)) rfl rfl rfl (by rw [cellsOf44]; rfl) (by rw [info44]; rfl) rfl rfl ?_
  repeat (first | refine stp ?_ | refine N_block_pass rfl ?_ | refine sp1 ?_ | refine sg1 ?_ | refine WL_nil ?_)
  refine s_call0 htx rfl rfl rfl (by rw [hn]; rfl) rfl rfl (by first | trivial | (simp; done) | (simp; omega) | (simp at *; done) | (simp at *; omega)) rfl rfl rfl ?_
  repeat (first | refine stp ?_ | refine N_block_pass rfl ?_ | refine sp1 ?_ | refine sg1 ?_ | refine WL_nil ?_)
  refine s_litC rfl rfl rfl (by rw [hn]; rfl) rfl rfl (by rw [hn]; rfl) (elt_mk Try.underlying24 rfl rfl) Try.underlying5 zok5 rfl (by first | trivial | (simp; done) | (simp; omega) | (simp at *; done) | (simp at *; omega)) rfl ⟨by decide, by decide, rfl⟩ ?_
  repeat (first | refine stp ?_ | refine N_block_pass rfl ?_ | refine sp1 ?_ | refine sg1 ?_ | refine WL_nil ?_)
  refine s_call0 p2 rfl rfl rfl (by rw [hn]; rfl) rfl rfl (by first | trivial | (simp; done) | (simp; omega) | (simp at *; done) | (simp at *; omega)) rfl rfl rfl ?_
  repeat (first | refine stp ?_ | refine N_block_pass rfl ?_ | refine sp1 ?_ | refine sg1 ?_ | refine WL_nil ?_)
  refine s_allocN rfl rfl rfl (by rw [hn]; rfl) rfl zok44 ?_
  refine s_storeN rfl rfl rfl rfl rfl (by first | trivial | (simp; done) | (simp; omega) | (simp at *; done) | (simp at *; omega)) rfl rfl rfl (by rw [cellsOf44]; rfl) (by rw [info44]; rfl) rfl rfl ?_
  repeat (first | refine stp ?_ | refine N_block_pass rfl ?_ | refine sp1 ?_ | refine sg1 ?_ | refine WL_nil ?_)
  refine s_litC rfl rfl rfl (by rw [hn]; rfl) rfl rfl (by rw [hn]; rfl) (elt_mk Try.underlying24 rfl rfl) Try.underlying5 zok5 rfl (by first | trivial | (simp; done) | (simp; omega) | (simp at *; done) | (simp at *; omega)) rfl ⟨by decide, by decide, rfl⟩ ?_
  repeat (first | refine stp ?_ | refine N_block_pass rfl ?_ | refine sp1 ?_ | refine sg1 ?_ | refine WL_nil ?_)
  refine s_call0 p3 rfl rfl rfl (by rw [hn]; rfl) rfl rfl (by first | trivial | (simp; done) | (simp; omega) | (simp at *; done) | (simp at *; omega)) rfl rfl rfl ?_
  repeat (first | refine stp ?_ | refine N_block_pass rfl ?_ | refine sp1 ?_ | refine sg1 ?_ | refine WL_nil ?_)
  refine s_allocN rfl rfl rfl (by rw [hn]; rfl) rfl zok44 ?_
  refine s_storeN rfl rfl rfl rfl rfl (by first | trivial | (simp; done) | (simp; omega) | (simp at *; done) | (simp at *; omega)) rfl rfl rfl (by rw [cellsOf44]; rfl) (by rw [info44]; rfl) rfl rfl ?_
  repeat (first | refine stp ?_ | refine N_block_pass rfl ?_ | refine sp1 ?_ | refine sg1 ?_ | refine WL_nil ?_)
  refine s_call0 hwr rfl rfl rfl (by rw [hn]; rfl) rfl rfl (by first | trivial | (simp; done) | (simp; omega) | (simp at *; done) | (simp at *; omega)) rfl rfl rfl ?_
  repeat (first | refine stp ?_ | refine N_block_pass rfl ?_ | refine sp1 ?_ | refine sg1 ?_ | refine WL_nil ?_)
  refine s_call [] hnew rfl rfl (by rw [hn]; rfl) rfl rfl (by trivial) ⟨rfl, trivial, trivial, rfl⟩ ?_
  repeat (first | refine stp ?_ | refine N_block_pass rfl ?_ | refine sp1 ?_ | refine sg1 ?_ | refine WL_nil ?_)
  refine s_call [110] hrd rfl rfl (by rw [hn]; rfl) rfl rfl (by trivial) ⟨rfl, rfl, (by simp [ordL]), rfl⟩ ?_
  repeat (first | refine stp ?_ | refine N_block_pass rfl ?_ | refine sp1 ?_ | refine sg1 ?_ | refine WL_nil ?_)
  refine s_allocN rfl rfl rfl (by rw [hn]; rfl) rfl zok44 ?_
  refine s_storeN rfl rfl rfl rfl rfl (by first | trivial | (simp; done) | (simp; omega) | (simp at *; done) | (simp at *; omega)) rfl rfl rfl (by rw [cellsOf44]; rfl) (by rw [info44]; rfl) rfl rfl ?_
  iterate 3 (first | refine stp ?_ | refine N_block_pass rfl ?_ | refine sp1 ?_ | refine sg1 ?_ | refine WL_nil ?_)
  refine W_weaken (St.le_of (l := [(2, lv (.int .i64 0)), (3, lv (.string (ByteArray.mk #[50, 48, 52, 57, 45, 49, 50, 45, 51, 49, 84, 50, 51, 58, 53, 57, 58, 53, 57, 90]))), (4, lv (.int .i64 0)), (5, .c (.ptr 69 0)), (6, lv (.int .i64 0)), (8, lv (.int .i64 6)), (10, lv (.int .i64 0)), (12, lv (.int .i64 6))]) (h := [(69, .cells [i64c 23, i64c (-631152000)])]) (by refine ⟨?_, ?_⟩ <;> (repeat' (first | exact trivial | exact rfl | refine ⟨?_, ?_⟩)) <;> first | exact rfl | (simp; done) | skip)) ?_
  repeat (first | refine stp ?_ | refine N_block_pass rfl ?_ | refine WL_gT rfl rfl ?_ | refine sp1 ?_ | refine WL_nil ?_)
  simp only [beq_self_eq_true, cond_true]
  repeat (first | refine stp ?_ | refine N_block_pass rfl ?_ | refine WL_gT rfl rfl ?_ | refine sp1 ?_ | refine WL_nil ?_)
  exact rt1 []
end Go.Proofs.Ythalijmfhllgbaa

namespace Go.Sx
set_option linter.unusedSimpArgs false
set_option linter.unusedVariables false
open Go
theorem opys_eqS {P : Program} {E : Env} {ops : Array Oper} {o : Oper} {σ : St} {t t' : TypeId} {neg : Bool} {y z : Operand} {p q : List Prop} {l m : List Cell} (hop : o.op = .binOp (if neg then .neq else .eql) t y z t') (ht : P.underlying t = some (.struct (P.fieldsOf t))) (hst : P.stoodInHeld t = false)
    (hy : ox σ y = (p, .agg l)) (hz : ox σ z = (q, .agg m)) (hp : AllP (p ++ q)) (hg : P.eqGuardType P.depth t = false) (hok : eqOk P (P.fieldsOf t).toList 0 l m) : OpYS P E ops o σ (lv (.bool ((eqCs l m) != neg))) := fun τ hlk =>
  opy_eqS hop ht hst ((hlk.ox y (by rw [hop]; cases neg <;> simp [Op.operands])).trans hy) ((hlk.ox z (by rw [hop]; cases neg <;> simp [Op.operands])).trans hz) hp hg hok
end Go.Sx
namespace Go.Proofs.Ythalijmfhllgbaa
open Go.Sx Dt

set_option maxRecDepth 10000

theorem fieldsT48 : Try.prog.fieldsOf 48 = #[{ name := "Kind", type := 3, offset := 0, embedded := false, tag := "", pkgPath := "", byteOffset := 0 }, { name := "Second", type := 3, offset := 1, embedded := false, tag := "", pkgPath := "", byteOffset := 8 }] := by
  rw [Program.fieldsOf, Try.underlying48]
theorem guardT48 : Try.prog.eqGuardType Try.prog.depth 48 = false := by kernel_rfl
theorem heldT48 : Try.prog.stoodInHeld 48 = false := by kernel_rfl
theorem structT48 : Try.prog.underlying 48 = some (.struct (Try.prog.fieldsOf 48)) := by rw [fieldsT48, Try.underlying48]
abbrev timC2 (k s : Int) : List Cell := [i64c k, i64c s]
theorem eqokT48 (a b c d : Int) : eqOk Try.prog (Try.prog.fieldsOf 48).toList 0 (timC2 a b) (timC2 c d) := by
  rw [fieldsT48]
  exact ⟨⟨by decide, rfl, rfl, cellsOf3, _, Try.underlying3⟩, ⟨by decide, rfl, rfl, cellsOf3, _, Try.underlying3⟩, trivial⟩
theorem eqM (a b c d : Int) : eqCs (timC2 a b) (timC2 c d) = decide (a = c ∧ b = d) := by
  simp only [eqCs]
  by_cases h1 : a = c <;> by_cases h2 : b = d <;> simp [h1, h2]
theorem lawof_ok (k s : Int) : Ct Try.prog 25 [timA k s] [] (timA k s) [] [] := by
  refine Ct_intro Try.func25 rfl rfl rfl rfl rfl (fun E hn hb => ?_)
  repeat (first | refine stp ?_ | refine N_block_pass rfl ?_ | refine sp1 ?_ | refine sg1 ?_ | refine WL_nil ?_)
  refine s_boxN rfl rfl rfl (by rw [hn]; rfl) rfl (by first | trivial | (simp; done) | (simp; omega) | (simp at *; done) | (simp at *; omega)) rfl rfl ?_
  repeat (first | refine stp ?_ | refine N_block_pass rfl ?_ | refine sp1 ?_ | refine sg1 ?_ | refine WL_nil ?_)
  refine s_allocN rfl rfl rfl (by rw [hn]; rfl) rfl zok48 ?_
  repeat (first | refine stp ?_ | refine N_block_pass rfl ?_ | refine sp1 ?_ | refine sg1 ?_ | refine WL_nil ?_)
  refine s_storeN rfl rfl rfl rfl rfl (by first | trivial | (simp; done) | (simp; omega) | (simp at *; done) | (simp at *; omega)) rfl rfl rfl (by rw [cellsOf48]; rfl) (by rw [info48]; rfl) rfl rfl ?_
  repeat (first | refine stp ?_ | refine N_block_pass rfl ?_ | refine sp1 ?_ | refine sg1 ?_ | refine WL_nil ?_)
  exact rt1 []
set_option maxHeartbeats 4000000 in
theorem parses_ok (k : Int) (l0 : List Int) (hl0 : l0.length ≤ 9223372036854775807) (hk0 : (Lit.int .i64 k).wf = true) (hw0 : WfB l0) : Ct Try.prog 4 [lv (.int .i64 k), B8 l0] [] (lv (.bool true)) [] [] := by
  have hl : (l0.take (min (l0.length : Int) 100).toNat).length ≤ 100 := by simp; omega
  have hkn := known10ex_ok
  refine Ct_intro Try.func4 rfl rfl rfl rfl rfl (fun E hn hb => ?_)
  repeat (first | refine stp ?_ | refine N_block_pass rfl ?_ | refine sp1 ?_ | refine sg1 ?_ | refine WL_nil ?_)
  refine WL_weaken (St.le_of (l := [(0, lv (.int .i64 k)), (1, B8 (l0.take (min (l0.length : Int) 100).toNat)), (15, lv (.int .i64 k)), (16, B8 (l0.take (min (l0.length : Int) 100).toNat))]) (h := []) ⟨⟨rfl, rfl, rfl, rfl⟩, trivial⟩) ?_
  generalize l0.take (min (l0.length : Int) 100).toNat = l at *
  have hp := parse10_ok k l (by omega)
  have hr := rparse10_ok k l (by omega)
  rw [← parse_same] at hr
  generalize parse10 k l = P at *
  obtain ⟨pk, ps, pe⟩ := P
  have hof := lawof_ok pk ps
  dsimp only [parR] at hp hr
  refine s_call0 hp rfl rfl rfl (by rw [hn]; rfl) rfl rfl (by first | trivial | (simp; done) | (simp; omega) | (simp at *; done) | (simp at *; omega)) rfl rfl rfl ?_
  repeat (first | refine stp ?_ | refine N_block_pass rfl ?_ | refine sp1 ?_ | refine sg1 ?_ | refine WL_nil ?_)
  refine s_allocN rfl rfl rfl (by rw [hn]; rfl) rfl zok44 ?_
  refine s_storeN rfl rfl rfl rfl rfl (by first | trivial | (simp; done) | (simp; omega) | (simp at *; done) | (simp at *; omega)) rfl rfl rfl (by rw [cellsOf44]; rfl) (by rw [info44]; rfl) rfl rfl ?_
  repeat (first | refine stp ?_ | refine N_block_pass rfl ?_ | refine sp1 ?_ | refine sg1 ?_ | refine WL_nil ?_)
  refine s_call0 hr rfl rfl rfl (by rw [hn]; rfl) rfl rfl (by first | trivial | (simp; done) | (simp; omega) | (simp at *; done) | (simp at *; omega)) rfl rfl rfl ?_
  repeat (first | refine stp ?_ | refine N_block_pass rfl ?_ | refine sp1 ?_ | refine sg1 ?_ | refine WL_nil ?_)
  refine s_allocN rfl rfl rfl (by rw [hn]; rfl) rfl zok48 ?_
  refine s_storeN rfl rfl rfl rfl rfl (by first | trivial | (simp; done) | (simp; omega) | (simp at *; done) | (simp at *; omega)) rfl rfl rfl (by rw [cellsOf48]; rfl) (by rw [info48]; rfl) rfl rfl ?_
  repeat (first | refine stp ?_ | refine N_block_pass rfl ?_ | refine sp1 ?_ | refine sg1 ?_ | refine WL_nil ?_)
  refine W_drawW 12 (by kernel_rfl) (by kernel_rfl) (by kernel_rfl) (by rw [hn]; rfl) rfl rfl ?_
  repeat (first | refine dp1 ?_ | refine dg1 ?_ | refine DrawW_nil ?_)
  refine DrawW_cons rfl (ops_of (opys_call hkn rfl rfl rfl (by first | trivial | (simp; done) | (simp; omega) | (simp at *; done) | (simp at *; omega)) rfl rfl rfl) rfl) ?_
  repeat (first | refine dp1 ?_ | refine dg1 ?_ | refine DrawW_nil ?_)
  refine DrawW_cons rfl (ops_ofG rfl rfl (fun hG => opys_call hof rfl rfl rfl (by first | exact hG | (first | trivial | (simp; done) | (simp; omega) | (simp at *; done) | (simp at *; omega))) rfl rfl rfl)) ?_
  repeat (first | refine dp1 ?_ | refine dg1 ?_ | refine DrawW_nil ?_)
  refine DrawW_cons rfl (ops_ofG rfl rfl (fun hG => opys_eqS (neg := false) (l := timC2 pk ps) (m := timC2 pk ps) rfl structT48 heldT48 rfl rfl (by first | exact ⟨hG, hG⟩ | (simp; done) | (simp at *; done)) guardT48 (eqokT48 _ _ _ _))) ?_
  repeat (first | refine dp1 ?_ | refine dg1 ?_ | refine DrawW_nil ?_)
  repeat (first | refine stp ?_ | refine N_block_pass rfl ?_ | refine sp1 ?_ | refine sg1 ?_ | refine WL_nil ?_)
  refine rt2 [] ?_ ?_
  · refine congrArg (fun x => lv (.bool x)) ?_
    rw [eqM]
    simp
  · trivial
end Go.Proofs.Ythalijmfhllgbaa

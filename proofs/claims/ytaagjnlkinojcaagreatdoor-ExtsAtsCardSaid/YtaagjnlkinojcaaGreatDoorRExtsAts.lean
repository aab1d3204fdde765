/-
  The statement of ExtsAts: for every input the law returns true, and each argument reads afterwards as it read before. No condition.
-/
import Derived.Test.YtaagjnlkinojcaaGreatDoorCards
import Derived.Test.YtaagjnlkinojcaaGreatDoorTie
import Derived.LaidMore
import Derived.Lay
import Derived.SevenTiedAt
import Derived.Stop.Joined
import Derived.Stop.LaidErr
import Derived.Test.YtaagjnlkinojcaaGreatDoorE27
import Derived.Test.YtaagjnlkinojcaaGreatDoorSxH
namespace Go.Proofs.YtaagjnlkinojcaaGreatDoor.extsAts
open Go Go.ChangeShapes Go.WideShapes Go.ChangeAt Go.RowKit Go.Sx
open Go.Proofs.YtaagjnlkinojcaaGreatDoor
set_option linter.unusedVariables false
theorem own : ownKnob Tryz.prog.godebug = none := by kernel_rfl
theorem laidOut : laidOutB Tryz.prog = true := by kernel_rfl
set_option maxRecDepth 100000 in
theorem lifted (os : Os) (started : os.Started) (H : Type) (enc : TypeId × Value → H) :
   ReturnsInHanded {} Tryz.checked os 6 .any (fun w args => (Rows.extsAtsSpec.pre enc Tryz.prog Tryz.f6 Rows.extsAtsRow.domain false w args ∧ laidMetH Tryz.prog Rows.extsAtsRow.laid w) ∧ sizedMet enc Tryz.prog Tryz.f6 (OpenSpec.ofChange Rows.extsAtsSpec) false w args)
     (Rows.extsAtsSpec.post enc Tryz.prog Tryz.f6 false true false false) := by
 refine returnsInHanded_of_change_and (C := Tryz.checked) (X := fun w _ => laidMetH Tryz.prog Rows.extsAtsRow.laid w) (fun _ _ _ hh h => h.of_heap hh) own started (by kernel_rfl) Tryz.func6
   (ChangeSpec.witness_shaped (enc := enc) (C := Tryz.checked) (os := os) (X := fun w _ => laidMetH Tryz.prog Rows.extsAtsRow.laid w) false (World.laidAll Tryz.prog os Rows.extsAtsRow.laid) #[.slice none 0 0, .slice none 0 0, .int .i64 0] 8 (World.laidAll_os _ _ _)
     (World.shaped_of_ZipB (by kernel_rfl) (by kernel_rfl)) (by kernel_rfl) (by kernel_rfl) (by kernel_rfl)
     (by rw [MakeChecks.laidMetH_plain _ _ _ (by kernel_rfl)]; exact laidMet_laidAll _ (by kernel_rfl) (by kernel_rfl))) ?_
 intro W base args ds gs before hval0 hW hcnd _ hL _
 have hval : ∀ (j : Nat) t v, Tryz.f6.params[j]? = some t → args[j]? = some v → Value.okWide Tryz.prog W .any base t v := hval0
 have hW' := hW
 obtain ⟨p, q, hA0, hV, rfl, hfz, hnd⟩ := hW
 have hA : DataW.TrodAll enc Tryz.prog W 0 (fun _ => true) true Tryz.f6.params.toList args.toList ds p := hA0
 rw [Tryz.params6] at hA hval
 obtain ⟨v0, vs0, d0, ds0, p0, q0, hargs, rfl, rfl, h0, r0⟩ := trodAll_cons hA
 obtain ⟨v1, vs1, d1, ds1, p1, q1, rfl, rfl, rfl, h1, r1⟩ := trodAll_cons r0
 obtain ⟨v2, vs2, d2, ds2, p2, q2, rfl, rfl, rfl, h2, r2⟩ := trodAll_cons r1
 obtain ⟨rfl, rfl, rfl⟩ := trodAll_nil r2
 obtain rfl : args = #[v0, v1, v2] := by cases args; simp_all
 obtain ⟨rfl, rfl⟩ := trodVars_none hV
 have k0 := h0
 have lt0 : ∀ x ∈ p0, x.block < W.heap.size := by obtain ⟨m, hm⟩ := k0; exact DataW.trod_lt m _ _ _ hm
 obtain ⟨l0, hl0, hw0, a0⟩ := Sx.open_bytes Tryz.underlying22 Tryz.underlying5 (by kernel_rfl) (hval 0 22 v0 rfl rfl) h0
 have k1 := h1
 have lt1 : ∀ x ∈ p1, x.block < W.heap.size := by obtain ⟨m, hm⟩ := k1; exact DataW.trod_lt m _ _ _ hm
 obtain ⟨l1, hl1, hw1, a1⟩ := open_rowsS Tryz.underlying37 (by kernel_rfl) (by kernel_rfl) (reads_three Tryz.underlying31 ⟨rfl, rfl, rfl⟩ (by kernel_rfl) (by kernel_rfl) (by kernel_rfl) (reads_one (cell_ints Tryz.underlying25 Tryz.underlying3 (by kernel_rfl))) (reads_one (cell_bool Tryz.underlying4)) (reads_one (cell_bytes Tryz.underlying22 Tryz.underlying5 (by kernel_rfl)))) (hval 1 37 v1 rfl rfl) h1
 have k2 := h2
 have lt2 : ∀ x ∈ p2, x.block < W.heap.size := by obtain ⟨m, hm⟩ := k2; exact DataW.trod_lt m _ _ _ hm
 obtain ⟨n2, hw2, a2⟩ := Sx.open_int Tryz.underlying3 (hval 2 3 v2 rfl rfl) h2
 clear hA0 hval0
 have hG : Lib.TabIs Tryz.prog W "internal/strconv.uint64pow10" .u64 Lib.pow10Tab := by
   rw [MakeChecks.laidMetH_plain _ _ _ (by kernel_rfl)] at hL
   exact Lib.tabIs_of_head (g := 0) (t := 216) (e := 55) (n := 20) (by kernel_rfl) (by kernel_rfl) Tryz.underlying216 Tryz.underlying55 (by kernel_rfl) (by kernel_rfl) (laidMet.tail (laidMet.tail hL))
 have hgd : GdK W (fun _ => False) := fun p hp => by
   obtain rfl := List.mem_singleton.1 hp
   refine ⟨fun h => h, ?_⟩
   unfold Lib.TabIs World.var? at hG
   rw [show Tryz.prog.globalNamed "internal/strconv.uint64pow10" = some gdN by kernel_rfl] at hG
   simp only [Option.bind_some] at hG
   split at hG
   · rename_i cs t fr h
     rw [h, Option.some.inj hG]
     exact ⟨_, _, rfl⟩
   · cases hG
 have hcalls := Ct.calls (ats17_ok l0 l1 n2 hl0 hl1 hw0 hw1 hw2) W [v0, v1, v2] rfl (fun i x v hx hv => by
   match i, hx, hv with
   | 0, hx, hv => simp at hx hv; subst hx hv; exact a0 _
   | 1, hx, hv => simp at hx hv; subst hx hv; exact a1 _
   | 2, hx, hv => simp at hx hv; subst hx hv; exact a2 _) hgd
 refine hcalls.mono fun e W' ⟨he, bel⟩ => ?_
 subst he
 exact ⟨_, rfl, _, _, _, [], _, [], hW', trodAll_mk1 (shut_bool Tryz.underlying4 _), (trodAll_cons_mk (Below.trod laidOut (by kernel_rfl) (of_decide_eq_true (by kernel_rfl)) k0 bel lt0) (trodAll_cons_mk (Below.trod laidOut (by kernel_rfl) (of_decide_eq_true (by kernel_rfl)) k1 bel lt1) (trodAll_cons_mk (Below.trod laidOut (by kernel_rfl) (of_decide_eq_true (by kernel_rfl)) k2 bel lt2) trodAll_mk0))), rfl, bel.frame _, fun h => by cases h⟩
theorem over : Rows.extsAtsRow.holds Tryz.pinned (OpenSpec.ofChange Rows.extsAtsSpec) :=
 OpenClaim.holds_of_wide 6 Tryz.f6 rfl rfl rfl rfl rfl rfl rfl ⟨rfl, rfl, rfl, rfl, rfl⟩ rfl rfl rfl rfl rfl (by kernel_rfl) Tryz.func6 (by kernel_rfl)
   (of_decide_eq_true (by kernel_rfl)) (by unfold Func.isWrapper; first | (rw [if_pos (by decide +kernel)]; kernel_rfl) | (rw [if_neg (by decide +kernel)]; exact ⟨rfl, rfl⟩))
   (fun os started H enc _ => lifted os started H enc)
theorem plain (f : FuncId) (fn : Func) (hf : Tryz.pinned.checked.prog.funcNamed "quittance/quittancelaw17.ExtsAts" = some f) (hfn : Tryz.pinned.checked.prog.funcs[f]? = some fn) :
   false = Tryz.pinned.checked.prog.looks [] ∧ ∀ (j : Nat) t, fn.params[j]? = some t → Tryz.pinned.checked.prog.wantsStandIn t = false := by
 obtain rfl : f = 6 := Option.some.inj ((show Tryz.prog.funcNamed "quittance/quittancelaw17.ExtsAts" = some 6 by kernel_rfl).symm.trans hf) |>.symm
 obtain rfl : fn = Tryz.f6 := (Option.some.inj (Tryz.func6.symm.trans hfn)).symm
 refine ⟨by kernel_rfl, fun j t ht => ?_⟩
 rw [Tryz.params6] at ht
 match j, ht with
 | 0, ht => (obtain rfl : 22 = t := by simpa using ht); exact (show Tryz.prog.wantsStandIn 22 = false by kernel_rfl)
 | 1, ht => (obtain rfl : 37 = t := by simpa using ht); exact (show Tryz.prog.wantsStandIn 37 = false by kernel_rfl)
 | 2, ht => (obtain rfl : 3 = t := by simpa using ht); exact (show Tryz.prog.wantsStandIn 3 = false by kernel_rfl)
 | j + 3, ht => simp at ht
theorem proved : Rows.ExtsAtsCardSaid :=
 Claim7.holds_tied_plain_at .later [] _ _ _ _ over (fun _ h => by cases h) (by kernel_rfl) (fun _ h => by cases h) extsAts_row_tie rfl ⟨rfl, rfl⟩ (by kernel_rfl) rfl plain (by kernel_rfl)
#print axioms proved
end Go.Proofs.YtaagjnlkinojcaaGreatDoor.extsAts

/-
  The statement of ExtsBack: for every input the law returns true, and each argument reads afterwards as it read before. No condition.
-/
import Derived.Test.YtaagjnlkinojcaaGreatDoorCards
import Derived.Test.YtaagjnlkinojcaaGreatDoorTie
import Derived.LaidMore
import Derived.Lay
import Derived.SevenTiedAt
import Derived.Stop.Joined
import Derived.Stop.LaidErr
import Derived.Test.YtaagjnlkinojcaaGreatDoorE27
import Derived.Test.YtaagjnlkinojcaaGreatDoorW19
namespace Go.Proofs.YtaagjnlkinojcaaGreatDoor.extsBack
open Go Go.ChangeShapes Go.WideShapes Go.ChangeAt Go.RowKit Go.Sx
open Go.Proofs.YtaagjnlkinojcaaGreatDoor
set_option linter.unusedVariables false
theorem own : ownKnob Tryz.prog.godebug = none := by kernel_rfl
theorem laidOut : laidOutB Tryz.prog = true := by kernel_rfl
set_option maxRecDepth 100000 in
theorem lifted (os : Os) (started : os.Started) (H : Type) (enc : TypeId × Value → H) :
   ReturnsInHanded {} Tryz.checked os 5 .any (fun w args => (Rows.extsBackSpec.pre enc Tryz.prog Tryz.f5 Rows.extsBackRow.domain false w args ∧ laidMetH Tryz.prog Rows.extsBackRow.laid w) ∧ sizedMet enc Tryz.prog Tryz.f5 (OpenSpec.ofChange Rows.extsBackSpec) false w args)
     (Rows.extsBackSpec.post enc Tryz.prog Tryz.f5 false true false false) := by
 refine returnsInHanded_of_change_and (C := Tryz.checked) (X := fun w _ => laidMetH Tryz.prog Rows.extsBackRow.laid w) (fun _ _ _ hh h => h.of_heap hh) own started (by kernel_rfl) Tryz.func5
   (ChangeSpec.witness_shaped (enc := enc) (C := Tryz.checked) (os := os) (X := fun w _ => laidMetH Tryz.prog Rows.extsBackRow.laid w) false (World.laidAll Tryz.prog os Rows.extsBackRow.laid) #[.slice none 0 0, .int .i64 0] 8 (World.laidAll_os _ _ _)
     (World.shaped_of_ZipB (by kernel_rfl) (by kernel_rfl)) (by kernel_rfl) (by kernel_rfl) (by kernel_rfl)
     (by rw [MakeChecks.laidMetH_plain _ _ _ (by kernel_rfl)]; exact laidMet_laidAll _ (by kernel_rfl) (by kernel_rfl))) ?_
 intro W base args ds gs before hval0 hW hcnd _ hL _
 have hval : ∀ (j : Nat) t v, Tryz.f5.params[j]? = some t → args[j]? = some v → Value.okWide Tryz.prog W .any base t v := hval0
 have hW' := hW
 obtain ⟨p, q, hA0, hV, rfl, hfz, hnd⟩ := hW
 have hA : DataW.TrodAll enc Tryz.prog W 0 (fun _ => true) true Tryz.f5.params.toList args.toList ds p := hA0
 rw [Tryz.params5] at hA hval
 obtain ⟨v0, vs0, d0, ds0, p0, q0, hargs, rfl, rfl, h0, r0⟩ := trodAll_cons hA
 obtain ⟨v1, vs1, d1, ds1, p1, q1, rfl, rfl, rfl, h1, r1⟩ := trodAll_cons r0
 obtain ⟨rfl, rfl, rfl⟩ := trodAll_nil r1
 obtain rfl : args = #[v0, v1] := by cases args; simp_all
 obtain ⟨rfl, rfl⟩ := trodVars_none hV
 have k0 := h0
 have lt0 : ∀ x ∈ p0, x.block < W.heap.size := by obtain ⟨m, hm⟩ := k0; exact DataW.trod_lt m _ _ _ hm
 obtain ⟨l0, hl0, hw0, a0⟩ := Sx.open_bytes Tryz.underlying22 Tryz.underlying5 (by kernel_rfl) (hval 0 22 v0 rfl rfl) h0
 have k1 := h1
 have lt1 : ∀ x ∈ p1, x.block < W.heap.size := by obtain ⟨m, hm⟩ := k1; exact DataW.trod_lt m _ _ _ hm
 obtain ⟨n1, hw1, a1⟩ := Sx.open_int Tryz.underlying3 (hval 1 3 v1 rfl rfl) h1
 clear hA0 hval0
 have hG : Lib.TabIs Tryz.prog W "internal/strconv.uint64pow10" .u64 Lib.pow10Tab := by
   rw [MakeChecks.laidMetH_plain _ _ _ (by kernel_rfl)] at hL
   exact Lib.tabIs_of_head (g := 0) (t := 216) (e := 55) (n := 20) (by kernel_rfl) (by kernel_rfl) Tryz.underlying216 Tryz.underlying55 (by kernel_rfl) (by kernel_rfl) (laidMet.tail (laidMet.tail hL))
 have hgd : GdK W (fun _ => False) := fun p hp => by
   obtain rfl := List.mem_singleton.1 hp
   refine ⟨fun h => h, ?_⟩
   unfold Lib.TabIs World.var? at hG
   rw [show Tryz.prog.globalNamed "internal/strconv.uint64pow10" = some gdN by kernel_rfl] at hG
   simp only [Option.bind_some] at hG
   split at hG
   · rename_i cs t fr h
     rw [h, Option.some.inj hG]
     exact ⟨_, _, rfl⟩
   · cases hG
 have hcalls := Ct.calls (back17_ok l0 n1 hl0 hw0 hw1) W [v0, v1] rfl (fun i x v hx hv => by
   match i, hx, hv with
   | 0, hx, hv => simp at hx hv; subst hx hv; exact a0 _
   | 1, hx, hv => simp at hx hv; subst hx hv; exact a1 _) hgd
 refine hcalls.mono fun e W' ⟨he, bel⟩ => ?_
 subst he
 exact ⟨_, rfl, _, _, _, [], _, [], hW', trodAll_mk1 (shut_bool Tryz.underlying4 _), (trodAll_cons_mk (Below.trod laidOut (by kernel_rfl) (of_decide_eq_true (by kernel_rfl)) k0 bel lt0) (trodAll_cons_mk (Below.trod laidOut (by kernel_rfl) (of_decide_eq_true (by kernel_rfl)) k1 bel lt1) trodAll_mk0)), rfl, bel.frame _, fun h => by cases h⟩
theorem over : Rows.extsBackRow.holds Tryz.pinned (OpenSpec.ofChange Rows.extsBackSpec) :=
 OpenClaim.holds_of_wide 5 Tryz.f5 rfl rfl rfl rfl rfl rfl rfl ⟨rfl, rfl, rfl, rfl, rfl⟩ rfl rfl rfl rfl rfl (by kernel_rfl) Tryz.func5 (by kernel_rfl)
   (of_decide_eq_true (by kernel_rfl)) (by unfold Func.isWrapper; first | (rw [if_pos (by decide +kernel)]; kernel_rfl) | (rw [if_neg (by decide +kernel)]; exact ⟨rfl, rfl⟩))
   (fun os started H enc _ => lifted os started H enc)
theorem plain (f : FuncId) (fn : Func) (hf : Tryz.pinned.checked.prog.funcNamed "quittance/quittancelaw17.ExtsBack" = some f) (hfn : Tryz.pinned.checked.prog.funcs[f]? = some fn) :
   false = Tryz.pinned.checked.prog.looks [] ∧ ∀ (j : Nat) t, fn.params[j]? = some t → Tryz.pinned.checked.prog.wantsStandIn t = false := by
 obtain rfl : f = 5 := Option.some.inj ((show Tryz.prog.funcNamed "quittance/quittancelaw17.ExtsBack" = some 5 by kernel_rfl).symm.trans hf) |>.symm
 obtain rfl : fn = Tryz.f5 := (Option.some.inj (Tryz.func5.symm.trans hfn)).symm
 refine ⟨by kernel_rfl, fun j t ht => ?_⟩
 rw [Tryz.params5] at ht
 match j, ht with
 | 0, ht => (obtain rfl : 22 = t := by simpa using ht); exact (show Tryz.prog.wantsStandIn 22 = false by kernel_rfl)
 | 1, ht => (obtain rfl : 3 = t := by simpa using ht); exact (show Tryz.prog.wantsStandIn 3 = false by kernel_rfl)
 | j + 2, ht => simp at ht
theorem proved : Rows.ExtsBackCardSaid :=
 Claim7.holds_tied_plain_at .later [] _ _ _ _ over (fun _ h => by cases h) (by kernel_rfl) (fun _ h => by cases h) extsBack_row_tie rfl ⟨rfl, rfl⟩ (by kernel_rfl) rfl plain (by kernel_rfl)
#print axioms proved
end Go.Proofs.YtaagjnlkinojcaaGreatDoor.extsBack

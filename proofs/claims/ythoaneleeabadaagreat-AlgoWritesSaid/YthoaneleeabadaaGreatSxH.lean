/-
  Structs of whatever fields that came in, as data. No condition.
-/
import Derived.Test.YthoaneleeabadaaGreatA23
import Derived.Test.YthoaneleeabadaaGreatM10
import Derived.Test.YthoaneleeabadaaGreatB12
import Derived.Test.YthoaneleeabadaaGreatA16
import Derived.Test.YthoaneleeabadaaGreatA14
import Derived.Test.YthoaneleeabadaaGreatSxR
import Derived.Test.YthoaneleeabadaaGreatSxP
import Derived.Test.YthoaneleeabadaaGreatD8
namespace Go.Proofs.YthoaneleeabadaaGreat
set_option linter.unusedSimpArgs false
set_option linter.unusedVariables false
open Go.Sx
set_option maxRecDepth 10000
theorem toalg_ok (o m : List Int) (ho : o.length ≤ 9223372036854775807) (hm : m.length ≤ 9223372036854775807) : Ct Tryz.prog 58 [algA o m] [] (algA (o.take (min (o.length : Int) 40).toNat) (m.take (min (m.length : Int) 200).toNat)) [] [] := by
  refine Ct_intro Tryz.func58 rfl rfl rfl rfl rfl (fun E hn hb => ?_)
  repeat refine nx ?_
  exact rt1 []
theorem topub_ok (o m n : List Int) (ho : o.length ≤ 9223372036854775807) (hm : m.length ≤ 9223372036854775807) (hn2 : n.length ≤ 9223372036854775807) : Ct Tryz.prog 9 [pubA o m n] [] (pubA (o.take (min (o.length : Int) 40).toNat) (m.take (min (m.length : Int) 200).toNat) (n.take (min (n.length : Int) 100).toNat)) [] [] := by
  have h := toalg_ok o m ho hm
  refine Ct_intro Tryz.func9 rfl rfl rfl rfl rfl (fun E hn hb => ?_)
  repeat refine nx ?_
  exact rt1 []
theorem rhmac_ok : Ct Tryz.prog 21 [] [] (algA [1, 2, 840, 113549, 2, 9] [5, 0]) [] [] := by
  refine Ct_intro Tryz.func21 rfl rfl rfl rfl rfl (fun E hn hb => ?_)
  repeat refine nx ?_
  exact rt1 []
theorem rsha_ok : Ct Tryz.prog 23 [] [] (algA [2, 16, 840, 1, 101, 3, 4, 2, 1] [5, 0]) [] [] := by
  refine Ct_intro Tryz.func23 rfl rfl rfl rfl rfl (fun E hn hb => ?_)
  repeat refine nx ?_
  exact rt1 []
theorem rrightalg_ok (o m : List Int) (ho : o.length ≤ 1000000) (hm : m.length ≤ 100000) (hw : WfB m) : Ct Tryz.prog 15 [algA o m] [] (lv (.bool (rightG o m))) [] [] := by
  have h1 := refwholes_ok m 0 (Nat.zero_le _) hm hw
  have h2 := refRight_ok o (by omega)
  unfold rightG
  generalize wholesP m 0 = X at *
  obtain ⟨ws, e⟩ := X
  dsimp only at *
  generalize rightO o = R at *
  refine Ct_intro Tryz.func15 rfl rfl rfl rfl rfl (fun E hn hb => ?_)
  repeat refine nx ?_
  refine rt2 [] (congrArg (fun x => lv (.bool x)) ?_) trivial
  cases R
  · simp
  · have : decide (ws.length < 2) = decide ((ws.length : Int) ≤ 1) := by by_cases h : ws.length < 2 <;> simp [h] <;> omega
    by_cases he : e = 0
    · simp [he, this]
    · simp [he]
theorem rrightpub_ok (o m n : List Int) (ho : o.length ≤ 1000000) (hm : m.length ≤ 100000) (hw : WfB m) (hn2 : n.length ≤ 1000000) : Ct Tryz.prog 17 [pubA o m n] [] (lv (.bool (rightK o m n))) [] [] := by
  have h := rrightalg_ok o m ho hm hw
  unfold rightK
  generalize rightG o m = G at *
  cases G
  all_goals
    refine Ct_intro Tryz.func17 rfl rfl rfl rfl rfl (fun E hn hb => ?_)
    repeat refine nx ?_
    refine rt2 [] (congrArg (fun x => lv (.bool x)) ?_) trivial
    by_cases h1 : 1 ≤ n.length <;> by_cases h2 : n.length ≤ 64 <;> simp [h1, h2] <;> omega
theorem digest_ok (o m n : List Int) (hn2 : n.length ≤ 1000000) (hw : WfB n) : Ct Tryz.prog 24 [pubA o m n] [] (.ai .u8 (digS n)) [] [] := by
  have h := msum_ok [n] (by simpa using hw) (by simp) (by simpa using hn2)
  rw [show [n].flatten = n by simp] at h
  have hdl := digS_len n
  have hdn : digS n ≠ [] := by intro h; rw [h] at hdl; simp at hdl
  generalize digS n = D at *
  refine Ct_intro Tryz.func24 rfl rfl rfl rfl rfl (fun E hn hb => ?_)
  repeat (first | refine s_allocAN .u8 32 rfl rfl rfl (by rw [hn]; rfl) (by kernel_rfl) ?_ | refine nx ?_)
  refine s_storeA rfl rfl rfl rfl rfl (by first | trivial | (simp; done) | (simp; omega) | (simp at *; done) | (simp at *; omega)) rfl (by rw [cellsOf46]; first | rfl | assumption | omega | kernel_rfl | (simp; done) | (simp; omega) | (simp at *; omega)) (by first | rfl | assumption | omega | kernel_rfl | (simp; done) | (simp; omega) | (simp at *; omega)) (by first | assumption | (simp; done) | exact List.cons_ne_nil _ _) ?_
  (repeat refine nst ?_)
  exact N_retN [] rfl (⟨rfl, by rw [cellsOf46]; omega, hdn⟩) ⟨rfl, by first | trivial | exact ⟨rfl, rfl⟩, by first | trivial | exact rfl | exact ⟨rfl, rfl⟩, rfl⟩ hb rfl (by first | trivial | (simp; done) | (simp [ordL]; done))
theorem refWholeO_ok (o : List Int) (hr : rightO o = true) : Ct Tryz.prog 84 [I64 o] [] (.c (.own 0 1 0 (wrapL (ofT 6) (arcsL (numsL o))).length)) [] [.row (.ints .u8 (wrapL (ofT 6) (arcsL (numsL o))))] := by
  have hlen := conO_len hr
  have hc := refCon_ok o hr
  generalize arcsL (numsL o) = X at *
  have hwr := refwrapO_ok (ofT 6) X (by decide) (by omega)
  have hof := refoft_ok 6
  generalize ofT 6 = t at *
  generalize wrapL t X = Y at *
  refine Ct_intro Tryz.func84 rfl rfl rfl rfl rfl (fun E hn hb => ?_)
  repeat refine nx ?_
  exact rt1 [70]
theorem rwralg_ok (o m : List Int) (hg : rightG o m = true) (hm : m.length ≤ 100000) : Ct Tryz.prog 29 [algA o m] [] (.c (.own 0 1 0 (wrG o m).1.length)) [] [.row (.ints .u8 (wrG o m).1)] := by
  have h1 := refWholeO_ok o (rightG_o hg)
  have h2 := refoft_ok 16
  have hl := whole_len (rightG_o hg)
  have h3 := refwrapO_ok (ofT 16) (wrapL (ofT 6) (arcsL (numsL o)) ++ m) (by decide) (by rw [List.length_append]; omega)
  unfold wrG
  rw [if_pos hg]
  dsimp only
  generalize wrapL (ofT 6) (arcsL (numsL o)) = W at *
  generalize wrapL (ofT 16) (W ++ m) = V at *
  refine Ct_intro Tryz.func29 rfl rfl rfl rfl rfl (fun E hn hb => ?_)
  repeat refine nx ?_
  exact rt1 [74]
theorem rwrpub_ok (o m n : List Int) (hg : rightK o m n = true) (hm : m.length ≤ 100000) : Ct Tryz.prog 31 [pubA o m n] [] (.c (.own 0 1 0 (wrK o m n).1.length)) [] [.row (.ints .u8 (wrK o m n).1)] := by
  have hk := rightK_m hg
  have h1 := rwralg_ok o m hk.1 hm
  have hl := whole_len (rightG_o hk.1)
  have l2 := wrap_len (ofT 16) (wrapL (ofT 6) (arcsL (numsL o)) ++ m)
  have l3 := wrap_len (ofT 3) (0 :: n)
  simp only [List.length_append, List.length_cons] at l2 l3
  have h3 := refoft_ok 3
  have h16 := refoft_ok 16
  have h5 := refwrap_ok (ofT 3) (0 :: n) (by decide) (by simp; omega)
  have h6 := refwrapO_ok (ofT 16) (wrapL (ofT 16) (wrapL (ofT 6) (arcsL (numsL o)) ++ m) ++ wrapL (ofT 3) (0 :: n)) (by decide) (by rw [List.length_append]; omega)
  unfold wrK
  rw [if_pos hg]
  unfold wrG at h1
  rw [if_pos hk.1] at h1
  dsimp only at h1 ⊢
  rw [show (0 : Int) :: n = [0] ++ n by rfl] at *
  generalize wrapL (ofT 16) (wrapL (ofT 6) (arcsL (numsL o)) ++ m) = W at *
  generalize wrapL (ofT 3) ([0] ++ n) = V at *
  generalize wrapL (ofT 16) (W ++ V) = U at *
  refine Ct_intro Tryz.func31 rfl rfl rfl rfl rfl (fun E hn hb => ?_)
  repeat refine nx ?_
  exact rt1 [80]
end Go.Proofs.YthoaneleeabadaaGreat

namespace Go.Sx
open Go
set_option linter.unusedVariables false
section
variable {P : Program} {E : Env} {ops : Array Oper} {o : Oper} {σ : St} {ns b own : List Nat} {bs : List (List Nat × List Nat)} {l : List Oper} {K : St → Prop}
theorem dea1 {d : Option Nat} {t t' e : TypeId} {n : Nat} {k k' : IntKind} {y z : Operand} {p q : List Prop} {l1 m : List Int} (hk : DrawU P E ops ns bs l (σ.put d (lv (.bool ((l1 == m) != false)))) K) (hop : o.op = .binOp .eql t y z t' := by exact rfl) (hg : o.guard = none := by exact rfl) (hd : forceO o.dst some = some d := by exact rfl) (hE : dstOk E.n d = true := by rw [hn]; exact rfl)
    (ht : P.underlying t = some (.array n e) := by exact rfl) (he : P.underlying e = some (.int k') := by exact rfl) (hc : P.cellsOf e = 1 := by first | (simp; done) | fail) (hy : ox ⟨σ.tm, fgt b σ.hp⟩ y = (p, .ai k l1) := by exact rfl) (hz : ox ⟨σ.tm, fgt b σ.hp⟩ z = (q, .ai k m) := by exact rfl) (hT : P.eqGuardType P.depth t = false := by kernel_rfl)
    (hl : l1.length = n := by first | assumption | (simp; done) | omega) (hm : m.length = n := by first | assumption | (simp; done) | omega) (hp : AllP (p ++ q) := by first | trivial | (simp; done) | (simp at *; done)) : DrawU P E ops ns ((b, own) :: bs) (o :: l) σ K :=
  DU_op hd hE (ops_of (opys_eqA (neg := false) hop ht he hc hy hz hp hT hl hm) hg) hk
theorem dea2 {i : Nat} {g G : Bool} {d : Option Nat} {t t' e : TypeId} {n : Nat} {k k' : IntKind} {y z : Operand} {p q : List Prop} {l1 m : List Int} (hk : DrawU P E ops ns bs l (σ.put d (.cnd G (lv (.bool ((l1 == m) != false))))) K) (hop : o.op = .binOp .eql t y z t' := by exact rfl) (hg : o.guard = some (i, g) := by exact rfl) (hG : guardC ops ⟨σ.tm, fgt b σ.hp⟩ i g = some G := by exact rfl) (hd : forceO o.dst some = some d := by exact rfl) (hE : dstOk E.n d = true := by rw [hn]; exact rfl)
    (ht : P.underlying t = some (.array n e) := by exact rfl) (he : P.underlying e = some (.int k') := by exact rfl) (hc : P.cellsOf e = 1 := by first | (simp; done) | fail) (hy : ox ⟨σ.tm, fgt b σ.hp⟩ y = (p, .ai k l1) := by exact rfl) (hz : ox ⟨σ.tm, fgt b σ.hp⟩ z = (q, .ai k m) := by exact rfl) (hT : P.eqGuardType P.depth t = false := by kernel_rfl)
    (hl : l1.length = n := by first | assumption | (simp; done) | omega) (hm : m.length = n := by first | assumption | (simp; done) | omega) (hp : G = true → AllP (p ++ q) := by intro hG; first | trivial | exact hG | exact ⟨hG, hG⟩ | exact ⟨hG, trivial⟩ | (simp; done) | (simp at *; done) | fail) : DrawU P E ops ns ((b, own) :: bs) (o :: l) σ K :=
  DU_op hd hE (ops_ofG hg hG fun h => opys_eqA (neg := false) hop ht he hc hy hz (hp h) hT hl hm) hk
theorem dna1 {d : Option Nat} {t t' e : TypeId} {n : Nat} {k k' : IntKind} {y z : Operand} {p q : List Prop} {l1 m : List Int} (hk : DrawU P E ops ns bs l (σ.put d (lv (.bool ((l1 == m) != true)))) K) (hop : o.op = .binOp .neq t y z t' := by exact rfl) (hg : o.guard = none := by exact rfl) (hd : forceO o.dst some = some d := by exact rfl) (hE : dstOk E.n d = true := by rw [hn]; exact rfl)
    (ht : P.underlying t = some (.array n e) := by exact rfl) (he : P.underlying e = some (.int k') := by exact rfl) (hc : P.cellsOf e = 1 := by first | (simp; done) | fail) (hy : ox ⟨σ.tm, fgt b σ.hp⟩ y = (p, .ai k l1) := by exact rfl) (hz : ox ⟨σ.tm, fgt b σ.hp⟩ z = (q, .ai k m) := by exact rfl) (hT : P.eqGuardType P.depth t = false := by kernel_rfl)
    (hl : l1.length = n := by first | assumption | (simp; done) | omega) (hm : m.length = n := by first | assumption | (simp; done) | omega) (hp : AllP (p ++ q) := by first | trivial | (simp; done) | (simp at *; done)) : DrawU P E ops ns ((b, own) :: bs) (o :: l) σ K :=
  DU_op hd hE (ops_of (opys_eqA (neg := true) hop ht he hc hy hz hp hT hl hm) hg) hk
theorem dna2 {i : Nat} {g G : Bool} {d : Option Nat} {t t' e : TypeId} {n : Nat} {k k' : IntKind} {y z : Operand} {p q : List Prop} {l1 m : List Int} (hk : DrawU P E ops ns bs l (σ.put d (.cnd G (lv (.bool ((l1 == m) != true))))) K) (hop : o.op = .binOp .neq t y z t' := by exact rfl) (hg : o.guard = some (i, g) := by exact rfl) (hG : guardC ops ⟨σ.tm, fgt b σ.hp⟩ i g = some G := by exact rfl) (hd : forceO o.dst some = some d := by exact rfl) (hE : dstOk E.n d = true := by rw [hn]; exact rfl)
    (ht : P.underlying t = some (.array n e) := by exact rfl) (he : P.underlying e = some (.int k') := by exact rfl) (hc : P.cellsOf e = 1 := by first | (simp; done) | fail) (hy : ox ⟨σ.tm, fgt b σ.hp⟩ y = (p, .ai k l1) := by exact rfl) (hz : ox ⟨σ.tm, fgt b σ.hp⟩ z = (q, .ai k m) := by exact rfl) (hT : P.eqGuardType P.depth t = false := by kernel_rfl)
    (hl : l1.length = n := by first | assumption | (simp; done) | omega) (hm : m.length = n := by first | assumption | (simp; done) | omega) (hp : G = true → AllP (p ++ q) := by intro hG; first | trivial | exact hG | exact ⟨hG, hG⟩ | exact ⟨hG, trivial⟩ | (simp; done) | (simp at *; done) | fail) : DrawU P E ops ns ((b, own) :: bs) (o :: l) σ K :=
  DU_op hd hE (ops_ofG hg hG fun h => opys_eqA (neg := true) hop ht he hc hy hz (hp h) hT hl hm) hk
theorem opys_arr {t : TypeId} {parts : Array (Nat × Operand)} {d : Option Nat} {ps : List Prop} {x : Av} (hop : o.op = .build t parts) (h : norm o.dst (arrP P t (parts.toList.map fun (i, x) => (i, ox σ x))) = some (d, ps, x)) (hp : AllP ps) : OpYS P E ops o σ x := fun τ hl => by
  have e1 : (parts.toList.map fun (i, x) => (i, ox τ x)) = parts.toList.map fun (i, x) => (i, ox σ x) := List.map_congr_left fun p hp => by
    obtain ⟨i, y⟩ := p
    have : ox τ y = ox σ y := hl.ox y (by
      rw [hop]
      simp only [Op.operands]
      simp
      exact ⟨i, by simpa using hp⟩)
    simp only [this]
  exact opy_arr hop (by rw [e1]; exact h) hp
theorem dba1 {t : TypeId} {parts : Array (Nat × Operand)} {d d' : Option Nat} {ps : List Prop} {x : Av} (hk : DrawU P E ops ns bs l (σ.put d x) K) (hop : o.op = .build t parts := by exact rfl) (hg : o.guard = none := by exact rfl) (hd : forceO o.dst some = some d := by exact rfl) (hE : dstOk E.n d = true := by rw [hn]; exact rfl)
    (h : norm o.dst (arrP P t (parts.toList.map fun (i, x) => (i, ox ⟨σ.tm, fgt b σ.hp⟩ x))) = some (d', ps, x) := by exact rfl) (hp : AllP ps := by first | trivial | (simp; done) | (simp; omega) | (simp at *; done)) : DrawU P E ops ns ((b, own) :: bs) (o :: l) σ K := DU_op hd hE (ops_of (opys_arr hop h hp) hg) hk
theorem ba1 {Q : Exit → Act → World → Prop} {rest : List Oper} {t : TypeId} {parts : Array (Nat × Operand)} {d d' : Option Nat} {ps : List Prop} {x : Av} (hk : WL P E ops Q rest (σ.put d x)) (hop : o.op = .build t parts := by exact rfl) (hg : o.guard = none := by exact rfl) (hd : forceO o.dst some = some d := by exact rfl) (hE : dstOk E.n d = true := by rw [hn]; exact rfl)
    (h : norm o.dst (arrP P t (parts.toList.map fun (i, x) => (i, ox σ x))) = some (d', ps, x) := by exact rfl) (hp : AllP ps := by first | trivial | (simp; done) | (simp; omega) | (simp at *; done)) : WL P E ops Q (o :: rest) σ := by
  simp only [forceO_eq, Option.some.injEq] at hd
  subst hd
  exact WL_q (opq_of (opy_arr hop h hp) hg) hE hk
end
end Go.Sx

namespace Go.Proofs.YthoaneleeabadaaGreat
set_option linter.unusedSimpArgs false
set_option linter.unusedVariables false
open Go.Sx
set_option maxRecDepth 10000
theorem rwralgD_ok (o m : List Int) (hg : rightG o m = true) (hm : m.length ≤ 100000) : Ct Tryz.prog 29 [algA o m] [] (B8 (wrG o m).1) [] [] :=
  (rwralg_ok o m hg hm).freeze ⟨rfl, rfl, rfl, by simp, by rw [List.drop_zero, List.take_length]⟩ rfl
theorem rwrpubD_ok (o m n : List Int) (hg : rightK o m n = true) (hm : m.length ≤ 100000) : Ct Tryz.prog 31 [pubA o m n] [] (B8 (wrK o m n).1) [] [] :=
  (rwrpub_ok o m n hg hm).freeze ⟨rfl, rfl, rfl, by simp, by rw [List.drop_zero, List.take_length]⟩ rfl
theorem arcT_wf : ∀ (k n : Nat), WfB (arcT k n)
  | 0, n => fun x hx => by simp [arcT] at hx
  | k + 1, n => fun x hx => by
    unfold arcT at hx
    split at hx
    · cases hx
    · rcases List.mem_cons.1 hx with rfl | hx
      · omega
      · exact arcT_wf k (n / 128) x hx
theorem arcL_wf (n : Nat) : WfB (arcL n) := fun x hx => by
  unfold arcL at hx
  rw [List.mem_reverse] at hx
  rcases List.mem_cons.1 hx with rfl | hx
  · omega
  · exact arcT_wf 5 _ x hx
theorem arcsL_wf (l : List Int) : WfB (arcsL l) := fun x hx => by
  unfold arcsL at hx
  obtain ⟨y, _, hy⟩ := List.mem_flatMap.1 hx
  exact arcL_wf _ x hy
theorem wrG_wf (o : List Int) {m : List Int} (hw : WfB m) : WfB (wrapL (ofT 16) (wrapL (ofT 6) (arcsL (numsL o)) ++ m)) :=
  wrap_wf _ _ (by decide) (wf_app (wrap_wf _ _ (by decide) (arcsL_wf _)) hw)
theorem wrK_wf (o : List Int) {m n : List Int} (hw : WfB m) (hw2 : WfB n) : WfB (wrapL (ofT 16) (wrapL (ofT 16) (wrapL (ofT 6) (arcsL (numsL o)) ++ m) ++ wrapL (ofT 3) (0 :: n))) :=
  wrap_wf _ _ (by decide) (wf_app (wrG_wf o hw) (wrap_wf _ _ (by decide) fun x hx => by
    rcases List.mem_cons.1 hx with rfl | hx
    · omega
    · exact hw2 x hx))
set_option maxHeartbeats 16000000 in
theorem writes18_ok (o0 m0 n0 : List Int) (ho0 : o0.length ≤ 9223372036854775807) (hm0 : m0.length ≤ 9223372036854775807) (hn0 : n0.length ≤ 9223372036854775807) (hw0 : WfB m0) (hw1 : WfB n0) : Ct Tryz.prog 3 [pubA o0 m0 n0] [] (lv (.bool true)) [] [] := by
  have hkn := known18_ok
  have hto := topub_ok o0 m0 n0 ho0 hm0 hn0
  have ho : (o0.take (min (o0.length : Int) 40).toNat).length ≤ 40 := by simp; omega
  have hm : (m0.take (min (m0.length : Int) 200).toNat).length ≤ 200 := by simp; omega
  have hnn : (n0.take (min (n0.length : Int) 100).toNat).length ≤ 100 := by simp; omega
  have hwm : WfB (m0.take (min (m0.length : Int) 200).toNat) := fun x hx => hw0 x (List.mem_of_mem_take hx)
  have hwn : WfB (n0.take (min (n0.length : Int) 100).toNat) := fun x hx => hw1 x (List.mem_of_mem_take hx)
  generalize o0.take (min (o0.length : Int) 40).toNat = o at *
  generalize m0.take (min (m0.length : Int) 200).toNat = m at *
  generalize n0.take (min (n0.length : Int) 100).toNat = n at *
  have hof := ofpub_ok o m n
  have hwa := wralg_ok o m (by omega) (by omega) hwm
  have hwp := wrpub_ok o m n (by omega) (by omega) (by omega) hwm hwn
  have r1 := rightalg_ok o m (by omega) (by omega) hwm
  have r2 := rrightalg_ok o m (by omega) (by omega) hwm
  have r3 := rightpub_ok o m n (by omega) (by omega) (by omega) hwm
  have r4 := rrightpub_ok o m n (by omega) (by omega) hwm (by omega)
  have k1 := hmac_ok
  have k2 := ofalg_ok [1, 2, 840, 113549, 2, 9] [5, 0]
  have k3 := rhmac_ok
  have k4 := likealg_ok [1, 2, 840, 113549, 2, 9] [5, 0] (by simp) (by simp)
  have j1 := sha256_ok
  have j2 := ofalg_ok [2, 16, 840, 1, 101, 3, 4, 2, 1] [5, 0]
  have j3 := rsha_ok
  have j4 := likealg_ok [2, 16, 840, 1, 101, 3, 4, 2, 1] [5, 0] (by simp) (by simp)
  have d1 := digest_ok o m n (by omega) hwn
  have d2 := refsum_ok n hwn (by omega)
  have dl := digS_len n
  have c1 := ofalg_ok o m
  have c2 := likealg_ok o m (by omega) (by omega)
  have c3 := likepub_ok o m n (by omega) (by omega) (by omega)
  generalize digS n = D at *
  have beq : (D == D) = true := by simp
  by_cases hg : rightG o m = true
  · have a1 := rwralgD_ok o m hg (by omega)
    have hwl := whole_len (rightG_o hg)
    have l2 := wrap_len (ofT 16) (wrapL (ofT 6) (arcsL (numsL o)) ++ m)
    have fw := algR_fwd [] [] hwm hg (by omega)
    rw [List.append_nil, List.nil_append, List.length_nil, Nat.zero_add] at fw
    have e1 : wrG o m = (wrapL (ofT 16) (wrapL (ofT 6) (arcsL (numsL o)) ++ m), 0) := by unfold wrG; rw [if_pos hg]
    have w1 := wrG_wf o hwm
    rw [List.length_append] at l2
    rw [e1] at hwa a1
    have ra := readalg_ok (wrapL (ofT 16) (wrapL (ofT 6) (arcsL (numsL o)) ++ m)) 0 (Nat.zero_le _) (by omega) w1
    rw [fw] at ra
    by_cases hk : rightK o m n = true
    · have a2 := rwrpubD_ok o m n hk (by omega)
      have hk3 := rightK_m hk
      have l3 := wrap_len (ofT 3) (0 :: n)
      have l4 := wrap_len (ofT 16) (wrapL (ofT 16) (wrapL (ofT 6) (arcsL (numsL o)) ++ m) ++ wrapL (ofT 3) (0 :: n))
      have fp := pubR_fwd [] [] hwm hk (by omega)
      rw [List.append_nil, List.nil_append, List.length_nil, Nat.zero_add] at fp
      have e2 : wrK o m n = (wrapL (ofT 16) (wrapL (ofT 16) (wrapL (ofT 6) (arcsL (numsL o)) ++ m) ++ wrapL (ofT 3) (0 :: n)), 0) := by unfold wrK; rw [if_pos hk]
      have w2 := wrK_wf o hwm hwn
      simp only [List.length_append, List.length_cons] at l3 l4
      rw [e2] at hwp a2
      have rp := readpub_ok (wrapL (ofT 16) (wrapL (ofT 16) (wrapL (ofT 6) (arcsL (numsL o)) ++ m) ++ wrapL (ofT 3) (0 :: n))) 0 (Nat.zero_le _) (by omega) w2
      rw [fp] at rp
      rw [hg] at r1 r2
      rw [hk] at r3 r4
      dsimp only at *
      generalize wrapL (ofT 16) (wrapL (ofT 16) (wrapL (ofT 6) (arcsL (numsL o)) ++ m) ++ wrapL (ofT 3) (0 :: n)) = U at *
      generalize wrapL (ofT 16) (wrapL (ofT 6) (arcsL (numsL o)) ++ m) = V at *
      have cn1 := curnew_ok V (by omega)
      have cn2 := curnew_ok U (by omega)
      have s1 := same_ok V V (by omega) (by omega)
      have s2 := same_ok U U (by omega) (by omega)
      rw [decide_eq_true rfl] at s1 s2
      refine Ct_intro Tryz.func3 rfl rfl rfl rfl rfl (fun E hn hb => ?_)
      repeat (first | refine nxm ?_ | refine dna2 ?_ | refine dea2 ?_ | refine dna1 ?_ | refine dea1 ?_ | refine ba1 ?_ | refine dba1 ?_)
      refine rt2 [] (congrArg (fun x => lv (.bool x)) ?_) trivial; (simp [eqCs, Cell.kill, Cell.kill1])
    · rw [Bool.not_eq_true] at hk
      have e2 : wrK o m n = ([], 1) := by unfold wrK; rw [if_neg (by simp [hk])]
      rw [e2] at hwp
      rw [hg] at r1 r2
      rw [hk] at r3 r4
      dsimp only at *
      generalize wrapL (ofT 16) (wrapL (ofT 6) (arcsL (numsL o)) ++ m) = V at *
      have cn1 := curnew_ok V (by omega)
      have s1 := same_ok V V (by omega) (by omega)
      rw [decide_eq_true rfl] at s1
      refine Ct_intro Tryz.func3 rfl rfl rfl rfl rfl (fun E hn hb => ?_)
      repeat (first | refine nxm ?_ | refine dna2 ?_ | refine dea2 ?_ | refine dna1 ?_ | refine dea1 ?_ | refine ba1 ?_ | refine dba1 ?_)
      refine rt2 [] (congrArg (fun x => lv (.bool x)) ?_) trivial; (simp [eqCs, Cell.kill, Cell.kill1])
  · rw [Bool.not_eq_true] at hg
    have hk : rightK o m n = false := by unfold rightK; rw [hg]; rfl
    have e1 : wrG o m = ([], 1) := by unfold wrG; rw [if_neg (by simp [hg])]
    have e2 : wrK o m n = ([], 1) := by unfold wrK; rw [if_neg (by simp [hk])]
    rw [e1] at hwa
    rw [e2] at hwp
    rw [hg] at r1 r2
    rw [hk] at r3 r4
    dsimp only at *
    refine Ct_intro Tryz.func3 rfl rfl rfl rfl rfl (fun E hn hb => ?_)
    repeat (first | refine nxm ?_ | refine dna2 ?_ | refine dea2 ?_ | refine dna1 ?_ | refine dea1 ?_ | refine ba1 ?_ | refine dba1 ?_)
    refine rt2 [] (congrArg (fun x => lv (.bool x)) ?_) trivial; (simp [eqCs, Cell.kill, Cell.kill1])
end Go.Proofs.YthoaneleeabadaaGreat

namespace Go.Sx
open Go
open Go.ChangeShapes Go.WideShapes Go.ChangeAt Go.RowKit Go.Joins Go.Deep
set_option linter.unusedVariables false
section
variable {H : Type} {enc : TypeId × Value → H} {P : Program} {w : World} {base : Nat} {spare : Nat → Bool} {held : Bool} {fuel : Nat}
def LeavesR (w : World) (cs : List Value) (ls : List Leaf) : Prop := cs.length = ls.length ∧ ∀ (j : Nat) (z : Leaf), ls[j]? = some z → ∃ u, cs[j]? = some u ∧ LfR (Was w) w z u
theorem cell_bytes {ty e : TypeId} (ht : P.underlying ty = some (.slice e)) (he : P.underlying e = some (.int .u8)) (hc : P.cellsOf e = 1) : ∀ n c y, DataW.trod enc P w base spare held n ty [c] = some y → ∃ x : List Int, (x.length ≤ 9223372036854775807 ∧ ∀ n ∈ x, 0 ≤ n ∧ n < 256) ∧ LfR (Was w) w (.ints .u8 x) c := by
  intro n c y h
  obtain ⟨l, h1, h2, h3⟩ := open_row ht he hc h
  exact ⟨l, ⟨h1, fun n hn => wf_u8 (h2 n hn)⟩, h3⟩
theorem cell_ints {k : IntKind} {ty e : TypeId} (ht : P.underlying ty = some (.slice e)) (he : P.underlying e = some (.int k)) (hc : P.cellsOf e = 1) : ∀ n c y, DataW.trod enc P w base spare held n ty [c] = some y → ∃ x : List Int, (x.length ≤ 9223372036854775807 ∧ ∀ n ∈ x, (Lit.int k n).wf = true) ∧ LfR (Was w) w (.ints k x) c := by
  intro n c y h
  obtain ⟨l, h1, h2, h3⟩ := open_row ht he hc h
  exact ⟨l, ⟨h1, h2⟩, h3⟩
end
end Go.Sx

namespace Go.Sx
open Go
open Go.ChangeShapes Go.WideShapes Go.ChangeAt Go.RowKit Go.Joins Go.Deep
set_option linter.unusedVariables false
section
variable {H : Type} {enc : TypeId × Value → H} {P : Program} {w : World} {base : Nat} {spare : Nat → Bool} {held : Bool}
def ReadsAs (enc : TypeId × Value → H) (P : Program) (w : World) (base : Nat) (spare : Nat → Bool) (held : Bool) {A : Type} (t : TypeId) (k : Nat) (f : A → List Leaf) (Φ : A → Prop) : Prop :=
  ∀ n cs y, cs.length = k → DataW.trod enc P w base spare held n t cs = some y → ∃ a, Φ a ∧ (f a).length = k ∧ LeavesR w cs (f a)
theorem reads_one {A : Type} {t : TypeId} {g : A → Leaf} {Φ : A → Prop} (h : ∀ n c y, DataW.trod enc P w base spare held n t [c] = some y → ∃ x, Φ x ∧ LfR (Was w) w (g x) c) : ReadsAs enc P w base spare held t 1 (fun x => [g x]) Φ := by
  intro n cs y hcs hy
  match cs, hcs with
  | [c], _ =>
    obtain ⟨x, h1, h2⟩ := h n c y hy
    refine ⟨x, h1, rfl, rfl, fun j z hz => ?_⟩
    cases j with
    | zero => simp at hz; subst hz; exact ⟨c, rfl, h2⟩
    | succ j => simp at hz
theorem leaves_app {cs : List Value} {k0 k1 : Nat} {l0 l1 : List Leaf} (hk : cs.length = k0 + k1) (h0 : LeavesR w (cs.take k0) l0) (h1 : LeavesR w ((cs.drop k0).take k1) l1) : LeavesR w cs (l0 ++ l1) := by
  have e0 : l0.length = k0 := by rw [← h0.1]; simp; omega
  have e1 : l1.length = k1 := by rw [← h1.1]; simp; omega
  refine ⟨by simp; omega, fun j z hz => ?_⟩
  rcases Nat.lt_or_ge j k0 with h | h
  · rw [List.getElem?_append_left (by omega)] at hz
    obtain ⟨u, a, b⟩ := h0.2 j z hz
    rw [List.getElem?_take_of_lt h] at a
    exact ⟨u, a, b⟩
  · rw [List.getElem?_append_right (by omega), e0] at hz
    obtain ⟨u, a, b⟩ := h1.2 (j - k0) z hz
    have hj : j - k0 < k1 := by
      have := (List.getElem?_eq_some_iff.1 hz).1
      omega
    rw [List.getElem?_take_of_lt hj, List.getElem?_drop, show k0 + (j - k0) = j by omega] at a
    exact ⟨u, a, b⟩
theorem reads_two {A B : Type} {t : TypeId} {f0 f1 : Field} {k0 k1 : Nat} {g0 : A → List Leaf} {g1 : B → List Leaf} {Φ0 : A → Prop} {Φ1 : B → Prop} (ht : P.underlying t = some (.struct #[f0, f1])) (ho : f0.offset = 0 ∧ f1.offset = k0) (hc0 : P.cellsOf f0.type = k0) (hc1 : P.cellsOf f1.type = k1)
    (h0 : ReadsAs enc P w base spare held f0.type k0 g0 Φ0) (h1 : ReadsAs enc P w base spare held f1.type k1 g1 Φ1) : ReadsAs enc P w base spare held t (k0 + k1) (fun x : A × B => g0 x.1 ++ g1 x.2) (fun x => Φ0 x.1 ∧ Φ1 x.2) := by
  intro n cs y hcs hy
  obtain ⟨y0, y1, m, _, _, z0, z1⟩ := trod_struct2 ht hy
  rw [ho.1, hc0, List.drop_zero] at z0
  rw [ho.2, hc1] at z1
  obtain ⟨a, a1, a2, a3⟩ := h0 m _ _ (by simp; omega) z0
  obtain ⟨b, b1, b2, b3⟩ := h1 m _ _ (by simp; omega) z1
  exact ⟨(a, b), ⟨a1, b1⟩, by simp [a2, b2], leaves_app hcs a3 b3⟩
theorem open_agg {A : Type} {t : TypeId} {fs : Array Field} {k : Nat} {f : A → List Leaf} {Φ : A → Prop} {v : Value} {d : DataW H} {p : List MemPlace} {r : Reach} {b0 : Nat} (ht : P.underlying t = some (.struct fs)) (hC : P.cellsOf t = k) (hR : ReadsAs enc P w base spare held t k f Φ)
    (hv : Value.okWide P w r b0 t v) (h : DataW.Trod enc P w base spare held t v d p) : ∃ a, Φ a ∧ ∀ β, AvR β (Was w) w (.agg ((f a).map Cell.lf)) v := by
  obtain ⟨cs, rfl, hsz⟩ := okWide_struct ht hv
  obtain ⟨fuel, hf⟩ := h
  simp only [Value.cells] at hf
  obtain ⟨a, h1, h2, h3, h4⟩ := hR fuel cs.toList _ (by simpa [hC] using hsz) hf
  refine ⟨a, h1, fun β => .agg _ _ (by simpa using h3) fun i x u hx hu => ?_⟩
  rw [List.getElem?_map, Option.map_eq_some_iff] at hx
  obtain ⟨z, hz, rfl⟩ := hx
  obtain ⟨u', e1, e2⟩ := h4 i z hz
  rw [Array.getElem?_toList] at e1
  rw [e1] at hu
  cases hu
  exact .lf e2
end
end Go.Sx

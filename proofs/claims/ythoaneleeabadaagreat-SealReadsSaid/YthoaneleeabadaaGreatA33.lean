/-
  Chapter 19's law SealReads, walked: it returns true. The conditions: rows of bytes that a machine can hold.
-/
import Derived.Test.YthoaneleeabadaaGreatA30
import Derived.Test.YthoaneleeabadaaGreatA22
import Derived.Test.YthoaneleeabadaaGreatA28
namespace Go.Proofs.YthoaneleeabadaaGreat
set_option linter.unusedSimpArgs false
set_option linter.unusedVariables false
open Go Go.Sx
set_option maxRecDepth 10000
theorem s_litH {P : Program} {E : Env} {ops : Array Oper} {Q : Exit → Act → World → Prop} {rest : List Oper} {o : Oper} {σ : St} {i : Nat} {b : Bool} {o2 : Oper} {t e : TypeId} {by_ n d1 : Nat} {parts : Array (Nat × Operand)} {ps : List Prop} {out : List Cell} {k : IntKind} {l : List Int} (hop : o.op = .buildSlice t n parts) (hg : o.guard = none) (hdst : o.dst = some d1) (hd : dstOk E.n o.dst = true)
   (hop2 : o2.op = .convert t t (.tmp d1)) (hg2 : o2.guard = some (i, b)) (hG2 : guardC ops (σ.put o.dst (.c (.lf (.ints k l)))) i b = some true) (hd2 : dstOk E.n o2.dst = true) (hE : Elt P t e 1 by_) (he8 : P.underlying e = some (.int .u8)) (hz : zeroOk P e)
   (hf : fillA (fun i => some (i * 1, 1)) (List.replicate (n * 1) .un) (parts.toList.map fun (i, x) => (i, ox σ x)) = some (ps, out)) (hp : AllP ps) (hdd : dataOf P e 1 n out = some (.ints k l)) (hn : n * 1 ≤ 16777216 ∧ n ≤ 16777216 ∧ l.length = n)
   (hk : WL P E ops Q rest ((σ.put o.dst (.c (.lf (.ints k l)))).put o2.dst (.c (.lf (.ints k l))))) : WL P E ops Q (o :: o2 :: rest) σ := by
 intro a w hS
 obtain ⟨β, F, hS⟩ := hS
 obtain ⟨r, hrun, hRC⟩ := lit_core hS hE hz hf hp hdd ⟨hn.1, hn.2.1, hn.2.2, rfl⟩
 refine wpList_plain hg fun K hK => ?_
 unfold Oper.wp
 have hr1 : (execOp a.eval o).run P w = .ok (.value (.slice (some ⟨w.heap.size, 0, none⟩) n n)) (w.alloc (.cells r e)) := by
   simp only [execOp, hop, Sem.run_bind, hrun, Result.andThen_ok]
   rfl
 rw [hr1]
 have hb1 : ∀ k, k < w.heap.size → (w.alloc (.cells r e)).heap[k]? = w.heap[k]? := fun k hk => RowKit.Below.heap_alloc w _ k hk
 have hsz1 : (w.alloc (.cells r e)).heap.size = w.heap.size + 1 := by simp
 have hgr1 : Grow w (w.alloc (.cells r e)) := ⟨rfl, rfl, rfl, by omega, hb1⟩
 have hv1 : AvR β (fun b => F b ∨ b = w.heap.size) (w.alloc (.cells r e)) (.c (.lf (.ints k l))) (.slice (some ⟨w.heap.size, 0, none⟩) n n) := by
   refine .c (.lf (RC.toLf (F := F) (vs := r.toList) (hRC.mono fun b hb' => ⟨hb', hb1 b (hS.fr b hb').1⟩) (fun b h => .inl h) (.inr rfl) (fun i v hv => ?_) hn.2.2.symm (Nat.le_refl _) (by simp only [maxLen]; omega)))
   rw [(row_alloc (w := w) r e).cell]
   simpa using hv
 have hS1 := (hS.grown hgr1 (F' := fun b => F b ∨ b = w.heap.size) (fun b h => .inl h) (fun b hb' => by
   rcases hb' with h | h
   · exact .inl h
   · exact .inr (by omega))).put hv1 (dstOk_lt hd)
 have hw := guardB_wanted (o := o2) (guardC_eq hG2) hg2 hS1
 refine hK _ _ ?_
 have hlt : d1 < a.tmps.size := by
   rw [hdst] at hd
   have := dstOk_lt hd d1 rfl
   rw [hS.sz]
   exact this
 have hev : (a.put o.dst (.slice (some ⟨w.heap.size, 0, none⟩) n n)).eval (.tmp d1) = .slice (some ⟨w.heap.size, 0, none⟩) n n := by
   rw [hdst]
   simp [Act.put, Act.eval, hlt]
 have hr2 : (execOp (a.put o.dst (.slice (some ⟨w.heap.size, 0, none⟩) n n)).eval { o2 with guard := none }).run P (w.alloc (.cells r e)) = .ok (.value (.slice (some ⟨w.heap.size, 0, none⟩) n n)) (w.alloc (.cells r e (r.size, r.size + 1))) := by
   simp only [execOp, hop2, hev, Sem.run_bind, Lib.run_convert_bytes_const w t e r n n hE.1 he8, Result.andThen_ok]
   rfl
 have hb : ∀ k, k < w.heap.size → (w.alloc (.cells r e (r.size, r.size + 1))).heap[k]? = w.heap[k]? := fun k hk => RowKit.Below.heap_alloc w _ k hk
 have hsz : (w.alloc (.cells r e (r.size, r.size + 1))).heap.size = w.heap.size + 1 := by simp
 have hrow : Row (w.alloc (.cells r e (r.size, r.size + 1))) w.heap.size r := ⟨e, (r.size, r.size + 1), heap_alloc_new w _, .inr (Nat.le_refl _)⟩
 have hgr : Grow w (w.alloc (.cells r e (r.size, r.size + 1))) := ⟨rfl, rfl, rfl, by omega, hb⟩
 have hv : AvR β (fun b => F b ∨ b = w.heap.size) (w.alloc (.cells r e (r.size, r.size + 1))) (.c (.lf (.ints k l))) (.slice (some ⟨w.heap.size, 0, none⟩) n n) := by
   refine .c (.lf (RC.toLf (F := F) (vs := r.toList) (hRC.mono fun b hb' => ⟨hb', hb b (hS.fr b hb').1⟩) (fun b h => .inl h) (.inr rfl) (fun i v hv => ?_) hn.2.2.symm (Nat.le_refl _) (by simp only [maxLen]; omega)))
   rw [hrow.cell]
   simpa using hv
 have hS2 := (hS.grown hgr (F' := fun b => F b ∨ b = w.heap.size) (fun b h => .inl h) (fun b hb' => by
   rcases hb' with h | h
   · exact .inl h
   · exact .inr (by omega)))
 have key : wpList P ops Q ({ o2 with guard := none } :: rest) (a.put o.dst (.slice (some ⟨w.heap.size, 0, none⟩) n n)) (w.alloc (.cells r e)) := by
   refine wpList_plain (o := { o2 with guard := none }) rfl fun K2 hK2 => ?_
   unfold Oper.wp
   rw [hr2]
   exact hK2 _ _ (hk _ _ ⟨β, _, (hS2.put hv (dstOk_lt hd)).put hv (dstOk_lt hd2)⟩)
 have hw' : Region.wanted { o2 with guard := none } (yielded ops (a.put o.dst (.slice (some ⟨w.heap.size, 0, none⟩) n n)).tmps) = true := by simp [Region.wanted]
 unfold wpList at key ⊢
 rw [hw]
 rw [hw'] at key
 exact key
theorem ex19_s : sglB [5, 0] = true := by decide +kernel
theorem ex19_g : rightG hmO [5, 0] = true := by decide +kernel
theorem ex19_z : rightZ [5, 0] hmO [5, 0] = true := by decide +kernel
theorem wrPZ_wfB {t o m s : List Int} (hwt : WfB t) (hw : WfB m) (hws : WfB s) : WfB (wrPZ t o m s) :=
 wf_app (wf_app hwt (wrG_wf o hw)) (wrap_wf _ _ (by decide) fun x hx => by
   rcases List.mem_cons.1 hx with rfl | hx
   · omega
   · exact hws x hx)
set_option maxHeartbeats 16000000 in
theorem known19_ok : Ct Tryz.prog 36 [] [] (lv (.bool true)) [] [] := by
 have htn := tnew_ok
 have htp := tput_ok [] [107] [115] (by decide) (by decide) (by decide) rfl
 have hf1 : findM (setM [] (strOfNums [107]) (.ints .u8 [115])) (strOfNums [107]) = some (.ints .u8 [115]) := by simp [setM, findM]
 have hf2 : findM (setM [] (strOfNums [107]) (.ints .u8 [115])) (strOfNums [106]) = none := by decide +kernel
 have hw5 : WfB [5, 0] := wf18 (by decide +kernel)
 have hmk := smake_ok (setM [] (strOfNums [107]) (.ints .u8 [115])) [107] [115] [5, 0] (by decide) (by decide) (wf18 (by decide +kernel)) (by decide) hw5 hf1 ex19_s
 have hdl : (tagS [115] [5, 0]).length = 32 := digS_len _
 have hdw : WfB (tagS [115] [5, 0]) := digS_wf _
 have hck := fun he => scheck_ok (setM [] (strOfNums [107]) (.ints .u8 [115])) [107] [115] [5, 0] hmO [5, 0] (tagS [115] [5, 0]) (by decide) (by decide) (wf18 (by decide +kernel)) (by decide) hw5 (by decide) (by decide) hw5 (by rw [hdl]; decide) hdw hf1 ex19_g he
 have hck := hck rfl
 unfold chkZ at hck
 rw [if_pos rfl] at hck
 have hcn := scheck_none (setM [] (strOfNums [107]) (.ints .u8 [115])) [106] [5, 0] hmO [5, 0] (tagS [115] [5, 0]) (by decide) (by decide) (by decide) hw5 hf2 ex19_g rfl
 generalize tagS [115] [5, 0] = D at *
 have hwr := swrite_ok [5, 0] hmO [5, 0] D (by decide) hw5 (by decide) (by decide) hw5 (by omega) hdw
 rw [if_pos ex19_z, if_pos ex19_z] at hwr
 have hpf := parseZ_fwd (t := [5, 0]) (o := hmO) (m := [5, 0]) (s := D) hw5 hw5 ex19_z (by decide) (by decide) (by omega)
 have hlen := wrPZ_len (t := [5, 0]) (s := D) ex19_g
 have hl1 := wrap_len (ofT 16) (wrPZ [5, 0] hmO [5, 0] D)
 have hww : WfB (wrapL (ofT 16) (wrPZ [5, 0] hmO [5, 0] D)) := wrap_wf _ _ (by decide) (wrPZ_wfB hw5 hw5 hdw)
 have hps := sparse_ok (wrapL (ofT 16) (wrPZ [5, 0] hmO [5, 0] D)) (by simp at hlen; omega) hww
 rw [hpf] at hps
 dsimp only at hps
 generalize wrapL (ofT 16) (wrPZ [5, 0] hmO [5, 0] D) = X at *
 generalize setM [] (strOfNums [107]) (.ints .u8 [115]) = M at *
 clear hpf
 have hcn' := fun _ : Unit => hcn
 clear hcn
 refine Ct_intro Tryz.func36 rfl rfl rfl rfl rfl (fun E hn hb => ?_)
 repeat (first | refine s_litC rfl rfl rfl (by rw [hn]; rfl) rfl rfl (by rw [hn]; rfl) (elt_mk Tryz.underlying23 rfl rfl) Tryz.underlying5 zok5 rfl (by exact vcs) rfl ⟨by decide, by decide, rfl⟩ ?_ | (refine WL_gT rfl rfl ?_; refine s_litH rfl rfl rfl (by rw [hn]; rfl) rfl rfl rfl (by rw [hn]; rfl) (elt_mk Tryz.underlying23 rfl rfl) Tryz.underlying5 zok5 rfl trivial rfl ⟨by decide, by decide, rfl⟩ ?_) | refine nxm ?_ | (refine WL_gT rfl rfl ?_; refine nxm ?_))
 have hcn := hcn' ()
 clear hck
 repeat (first | (refine WL_gT rfl rfl ?_; refine s_litH rfl rfl rfl (by rw [hn]; rfl) rfl rfl rfl (by rw [hn]; rfl) (elt_mk Tryz.underlying23 rfl rfl) Tryz.underlying5 zok5 rfl trivial rfl ⟨by decide, by decide, rfl⟩ ?_) | refine nxm ?_ | (refine WL_gT rfl rfl ?_; refine nxm ?_))
 refine rt2 [] (congrArg (fun x => lv (.bool x)) ?_) trivial; (simp [eqCs, Cell.kill, Cell.kill1])
 decide +kernel
end Go.Proofs.YthoaneleeabadaaGreat

namespace Go.Proofs.YthoaneleeabadaaGreat
set_option linter.unusedSimpArgs false
set_option linter.unusedVariables false
open Go.Sx
set_option maxRecDepth 10000
theorem wrPZ_ge {t o m s : List Int} : t.length ≤ (wrPZ t o m s).length ∧ m.length ≤ (wrPZ t o m s).length ∧ s.length ≤ (wrPZ t o m s).length := by
 unfold wrPZ wrapL
 simp only [List.length_append, List.length_cons]
 omega
end Go.Proofs.YthoaneleeabadaaGreat

namespace Go.Proofs.YthoaneleeabadaaGreat
set_option linter.unusedSimpArgs false
set_option linter.unusedVariables false
open Go Go.Sx
set_option maxRecDepth 10000
theorem opy_eqG {P : Program} {E : Env} {o : Oper} {σ : St} {t t' e : TypeId} {n : Nat} {k k' : IntKind} {y z : Operand} {p q : List Prop} {cy cz : List Cell} {l m : List Int} (hop : o.op = .binOp .eql t y z t') (ht : P.underlying t = some (.array n e)) (he : P.underlying e = some (.int k')) (hc : P.cellsOf e = 1)
   (hy : ox σ y = (p, .agg cy)) (hz : ox σ z = (q, .agg cz)) (hcy : cy = l.map fun n => .lf (.v (.int k n))) (hcz : cz = m.map fun n => .lf (.v (.int k n))) (hp : AllP (p ++ q)) (hg : P.eqGuardType P.depth t = false) (hl : l.length = n) (hm : m.length = n) : OpY P E o σ (lv (.bool ((l == m) != false))) := by
 refine opy_val fun β F a w hS => ?_
 have h1 := oxR hS y
 rw [hy] at h1
 have h1 := h1 hp.left
 have h2 := oxR hS z
 rw [hz] at h2
 have h2 := h2 hp.right
 generalize he1 : a.eval y = v1 at h1
 generalize he2 : a.eval z = v2 at h2
 dsimp only at h1 h2
 rw [hcy] at h1
 rw [hcz] at h2
 have h1 := h1.to_ai
 have h2 := h2.to_ai
 cases h1 with | ai =>
 cases h2 with | ai =>
 have hi := info_of_cells (P := P) (t := e) (by rw [hc]; decide)
 obtain ⟨i, hi'⟩ := Option.isSome_iff_exists.1 hi
 have hrun : (Op.equal t (.agg (l.map (Value.int k)).toArray) (.agg (m.map (Value.int k)).toArray)).run P w = .ok (l == m) w := by
   show (Op.equalIn (9999 + 1) t _ _).run P w = _
   rw [run_equalIn_array w 9999 _ _ ht hi', hc, run_eqItems_ints he hi hc w 9998 l m _ (fun i h => by simp at h; omega), ← hl, all_range_eq l m (by omega)]
 refine ⟨.bool ((l == m) != false), w, F, ?_, .refl w, fun _ h => h, fun _ h => .inl h, .c (.lf (.v _ rfl))⟩
 simp only [execOp, hop, he1, he2]
 refine run_v ?_
 simp [run_eqGuard_agg w _ t y z _ _ hg, binOp, hrun]
theorem deg2 {P : Program} {E : Env} {ops : Array Oper} {o : Oper} {σ : St} {ns b own : List Nat} {bs : List (List Nat × List Nat)} {l : List Oper} {K : St → Prop} {nt : Nat} {i : Nat} {g G : Bool} {d : Option Nat} {t t' e : TypeId} {n : Nat} {k k' : IntKind} {y z : Operand} {p q : List Prop} {cy cz : List Cell} (l1 m : List Int) (hn : E.n = nt) (hk : DrawU P E ops ns bs l (σ.put d (.cnd G (lv (.bool ((l1 == m) != false))))) K) (hop : o.op = .binOp .eql t y z t' := by exact rfl) (hg : o.guard = some (i, g) := by exact rfl) (hG : guardC ops ⟨σ.tm, fgt b σ.hp⟩ i g = some G := by exact rfl) (hd : forceO o.dst some = some d := by exact rfl) (hE : dstOk nt d = true := by exact rfl)
   (ht : P.underlying t = some (.array n e) := by exact rfl) (he : P.underlying e = some (.int k') := by exact rfl) (hc : P.cellsOf e = 1 := by first | (simp; done) | fail) (hy : ox ⟨σ.tm, fgt b σ.hp⟩ y = (p, .agg cy) := by exact rfl) (hz : ox ⟨σ.tm, fgt b σ.hp⟩ z = (q, .agg cz) := by exact rfl) (hcy : cy = l1.map fun n => .lf (.v (.int k n)) := by exact rfl) (hcz : cz = m.map fun n => .lf (.v (.int k n)) := by exact rfl) (hT : P.eqGuardType P.depth t = false := by kernel_rfl)
   (hl : l1.length = n := by exact rfl) (hm : m.length = n := by exact rfl) (hp : G = true → AllP (p ++ q) := by intro hG; first | trivial | exact hG | exact ⟨hG, hG⟩ | exact ⟨hG, trivial⟩ | (simp; done) | (simp at *; done)) : DrawU P E ops ns ((b, own) :: bs) (o :: l) σ K :=
 DU_op hd (by rw [hn]; exact hE) (ops_ofG hg hG fun h τ hlk => by
   have e1 : ox τ y = ox ⟨σ.tm, fgt b σ.hp⟩ y := hlk.ox y (by rw [hop]; simp [Op.operands])
   have e2 : ox τ z = ox ⟨σ.tm, fgt b σ.hp⟩ z := hlk.ox z (by rw [hop]; simp [Op.operands])
   exact opy_eqG hop ht he hc (by rw [e1]; exact hy) (by rw [e2]; exact hz) hcy hcz (hp h) hT hl hm) hk
theorem readZ_end {l : List Int} (h : (parseZ l).2 = 0) : (readZ l 0).2.2 = l.length := by
 have hle := readZ_le l 0 (Nat.zero_le _)
 unfold parseZ at h
 dsimp only at h
 by_cases he : (readZ l 0).2.1 = 0
 · rw [if_pos he] at h
   by_cases hq : (readZ l 0).2.2 < l.length
   · rw [if_pos hq] at h; simp at h
   · omega
 · rw [if_neg he] at h
   exact absurd h he
set_option maxHeartbeats 16000000 in
theorem reads19_ok (b0 : List Int) (hl0 : b0.length ≤ 9223372036854775807) (hw0 : WfB b0) : Ct Tryz.prog 6 [B8 b0] [] (lv (.bool true)) [] [] := by
 have hkn := known19_ok
 have hlw : (b0.take (min (b0.length : Int) 1000).toNat).length ≤ 1000 := by simp; omega
 have hwf : WfB (b0.take (min (b0.length : Int) 1000).toNat) := wfl_take hw0 _
 refine Ct_intro Tryz.func6 rfl rfl rfl rfl rfl (fun E hn hb => ?_)
 repeat refine nx ?_
 generalize b0.take (min (b0.length : Int) 1000).toNat = b at *
 have hcn := curnew_ok b (by omega)
 have h1 := parts_ok b 0 (Nat.zero_le _) (by omega) hwf
 have h2 := rparts_ok b 0 (Nat.zero_le _) (by omega) hwf
 have h3 := sread_ok b 0 (Nat.zero_le _) (by omega) hwf
 have h4 := rsread_ok b 0 (Nat.zero_le _) (by omega) hwf
 have h5 := sparse_ok b (by omega) hwf
 have h6 := rsparse_ok b (by omega) hwf
 have h7 := place_ok b (by omega) hwf
 have a1 := at_ok b (partsZ b 0).2.2
 have a2 := at_ok b (readZ b 0).2.2
 have n1 := parZ_len b 0 (Nat.zero_le _) hwf
 have n2 := readZ_len b 0 hwf
 have n3 := parseZ_len b hwf
 have l1 := partsZ_le b 0 (Nat.zero_le _) hwf
 have l2 := readZ_le b 0 (Nat.zero_le _)
 have hend := readZ_end (l := b)
 have n1 : (partsZ b 0).1.1.length ≤ b.length ∧ (partsZ b 0).1.2.1.length ≤ 32 ∧ (partsZ b 0).1.2.2.1.length ≤ b.length ∧ (partsZ b 0).1.2.2.2.length ≤ b.length := by
   unfold partsZ
   dsimp only
   split
   · exact ⟨n1.1, n1.2.1, n1.2.2.1, n1.2.2.2.1⟩
   · simp
 have bk := fun t o m s => parseZ_back (t := t) (o := o) (m := m) (s := s) hwf
 unfold placeZ at h7
 generalize partsZ b 0 = A at *
 generalize readZ b 0 = B at *
 generalize parseZ b = C at *
 obtain ⟨⟨t, o, m, s⟩, e, q⟩ := A
 obtain ⟨⟨t2, o2, m2, s2⟩, e2, q2⟩ := B
 obtain ⟨⟨t3, o3, m3, s3⟩, e3⟩ := C
 dsimp only at *
 by_cases he : e3 = 0
 · subst he
   rw [if_pos rfl] at h7
   dsimp only at h7
   obtain ⟨c1, c2⟩ := bk t3 o3 m3 s3 rfl
   have hend := hend rfl
   subst hend
   have hg := (rightZ_m c2).2
   have h8 := rswpartsD_ok t3 o3 m3 s3 (by omega) hg (by omega) (by omega)
   have h9 := place_at (t := t3) (o := o3) (m := m3) (s := s3) (by omega) (by omega) (by omega) hg
   rw [← c1] at h9
   have h9 := h9.1
   have hge := (wrPZ_ge (t := t3) (o := o3) (m := m3) (s := s3)).1
   generalize wrPZ t3 o3 m3 s3 = X at *
   generalize (readP b 0).2.1 = p at *
   clear c1 c2 bk hg
   repeat (first | refine nxm ?_ | refine dna2 ?_ | refine dea2 ?_ | refine dna1 ?_ | refine dea1 ?_ | refine ba1 ?_ | refine dba1 ?_)
   refine duh1 (hF := sof_ok t o m s) ?_
   repeat (first | refine nxm ?_ | refine dna2 ?_ | refine dea2 ?_ | refine dna1 ?_ | refine dea1 ?_ | refine ba1 ?_ | refine dba1 ?_)
   refine duh1 (hF := slike_ok t o m s (by omega) (by omega) (by omega) (by omega)) ?_
   repeat (first | refine nxm ?_ | refine dna2 ?_ | refine dea2 ?_ | refine dna1 ?_ | refine dea1 ?_ | refine ba1 ?_ | refine dba1 ?_)
   refine duh1 (hF := sof_ok t2 o2 m2 s2) ?_
   repeat (first | refine nxm ?_ | refine dna2 ?_ | refine dea2 ?_ | refine dna1 ?_ | refine dea1 ?_ | refine ba1 ?_ | refine dba1 ?_)
   refine duh1 (hF := slike_ok t2 o2 m2 s2 (by omega) (by omega) (by omega) (by omega)) ?_
   repeat (first | refine nxm ?_ | refine dna2 ?_ | refine dea2 ?_ | refine dna1 ?_ | refine dea1 ?_ | refine ba1 ?_ | refine dba1 ?_)
   refine duh1 (hF := sof_ok t3 o3 m3 s3) ?_
   repeat (first | refine nxm ?_ | refine dna2 ?_ | refine dea2 ?_ | refine dna1 ?_ | refine dea1 ?_ | refine ba1 ?_ | refine dba1 ?_)
   refine duh1 (hF := slike_ok t3 o3 m3 s3 (by omega) (by omega) (by omega) (by omega)) ?_
   repeat (first | refine deg2 [(p : Int), (p : Int) + (t3.length : Int)] [(b.length : Int) - (X.length : Int), (b.length : Int) - (X.length : Int) + (t3.length : Int)] hn ?_ | refine nxm ?_ | refine dna2 ?_ | refine dea2 ?_ | refine dna1 ?_ | refine dea1 ?_ | refine ba1 ?_ | refine dba1 ?_)
   refine rt2 [] (congrArg (fun x => lv (.bool x)) ?_) trivial; (simp [eqCs, Cell.kill, Cell.kill1])
   omega
 · rw [if_neg he] at h7
   clear bk hend
   repeat (first | refine nxm ?_ | refine dna2 ?_ | refine dea2 ?_ | refine dna1 ?_ | refine dea1 ?_ | refine ba1 ?_ | refine dba1 ?_)
   refine duh1 (hF := sof_ok t o m s) ?_
   repeat (first | refine nxm ?_ | refine dna2 ?_ | refine dea2 ?_ | refine dna1 ?_ | refine dea1 ?_ | refine ba1 ?_ | refine dba1 ?_)
   refine duh1 (hF := slike_ok t o m s (by omega) (by omega) (by omega) (by omega)) ?_
   repeat (first | refine nxm ?_ | refine dna2 ?_ | refine dea2 ?_ | refine dna1 ?_ | refine dea1 ?_ | refine ba1 ?_ | refine dba1 ?_)
   refine duh1 (hF := sof_ok t2 o2 m2 s2) ?_
   repeat (first | refine nxm ?_ | refine dna2 ?_ | refine dea2 ?_ | refine dna1 ?_ | refine dea1 ?_ | refine ba1 ?_ | refine dba1 ?_)
   refine duh1 (hF := slike_ok t2 o2 m2 s2 (by omega) (by omega) (by omega) (by omega)) ?_
   repeat (first | refine nxm ?_ | refine dna2 ?_ | refine dea2 ?_ | refine dna1 ?_ | refine dea1 ?_ | refine ba1 ?_ | refine dba1 ?_)
   refine duh1 (hF := sof_ok t3 o3 m3 s3) ?_
   repeat (first | refine nxm ?_ | refine dna2 ?_ | refine dea2 ?_ | refine dna1 ?_ | refine dea1 ?_ | refine ba1 ?_ | refine dba1 ?_)
   refine duh1 (hF := slike_ok t3 o3 m3 s3 (by omega) (by omega) (by omega) (by omega)) ?_
   repeat (first | refine deg2 [0, 0] [0, 0] hn ?_ | refine nxm ?_ | refine dna2 ?_ | refine dea2 ?_ | refine dna1 ?_ | refine dea1 ?_ | refine ba1 ?_ | refine dba1 ?_)
   refine rt2 [] (congrArg (fun x => lv (.bool x)) ?_) trivial; (simp [eqCs, Cell.kill, Cell.kill1])
end Go.Proofs.YthoaneleeabadaaGreat

/-
  Chapter 04's law OidOrders, walked: it returns true. The conditions: rows that a machine can hold.
-/
import Derived.Test.YthoaneleeabadaaGreatM15
import Derived.Test.YthoaneleeabadaaGreatA14
import Derived.Test.YthoaneleeabadaaGreatA22
import Derived.Test.YthoaneleeabadaaGreatA28
import Derived.Test.YthoaneleeabadaaGreatA11
import Derived.Test.YthoaneleeabadaaGreatO11
import Derived.Test.YthoaneleeabadaaGreatO3
import Derived.Test.YthoaneleeabadaaGreatC4
import Derived.Test.YthoaneleeabadaaGreatW16
namespace Go.Proofs.YthoaneleeabadaaGreat
set_option linter.unusedSimpArgs false
set_option linter.unusedVariables false
open Go.Sx
set_option maxRecDepth 10000
theorem tget_no (es : MapL) (n : List Int) (hn1 : n.length ≤ 1000000) (hf : findM es (strOfNums n) = none) :
   Ct Tryz.prog 65 [.c (.ptr 0 0), B8 n] [tabB, .map es] (.tup [B8 [], lv (.int .i64 14)]) [tabB, .map es] [] := by
 refine Ct_intro Tryz.func65 rfl rfl rfl rfl rfl (fun E hn hb => ?_)
 repeat refine nxm ?_
 exact rtU []
theorem frcN3 {E : Env} {Q : Exit → Act → World → Prop} {σ : St} {d : Leaf} {cs cs' : List Cell} {m : Nat} {e : Exit} (j K : Nat) (h : N E Q e ((σ.kill j).seth K (.cells cs'))) (hj : σ.hp j = .row d := by exact rfl) (hK : σ.hp K = .cells cs := by exact rfl) (hne : Nat.beq K j = false := by exact rfl) (hnb : E.nb = m := by exact hb) (hjn : Nat.ble m j = true := by exact rfl) (hl : (List.range m).all (fun i => match σ.hp i with | .gone => false | _ => true) = true := by exact rfl) (hc : cs.all (condK j d) = true := by exact rfl)
   (hf : forceCL (cs.map (frzK j d)) some = some cs' := by exact rfl) (hp : AllP (lensK j d cs) := by first | trivial | exact rfl | (simp [lensK, AllP, lenD]; done)) : N E Q e σ := fun a w hS => h a w (SR.frzc j K hj hK hne hnb hjn hl hc hp hf hS)
abbrev hmO : List Int := [1, 2, 840, 113549, 2, 9]
set_option maxHeartbeats 4000000 in
theorem smake_ok (es : MapL) (n k x : List Int) (hn1 : n.length ≤ 64) (hk : k.length ≤ 256) (hkw : WfB k) (hx : x.length ≤ 100000) (hxw : WfB x) (hf : findM es (strOfNums n) = some (.ints .u8 k)) (hs : sglB x = true) :
   Ct Tryz.prog 34 [.c (.ptr 0 0), B8 n, B8 x] [tabB, .map es] (.tup [sealA x hmO [5, 0] (tagS k x), lv (.int .i64 0)]) [tabB, .map es] [] := by
 have h1 := single_ok x hx hxw
 rw [hs] at h1
 have h2 := tget_ok es n k hn1 hk hf
 have h3 := tag_ok k [x] hkw (by omega) (by simpa using hxw) (by simp) (by simp; omega)
 rw [show [x].flatten = x by simp] at h3
 have h4 := clone_ok x (by omega)
 have h5 := hmac_ok
 have hdl : (tagS k x).length = 32 := digS_len _
 have hdw : WfB (tagS k x) := digS_wf _
 generalize tagS k x = D at *
 have hdn := ne32 hdl
 refine Ct_intro Tryz.func34 rfl rfl rfl rfl rfl (fun E hn hb => ?_)
 refine nxm ?_
 refine nxm ?_
 refine nxm ?_
 refine nxm ?_
 repeat (first | refine s_allocAN .u8 32 rfl rfl rfl (by rw [hn]; rfl) (by kernel_rfl) ?_ | refine nxm ?_)
 refine s_storeA rfl rfl rfl rfl rfl (by exact vcs) rfl (by rw [cellsOf46]; first | rfl | assumption | omega | kernel_rfl | (simp; done) | (simp; omega) | (simp at *; omega)) (by first | rfl | assumption | omega | kernel_rfl | (simp; done) | (simp; omega) | (simp at *; omega)) (by first | assumption | (simp; done) | exact List.cons_ne_nil _ _) ?_
 repeat refine nxm ?_
 refine dup1 (hp := ?_) ?_
 rotate_left
 · exact ⟨rfl, by omega, hdn, show 32 ≤ maxLen from by decide⟩
 repeat refine nxm ?_
 refine frcN3 74 70 ?_ (hp := ?_)
 rotate_left
 · exact hdl.symm
 exact rt1 []
theorem smake_arg (es : MapL) (n x : List Int) (hx : x.length ≤ 100000) (hxw : WfB x) (hs : sglB x = false) :
   Ct Tryz.prog 34 [.c (.ptr 0 0), B8 n, B8 x] [tabB, .map es] (.tup [sealA [] [] [] [], lv (.int .i64 1)]) [tabB, .map es] [] := by
 have h1 := single_ok x hx hxw
 rw [hs] at h1
 refine Ct_intro Tryz.func34 rfl rfl rfl rfl rfl (fun E hn hb => ?_)
 repeat refine nxm ?_
 refine rtU [] (hu := ?_)
 exact ⟨⟨.inr ⟨rfl, .inl ⟨_, rfl⟩⟩, .inr ⟨rfl, .inl ⟨_, rfl⟩⟩, .inr ⟨rfl, .inl ⟨_, rfl⟩⟩, .inr ⟨rfl, .inl ⟨_, rfl⟩⟩, trivial⟩, .inl rfl, trivial⟩
def chkZ (k t o m s : List Int) : Int := if tagS k t = s then 0 else 13
set_option maxHeartbeats 4000000 in
theorem scheck_ok (es : MapL) (n k t o m s : List Int) (hn1 : n.length ≤ 64) (hk : k.length ≤ 256) (hkw : WfB k) (ht : t.length ≤ 100000) (hwt : WfB t) (ho : o.length ≤ 1000000) (hm : m.length ≤ 100000) (hw : WfB m) (hs : s.length ≤ 100000) (hws : WfB s)
   (hf : findM es (strOfNums n) = some (.ints .u8 k)) (ha : rightG o m = true) (he : (wrG o m).1 = (wrG hmO [5, 0]).1) :
   Ct Tryz.prog 39 [.c (.ptr 0 0), B8 n, sealA t o m s] [tabB, .map es] (lv (.int .i64 (chkZ k t o m s))) [tabB, .map es] [] := by
 have h1 := hmac_ok
 have h2 := samealg_ok o m hmO [5, 0] ho hm hw (by decide) (by decide) (wf18 (by decide +kernel)) ha ex_r2
 rw [decide_eq_true he] at h2
 have h3 := tget_ok es n k hn1 hk hf
 have h4 := mcheck_ok k s [t] hkw (by omega) hws (by omega) (by simpa using hwt) (by simp) (by simp; omega)
 rw [show [t].flatten = t by simp] at h4
 unfold chkZ
 by_cases hq : tagS k t = s
 · rw [decide_eq_true hq] at h4
   rw [if_pos hq]
   refine Ct_intro Tryz.func39 rfl rfl rfl rfl rfl (fun E hn hb => ?_)
   repeat refine nxm ?_
   exact rt1 []
 · rw [decide_eq_false hq] at h4
   rw [if_neg hq]
   refine Ct_intro Tryz.func39 rfl rfl rfl rfl rfl (fun E hn hb => ?_)
   repeat refine nxm ?_
   exact rt1 []
theorem scheck_none (es : MapL) (n t o m s : List Int) (hn1 : n.length ≤ 1000000) (ho : o.length ≤ 1000000) (hm : m.length ≤ 100000) (hw : WfB m)
   (hf : findM es (strOfNums n) = none) (ha : rightG o m = true) (he : (wrG o m).1 = (wrG hmO [5, 0]).1) :
   Ct Tryz.prog 39 [.c (.ptr 0 0), B8 n, sealA t o m s] [tabB, .map es] (lv (.int .i64 14)) [tabB, .map es] [] := by
 have h1 := hmac_ok
 have h2 := samealg_ok o m hmO [5, 0] ho hm hw (by decide) (by decide) (wf18 (by decide +kernel)) ha ex_r2
 rw [decide_eq_true he] at h2
 have h3 := tget_no es n hn1 hf
 refine Ct_intro Tryz.func39 rfl rfl rfl rfl rfl (fun E hn hb => ?_)
 repeat refine nxm ?_
 exact rt1 []
end Go.Proofs.YthoaneleeabadaaGreat

namespace Go.Proofs.YthoaneleeabadaaGreat
set_option linter.unusedSimpArgs false
set_option linter.unusedVariables false
open Go Go.Sx
set_option maxRecDepth 10000
theorem s_litH {P : Program} {E : Env} {ops : Array Oper} {Q : Exit → Act → World → Prop} {rest : List Oper} {o : Oper} {σ : St} {i : Nat} {b : Bool} {o2 : Oper} {t e : TypeId} {by_ n d1 : Nat} {parts : Array (Nat × Operand)} {ps : List Prop} {out : List Cell} {k : IntKind} {l : List Int} (hop : o.op = .buildSlice t n parts) (hg : o.guard = none) (hdst : o.dst = some d1) (hd : dstOk E.n o.dst = true)
   (hop2 : o2.op = .convert t t (.tmp d1)) (hg2 : o2.guard = some (i, b)) (hG2 : guardC ops (σ.put o.dst (.c (.lf (.ints k l)))) i b = some true) (hd2 : dstOk E.n o2.dst = true) (hE : Elt P t e 1 by_) (he8 : P.underlying e = some (.int .u8)) (hz : zeroOk P e)
   (hf : fillA (fun i => some (i * 1, 1)) (List.replicate (n * 1) .un) (parts.toList.map fun (i, x) => (i, ox σ x)) = some (ps, out)) (hp : AllP ps) (hdd : dataOf P e 1 n out = some (.ints k l)) (hn : n * 1 ≤ 16777216 ∧ n ≤ 16777216 ∧ l.length = n)
   (hk : WL P E ops Q rest ((σ.put o.dst (.c (.lf (.ints k l)))).put o2.dst (.c (.lf (.ints k l))))) : WL P E ops Q (o :: o2 :: rest) σ := by
 intro a w hS
 obtain ⟨β, F, hS⟩ := hS
 obtain ⟨r, hrun, hRC⟩ := lit_core hS hE hz hf hp hdd ⟨hn.1, hn.2.1, hn.2.2, rfl⟩
 refine wpList_plain hg fun K hK => ?_
 unfold Oper.wp
 have hr1 : (execOp a.eval o).run P w = .ok (.value (.slice (some ⟨w.heap.size, 0, none⟩) n n)) (w.alloc (.cells r e)) := by
   simp only [execOp, hop, Sem.run_bind, hrun, Result.andThen_ok]
   rfl
 rw [hr1]
 have hb1 : ∀ k, k < w.heap.size → (w.alloc (.cells r e)).heap[k]? = w.heap[k]? := fun k hk => RowKit.Below.heap_alloc w _ k hk
 have hsz1 : (w.alloc (.cells r e)).heap.size = w.heap.size + 1 := by simp
 have hgr1 : Grow w (w.alloc (.cells r e)) := ⟨rfl, rfl, rfl, by omega, hb1⟩
 have hv1 : AvR β (fun b => F b ∨ b = w.heap.size) (w.alloc (.cells r e)) (.c (.lf (.ints k l))) (.slice (some ⟨w.heap.size, 0, none⟩) n n) := by
   refine .c (.lf (RC.toLf (F := F) (vs := r.toList) (hRC.mono fun b hb' => ⟨hb', hb1 b (hS.fr b hb').1⟩) (fun b h => .inl h) (.inr rfl) (fun i v hv => ?_) hn.2.2.symm (Nat.le_refl _) (by simp only [maxLen]; omega)))
   rw [(row_alloc (w := w) r e).cell]
   simpa using hv
 have hS1 := (hS.grown hgr1 (F' := fun b => F b ∨ b = w.heap.size) (fun b h => .inl h) (fun b hb' => by
   rcases hb' with h | h
   · exact .inl h
   · exact .inr (by omega))).put hv1 (dstOk_lt hd)
 have hw := guardB_wanted (o := o2) (guardC_eq hG2) hg2 hS1
 refine hK _ _ ?_
 have hlt : d1 < a.tmps.size := by
   rw [hdst] at hd
   have := dstOk_lt hd d1 rfl
   rw [hS.sz]
   exact this
 have hev : (a.put o.dst (.slice (some ⟨w.heap.size, 0, none⟩) n n)).eval (.tmp d1) = .slice (some ⟨w.heap.size, 0, none⟩) n n := by
   rw [hdst]
   simp [Act.put, Act.eval, hlt]
 have hr2 : (execOp (a.put o.dst (.slice (some ⟨w.heap.size, 0, none⟩) n n)).eval { o2 with guard := none }).run P (w.alloc (.cells r e)) = .ok (.value (.slice (some ⟨w.heap.size, 0, none⟩) n n)) (w.alloc (.cells r e (r.size, r.size + 1))) := by
   simp only [execOp, hop2, hev, Sem.run_bind, Lib.run_convert_bytes_const w t e r n n hE.1 he8, Result.andThen_ok]
   rfl
 have hb : ∀ k, k < w.heap.size → (w.alloc (.cells r e (r.size, r.size + 1))).heap[k]? = w.heap[k]? := fun k hk => RowKit.Below.heap_alloc w _ k hk
 have hsz : (w.alloc (.cells r e (r.size, r.size + 1))).heap.size = w.heap.size + 1 := by simp
 have hrow : Row (w.alloc (.cells r e (r.size, r.size + 1))) w.heap.size r := ⟨e, (r.size, r.size + 1), heap_alloc_new w _, .inr (Nat.le_refl _)⟩
 have hgr : Grow w (w.alloc (.cells r e (r.size, r.size + 1))) := ⟨rfl, rfl, rfl, by omega, hb⟩
 have hv : AvR β (fun b => F b ∨ b = w.heap.size) (w.alloc (.cells r e (r.size, r.size + 1))) (.c (.lf (.ints k l))) (.slice (some ⟨w.heap.size, 0, none⟩) n n) := by
   refine .c (.lf (RC.toLf (F := F) (vs := r.toList) (hRC.mono fun b hb' => ⟨hb', hb b (hS.fr b hb').1⟩) (fun b h => .inl h) (.inr rfl) (fun i v hv => ?_) hn.2.2.symm (Nat.le_refl _) (by simp only [maxLen]; omega)))
   rw [hrow.cell]
   simpa using hv
 have hS2 := (hS.grown hgr (F' := fun b => F b ∨ b = w.heap.size) (fun b h => .inl h) (fun b hb' => by
   rcases hb' with h | h
   · exact .inl h
   · exact .inr (by omega)))
 have key : wpList P ops Q ({ o2 with guard := none } :: rest) (a.put o.dst (.slice (some ⟨w.heap.size, 0, none⟩) n n)) (w.alloc (.cells r e)) := by
   refine wpList_plain (o := { o2 with guard := none }) rfl fun K2 hK2 => ?_
   unfold Oper.wp
   rw [hr2]
   exact hK2 _ _ (hk _ _ ⟨β, _, (hS2.put hv (dstOk_lt hd)).put hv (dstOk_lt hd2)⟩)
 have hw' : Region.wanted { o2 with guard := none } (yielded ops (a.put o.dst (.slice (some ⟨w.heap.size, 0, none⟩) n n)).tmps) = true := by simp [Region.wanted]
 unfold wpList at key ⊢
 rw [hw]
 rw [hw'] at key
 exact key
theorem ex19_s : sglB [5, 0] = true := by decide +kernel
theorem ex19_g : rightG hmO [5, 0] = true := by decide +kernel
theorem ex19_z : rightZ [5, 0] hmO [5, 0] = true := by decide +kernel
theorem wrPZ_wfB {t o m s : List Int} (hwt : WfB t) (hw : WfB m) (hws : WfB s) : WfB (wrPZ t o m s) :=
 wf_app (wf_app hwt (wrG_wf o hw)) (wrap_wf _ _ (by decide) fun x hx => by
   rcases List.mem_cons.1 hx with rfl | hx
   · omega
   · exact hws x hx)
set_option maxHeartbeats 16000000 in
theorem known19_ok : Ct Tryz.prog 36 [] [] (lv (.bool true)) [] [] := by
 have htn := tnew_ok
 have htp := tput_ok [] [107] [115] (by decide) (by decide) (by decide) rfl
 have hf1 : findM (setM [] (strOfNums [107]) (.ints .u8 [115])) (strOfNums [107]) = some (.ints .u8 [115]) := by simp [setM, findM]
 have hf2 : findM (setM [] (strOfNums [107]) (.ints .u8 [115])) (strOfNums [106]) = none := by decide +kernel
 have hw5 : WfB [5, 0] := wf18 (by decide +kernel)
 have hmk := smake_ok (setM [] (strOfNums [107]) (.ints .u8 [115])) [107] [115] [5, 0] (by decide) (by decide) (wf18 (by decide +kernel)) (by decide) hw5 hf1 ex19_s
 have hdl : (tagS [115] [5, 0]).length = 32 := digS_len _
 have hdw : WfB (tagS [115] [5, 0]) := digS_wf _
 have hck := fun he => scheck_ok (setM [] (strOfNums [107]) (.ints .u8 [115])) [107] [115] [5, 0] hmO [5, 0] (tagS [115] [5, 0]) (by decide) (by decide) (wf18 (by decide +kernel)) (by decide) hw5 (by decide) (by decide) hw5 (by rw [hdl]; decide) hdw hf1 ex19_g he
 have hck := hck rfl
 unfold chkZ at hck
 rw [if_pos rfl] at hck
 have hcn := scheck_none (setM [] (strOfNums [107]) (.ints .u8 [115])) [106] [5, 0] hmO [5, 0] (tagS [115] [5, 0]) (by decide) (by decide) (by decide) hw5 hf2 ex19_g rfl
 generalize tagS [115] [5, 0] = D at *
 have hwr := swrite_ok [5, 0] hmO [5, 0] D (by decide) hw5 (by decide) (by decide) hw5 (by omega) hdw
 rw [if_pos ex19_z, if_pos ex19_z] at hwr
 have hpf := parseZ_fwd (t := [5, 0]) (o := hmO) (m := [5, 0]) (s := D) hw5 hw5 ex19_z (by decide) (by decide) (by omega)
 have hlen := wrPZ_len (t := [5, 0]) (s := D) ex19_g
 have hl1 := wrap_len (ofT 16) (wrPZ [5, 0] hmO [5, 0] D)
 have hww : WfB (wrapL (ofT 16) (wrPZ [5, 0] hmO [5, 0] D)) := wrap_wf _ _ (by decide) (wrPZ_wfB hw5 hw5 hdw)
 have hps := sparse_ok (wrapL (ofT 16) (wrPZ [5, 0] hmO [5, 0] D)) (by simp at hlen; omega) hww
 rw [hpf] at hps
 dsimp only at hps
 generalize wrapL (ofT 16) (wrPZ [5, 0] hmO [5, 0] D) = X at *
 generalize setM [] (strOfNums [107]) (.ints .u8 [115]) = M at *
 clear hpf
 have hcn' := fun _ : Unit => hcn
 clear hcn
 refine Ct_intro Tryz.func36 rfl rfl rfl rfl rfl (fun E hn hb => ?_)
 repeat (first | refine s_litC rfl rfl rfl (by rw [hn]; rfl) rfl rfl (by rw [hn]; rfl) (elt_mk Tryz.underlying23 rfl rfl) Tryz.underlying5 zok5 rfl (by exact vcs) rfl ⟨by decide, by decide, rfl⟩ ?_ | (refine WL_gT rfl rfl ?_; refine s_litH rfl rfl rfl (by rw [hn]; rfl) rfl rfl rfl (by rw [hn]; rfl) (elt_mk Tryz.underlying23 rfl rfl) Tryz.underlying5 zok5 rfl trivial rfl ⟨by decide, by decide, rfl⟩ ?_) | refine nxm ?_ | (refine WL_gT rfl rfl ?_; refine nxm ?_))
 have hcn := hcn' ()
 clear hck
 repeat (first | (refine WL_gT rfl rfl ?_; refine s_litH rfl rfl rfl (by rw [hn]; rfl) rfl rfl rfl (by rw [hn]; rfl) (elt_mk Tryz.underlying23 rfl rfl) Tryz.underlying5 zok5 rfl trivial rfl ⟨by decide, by decide, rfl⟩ ?_) | refine nxm ?_ | (refine WL_gT rfl rfl ?_; refine nxm ?_))
 refine rt2 [] (congrArg (fun x => lv (.bool x)) ?_) trivial; (simp [eqCs, Cell.kill, Cell.kill1])
 decide +kernel
end Go.Proofs.YthoaneleeabadaaGreat

namespace Go.Proofs.YthoaneleeabadaaGreat
set_option linter.unusedSimpArgs false
set_option linter.unusedVariables false
open Go.Sx
set_option maxRecDepth 10000
theorem sto_ok (t o m s : List Int) (ht : t.length ≤ 9223372036854775807) (ho : o.length ≤ 9223372036854775807) (hm : m.length ≤ 9223372036854775807) (hs : s.length ≤ 9223372036854775807) : Ct Tryz.prog 40 [sealA t o m s] [] (sealA (t.take (min (t.length : Int) 500).toNat) (o.take (min (o.length : Int) 40).toNat) (m.take (min (m.length : Int) 200).toNat) (s.take (min (s.length : Int) 100).toNat)) [] [] := by
 have h := toalg_ok o m ho hm
 refine Ct_intro Tryz.func40 rfl rfl rfl rfl rfl (fun E hn hb => ?_)
 repeat refine nx ?_
 exact rt1 []

theorem cmpL_neg : ∀ a b : List Int, cmpL b a = -cmpL a b
 | [], [] => rfl
 | [], _ :: _ => rfl
 | _ :: _, [] => rfl
 | x :: a, y :: b => by
   have := cmpL_neg a b
   simp only [cmpL]
   by_cases h1 : x < y
   · have h2 : ¬ y < x := by omega
     simp [h1, h2]
   · by_cases h2 : y < x
     · simp [h1, h2]
     · simp [h1, h2, this]
end Go.Proofs.YthoaneleeabadaaGreat

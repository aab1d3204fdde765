/-
  Chapter 19's law SealBack, walked: it returns true. The conditions: rows of bytes that a machine can hold.
-/
import Derived.Test.YthoaneleeabadaaGreatM12
import Derived.Test.YthoaneleeabadaaGreatB9
import Derived.Test.YthoaneleeabadaaGreatM3
import Derived.Test.YthoaneleeabadaaGreatA14
import Derived.Test.YthoaneleeabadaaGreatA20
import Derived.Test.YthoaneleeabadaaGreatA23
import Derived.Test.YthoaneleeabadaaGreatA26
namespace Go.Proofs.YthoaneleeabadaaGreat
set_option linter.unusedSimpArgs false
set_option linter.unusedVariables false
open Go.Sx

set_option maxRecDepth 10000

theorem ne32 {l : List Int} (h : l.length = 32) : l ≠ [] := fun h2 => by rw [h2] at h; simp at h
theorem mcheck_ok (k t : List Int) (bs : List (List Int)) (hk : WfB k) (hkl : k.length ≤ 1000000) (ht : WfB t) (htl : t.length ≤ 1000000) (hbs : ∀ b ∈ bs, WfB b) (hbl : bs.length ≤ 1000) (hn1 : bs.flatten.length ≤ 900000) :
    Ct Tryz.prog 93 [B8 k, B8 t, partsA bs] [] (lv (.bool (decide (tagS k bs.flatten = t)))) [] [] := by
  have htag := tag_ok k bs hk hkl hbs hbl hn1
  have hdl : (tagS k bs.flatten).length = 32 := digS_len _
  have hdw : WfB (tagS k bs.flatten) := digS_wf _
  generalize tagS k bs.flatten = D at *
  have hdn := ne32 hdl
  have d1 : (D.drop 0).take 32 = D := by rw [List.drop_zero, List.take_of_length_le (by omega)]
  have hs := msame_ok D t (by omega) htl hdw ht
  have hs2 : Ct Tryz.prog 127 [B8 ((D.drop 0).take 32), B8 t] [] (lv (.bool (decide (D = t)))) [] [] := by rw [d1]; exact hs
  refine Ct_intro Tryz.func93 rfl rfl rfl rfl rfl (fun E hn hb => ?_)
  repeat (refine nst ?_)
  refine s_call0 (htag) rfl rfl rfl (by rw [hn]; rfl) rfl rfl (by first | trivial | (simp; done) | (simp; omega) | (simp at *; done) | (simp at *; omega)) rfl rfl rfl ?_
  refine s_allocAN .u8 32 rfl rfl rfl (by rw [hn]; rfl) (by kernel_rfl) ?_
  repeat (refine nst ?_)
  refine s_storeA rfl rfl rfl rfl rfl (by first | trivial | (simp; done) | (simp; omega) | (simp at *; done) | (simp at *; omega)) rfl (by rw [cellsOf46]; first | rfl | assumption | omega | kernel_rfl | (simp; done) | (simp; omega) | (simp at *; omega)) (by first | rfl | assumption | omega | kernel_rfl | (simp; done) | (simp; omega) | (simp at *; omega)) (by first | assumption | (simp; done) | exact List.cons_ne_nil _ _) ?_
  repeat (refine nst ?_)
  refine sp true rfl rfl (by rw [hn]; rfl) ?_ ?_
  · exact ⟨rfl, by omega, hdn, show 32 ≤ maxLen from by decide⟩
  repeat (refine nst ?_)
  refine WL_q (opq_of (opy_callL hs2 rfl rfl rfl (by trivial) ⟨.inr (.inl ⟨71, 0, 32, .u8, D, rfl, rfl, by omega, rfl⟩), .inl rfl, trivial⟩ rfl) rfl) (by rw [hn]; rfl) ?_
  repeat (refine nst ?_)
  exact rt1 []
end Go.Proofs.YthoaneleeabadaaGreat

namespace Go.Proofs.YthoaneleeabadaaGreat
set_option linter.unusedSimpArgs false
set_option linter.unusedVariables false
open Go.Sx

set_option maxRecDepth 10000

theorem tget_no (es : MapL) (n : List Int) (hn1 : n.length ≤ 64) (hf : findM es (strOfNums n) = none) :
    Ct Tryz.prog 65 [.c (.ptr 0 0), B8 n] [tabB, .map es] (.tup [B8 [], lv (.int .i64 14)]) [tabB, .map es] [] := by
  refine Ct_intro Tryz.func65 rfl rfl rfl rfl rfl (fun E hn hb => ?_)
  repeat refine nxm ?_
  exact rtU []
theorem frcN3 {E : Env} {Q : Exit → Act → World → Prop} {σ : St} {d : Leaf} {cs cs' : List Cell} {m : Nat} {e : Exit} (j K : Nat) (h : N E Q e ((σ.kill j).seth K (.cells cs'))) (hj : σ.hp j = .row d := by exact rfl) (hK : σ.hp K = .cells cs := by exact rfl) (hne : Nat.beq K j = false := by exact rfl) (hnb : E.nb = m := by exact hb) (hjn : Nat.ble m j = true := by exact rfl) (hl : (List.range m).all (fun i => match σ.hp i with | .gone => false | _ => true) = true := by exact rfl) (hc : cs.all (condK j d) = true := by exact rfl)
    (hf : forceCL (cs.map (frzK j d)) some = some cs' := by exact rfl) (hp : AllP (lensK j d cs) := by first | trivial | exact rfl | (simp [lensK, AllP, lenD]; done)) : N E Q e σ := fun a w hS => h a w (SR.frzc j K hj hK hne hnb hjn hl hc hp hf hS)
abbrev hmO : List Int := [1, 2, 840, 113549, 2, 9]
set_option maxHeartbeats 4000000 in
theorem smake_ok (es : MapL) (n k x : List Int) (hn1 : n.length ≤ 64) (hk : k.length ≤ 256) (hkw : WfB k) (hx : x.length ≤ 100000) (hxw : WfB x) (hf : findM es (strOfNums n) = some (.ints .u8 k)) (hs : sglB x = true) :
    Ct Tryz.prog 34 [.c (.ptr 0 0), B8 n, B8 x] [tabB, .map es] (.tup [sealA x hmO [5, 0] (tagS k x), lv (.int .i64 0)]) [tabB, .map es] [] := by
  have h1 := single_ok x hx hxw
  rw [hs] at h1
  have h2 := tget_ok es n k hn1 hk hf
  have h3 := tag_ok k [x] hkw (by omega) (by simpa using hxw) (by simp) (by simp; omega)
  rw [show [x].flatten = x by simp] at h3
  have h4 := clone_ok x (by omega)
  have h5 := hmac_ok
  have hdl : (tagS k x).length = 32 := digS_len _
  have hdw : WfB (tagS k x) := digS_wf _
  generalize tagS k x = D at *
  have hdn := ne32 hdl
  refine Ct_intro Tryz.func34 rfl rfl rfl rfl rfl (fun E hn hb => ?_)
  refine nxm ?_
  refine nxm ?_
  refine nxm ?_
  refine nxm ?_
  repeat (first | refine s_allocAN .u8 32 rfl rfl rfl (by rw [hn]; rfl) (by kernel_rfl) ?_ | refine nxm ?_)
  refine s_storeA rfl rfl rfl rfl rfl (by first | trivial | (simp; done) | (simp; omega) | (simp at *; done) | (simp at *; omega)) rfl (by rw [cellsOf46]; first | rfl | assumption | omega | kernel_rfl | (simp; done) | (simp; omega) | (simp at *; omega)) (by first | rfl | assumption | omega | kernel_rfl | (simp; done) | (simp; omega) | (simp at *; omega)) (by first | assumption | (simp; done) | exact List.cons_ne_nil _ _) ?_
  repeat refine nxm ?_
  refine dup1 (hp := ?_) ?_
  rotate_left
  · exact ⟨rfl, by omega, hdn, show 32 ≤ maxLen from by decide⟩
  repeat refine nxm ?_
  refine frcN3 74 70 ?_ (hp := ?_)
  rotate_left
  · exact hdl.symm
  exact rt1 []
def chkZ (k t o m s : List Int) : Int := if tagS k t = s then 0 else 13
set_option maxHeartbeats 4000000 in
theorem scheck_ok (es : MapL) (n k t o m s : List Int) (hn1 : n.length ≤ 64) (hk : k.length ≤ 256) (hkw : WfB k) (ht : t.length ≤ 100000) (hwt : WfB t) (ho : o.length ≤ 1000000) (hm : m.length ≤ 100000) (hw : WfB m) (hs : s.length ≤ 100000) (hws : WfB s)
    (hf : findM es (strOfNums n) = some (.ints .u8 k)) (ha : rightG o m = true) (he : (wrG o m).1 = (wrG hmO [5, 0]).1) :
    Ct Tryz.prog 39 [.c (.ptr 0 0), B8 n, sealA t o m s] [tabB, .map es] (lv (.int .i64 (chkZ k t o m s))) [tabB, .map es] [] := by
  have h1 := hmac_ok
  have h2 := samealg_ok o m hmO [5, 0] ho hm hw (by decide) (by decide) (wf18 (by decide +kernel)) ha ex_r2
  rw [decide_eq_true he] at h2
  have h3 := tget_ok es n k hn1 hk hf
  have h4 := mcheck_ok k s [t] hkw (by omega) hws (by omega) (by simpa using hwt) (by simp) (by simp; omega)
  rw [show [t].flatten = t by simp] at h4
  unfold chkZ
  by_cases hq : tagS k t = s
  · rw [decide_eq_true hq] at h4
    rw [if_pos hq]
    refine Ct_intro Tryz.func39 rfl rfl rfl rfl rfl (fun E hn hb => ?_)
    repeat refine nxm ?_
    exact rt1 []
  · rw [decide_eq_false hq] at h4
    rw [if_neg hq]
    refine Ct_intro Tryz.func39 rfl rfl rfl rfl rfl (fun E hn hb => ?_)
    repeat refine nxm ?_
    exact rt1 []
theorem scheck_none (es : MapL) (n t o m s : List Int) (hn1 : n.length ≤ 64) (ho : o.length ≤ 1000000) (hm : m.length ≤ 100000) (hw : WfB m)
    (hf : findM es (strOfNums n) = none) (ha : rightG o m = true) (he : (wrG o m).1 = (wrG hmO [5, 0]).1) :
    Ct Tryz.prog 39 [.c (.ptr 0 0), B8 n, sealA t o m s] [tabB, .map es] (lv (.int .i64 14)) [tabB, .map es] [] := by
  have h1 := hmac_ok
  have h2 := samealg_ok o m hmO [5, 0] ho hm hw (by decide) (by decide) (wf18 (by decide +kernel)) ha ex_r2
  rw [decide_eq_true he] at h2
  have h3 := tget_no es n hn1 hf
  refine Ct_intro Tryz.func39 rfl rfl rfl rfl rfl (fun E hn hb => ?_)
  repeat refine nxm ?_
  exact rt1 []
end Go.Proofs.YthoaneleeabadaaGreat

namespace Go.Proofs.YthoaneleeabadaaGreat
set_option linter.unusedSimpArgs false
set_option linter.unusedVariables false
open Go Go.Sx

set_option maxRecDepth 10000

theorem s_litH {P : Program} {E : Env} {ops : Array Oper} {Q : Exit → Act → World → Prop} {rest : List Oper} {o : Oper} {σ : St} {i : Nat} {b : Bool} {o2 : Oper} {t e : TypeId} {by_ n d1 : Nat} {parts : Array (Nat × Operand)} {ps : List Prop} {out : List Cell} {k : IntKind} {l : List Int} (hop : o.op = .buildSlice t n parts) (hg : o.guard = none) (hdst : o.dst = some d1) (hd : dstOk E.n o.dst = true)
    (hop2 : o2.op = .convert t t (.tmp d1)) (hg2 : o2.guard = some (i, b)) (hG2 : guardC ops (σ.put o.dst (.c (.lf (.ints k l)))) i b = some true) (hd2 : dstOk E.n o2.dst = true) (hE : Elt P t e 1 by_) (he8 : P.underlying e = some (.int .u8)) (hz : zeroOk P e)
    (hf : fillA (fun i => some (i * 1, 1)) (List.replicate (n * 1) .un) (parts.toList.map fun (i, x) => (i, ox σ x)) = some (ps, out)) (hp : AllP ps) (hdd : dataOf P e 1 n out = some (.ints k l)) (hn : n * 1 ≤ 16777216 ∧ n ≤ 16777216 ∧ l.length = n)
    (hk : WL P E ops Q rest ((σ.put o.dst (.c (.lf (.ints k l)))).put o2.dst (.c (.lf (.ints k l))))) : WL P E ops Q (o :: o2 :: rest) σ := by
  intro a w hS
  obtain ⟨β, F, hS⟩ := hS
  obtain ⟨r, hrun, hRC⟩ := lit_core hS hE hz hf hp hdd ⟨hn.1, hn.2.1, hn.2.2, rfl⟩
  refine wpList_plain hg fun K hK => ?_
  unfold Oper.wp
  have hr1 : (execOp a.eval o).run P w = .ok (.value (.slice (some ⟨w.heap.size, 0, none⟩) n n)) (w.alloc (.cells r e)) := by
    simp only [execOp, hop, Sem.run_bind, hrun, Result.andThen_ok]
    rfl
  rw [hr1]
  have hb1 : ∀ k, k < w.heap.size → (w.alloc (.cells r e)).heap[k]? = w.heap[k]? := fun k hk => RowKit.Below.heap_alloc w _ k hk
  have hsz1 : (w.alloc (.cells r e)).heap.size = w.heap.size + 1 := by simp
  have hgr1 : Grow w (w.alloc (.cells r e)) := ⟨rfl, rfl, rfl, by omega, hb1⟩
  have hv1 : AvR β (fun b => F b ∨ b = w.heap.size) (w.alloc (.cells r e)) (.c (.lf (.ints k l))) (.slice (some ⟨w.heap.size, 0, none⟩) n n) := by
    refine .c (.lf (RC.toLf (F := F) (vs := r.toList) (hRC.mono fun b hb' => ⟨hb', hb1 b (hS.fr b hb').1⟩) (fun b h => .inl h) (.inr rfl) (fun i v hv => ?_) hn.2.2.symm (Nat.le_refl _) (by simp only [maxLen]; omega)))
    rw [(row_alloc (w := w) r e).cell]
    simpa using hv
  have hS1 := (hS.grown hgr1 (F' := fun b => F b ∨ b = w.heap.size) (fun b h => .inl h) (fun b hb' => by
    rcases hb' with h | h
    · exact .inl h
    · exact .inr (by omega))).put hv1 (dstOk_lt hd)
  have hw := guardB_wanted (o := o2) (guardC_eq hG2) hg2 hS1
  refine hK _ _ ?_
  have hlt : d1 < a.tmps.size := by
    rw [hdst] at hd
    have := dstOk_lt hd d1 rfl
    rw [hS.sz]
    exact this
  have hev : (a.put o.dst (.slice (some ⟨w.heap.size, 0, none⟩) n n)).eval (.tmp d1) = .slice (some ⟨w.heap.size, 0, none⟩) n n := by
    rw [hdst]
    simp [Act.put, Act.eval, hlt]
  have hr2 : (execOp (a.put o.dst (.slice (some ⟨w.heap.size, 0, none⟩) n n)).eval { o2 with guard := none }).run P (w.alloc (.cells r e)) = .ok (.value (.slice (some ⟨w.heap.size, 0, none⟩) n n)) (w.alloc (.cells r e (r.size, r.size + 1))) := by
    simp only [execOp, hop2, hev, Sem.run_bind, Lib.run_convert_bytes_const w t e r n n hE.1 he8, Result.andThen_ok]
    rfl
  have hb : ∀ k, k < w.heap.size → (w.alloc (.cells r e (r.size, r.size + 1))).heap[k]? = w.heap[k]? := fun k hk => RowKit.Below.heap_alloc w _ k hk
  have hsz : (w.alloc (.cells r e (r.size, r.size + 1))).heap.size = w.heap.size + 1 := by simp
  have hrow : Row (w.alloc (.cells r e (r.size, r.size + 1))) w.heap.size r := ⟨e, (r.size, r.size + 1), heap_alloc_new w _, .inr (Nat.le_refl _)⟩
  have hgr : Grow w (w.alloc (.cells r e (r.size, r.size + 1))) := ⟨rfl, rfl, rfl, by omega, hb⟩
  have hv : AvR β (fun b => F b ∨ b = w.heap.size) (w.alloc (.cells r e (r.size, r.size + 1))) (.c (.lf (.ints k l))) (.slice (some ⟨w.heap.size, 0, none⟩) n n) := by
    refine .c (.lf (RC.toLf (F := F) (vs := r.toList) (hRC.mono fun b hb' => ⟨hb', hb b (hS.fr b hb').1⟩) (fun b h => .inl h) (.inr rfl) (fun i v hv => ?_) hn.2.2.symm (Nat.le_refl _) (by simp only [maxLen]; omega)))
    rw [hrow.cell]
    simpa using hv
  have hS2 := (hS.grown hgr (F' := fun b => F b ∨ b = w.heap.size) (fun b h => .inl h) (fun b hb' => by
    rcases hb' with h | h
    · exact .inl h
    · exact .inr (by omega)))
  have key : wpList P ops Q ({ o2 with guard := none } :: rest) (a.put o.dst (.slice (some ⟨w.heap.size, 0, none⟩) n n)) (w.alloc (.cells r e)) := by
    refine wpList_plain (o := { o2 with guard := none }) rfl fun K2 hK2 => ?_
    unfold Oper.wp
    rw [hr2]
    exact hK2 _ _ (hk _ _ ⟨β, _, (hS2.put hv (dstOk_lt hd)).put hv (dstOk_lt hd2)⟩)
  have hw' : Region.wanted { o2 with guard := none } (yielded ops (a.put o.dst (.slice (some ⟨w.heap.size, 0, none⟩) n n)).tmps) = true := by simp [Region.wanted]
  unfold wpList at key ⊢
  rw [hw]
  rw [hw'] at key
  exact key
theorem ex19_s : sglB [5, 0] = true := by decide +kernel
theorem ex19_g : rightG hmO [5, 0] = true := by decide +kernel
theorem ex19_z : rightZ [5, 0] hmO [5, 0] = true := by decide +kernel
theorem wrPZ_wfB {t o m s : List Int} (hwt : WfB t) (hw : WfB m) (hws : WfB s) : WfB (wrPZ t o m s) :=
  wf_app (wf_app hwt (wrG_wf o hw)) (wrap_wf _ _ (by decide) fun x hx => by
    rcases List.mem_cons.1 hx with rfl | hx
    · omega
    · exact hws x hx)
set_option maxHeartbeats 16000000 in
theorem known19_ok : Ct Tryz.prog 36 [] [] (lv (.bool true)) [] [] := by
  have htn := tnew_ok
  have htp := tput_ok [] [107] [115] (by decide) (by decide) (by decide) rfl
  have hf1 : findM (setM [] (strOfNums [107]) (.ints .u8 [115])) (strOfNums [107]) = some (.ints .u8 [115]) := by simp [setM, findM]
  have hf2 : findM (setM [] (strOfNums [107]) (.ints .u8 [115])) (strOfNums [106]) = none := by decide +kernel
  have hw5 : WfB [5, 0] := wf18 (by decide +kernel)
  have hmk := smake_ok (setM [] (strOfNums [107]) (.ints .u8 [115])) [107] [115] [5, 0] (by decide) (by decide) (wf18 (by decide +kernel)) (by decide) hw5 hf1 ex19_s
  have hdl : (tagS [115] [5, 0]).length = 32 := digS_len _
  have hdw : WfB (tagS [115] [5, 0]) := digS_wf _
  have hck := fun he => scheck_ok (setM [] (strOfNums [107]) (.ints .u8 [115])) [107] [115] [5, 0] hmO [5, 0] (tagS [115] [5, 0]) (by decide) (by decide) (wf18 (by decide +kernel)) (by decide) hw5 (by decide) (by decide) hw5 (by rw [hdl]; decide) hdw hf1 ex19_g he
  have hck := hck rfl
  unfold chkZ at hck
  rw [if_pos rfl] at hck
  have hcn := scheck_none (setM [] (strOfNums [107]) (.ints .u8 [115])) [106] [5, 0] hmO [5, 0] (tagS [115] [5, 0]) (by decide) (by decide) (by decide) hw5 hf2 ex19_g rfl
  generalize tagS [115] [5, 0] = D at *
  have hwr := swrite_ok [5, 0] hmO [5, 0] D (by decide) hw5 (by decide) (by decide) hw5 (by omega) hdw
  rw [if_pos ex19_z, if_pos ex19_z] at hwr
  have hpf := parseZ_fwd (t := [5, 0]) (o := hmO) (m := [5, 0]) (s := D) hw5 hw5 ex19_z (by decide) (by decide) (by omega)
  have hlen := wrPZ_len (t := [5, 0]) (s := D) ex19_g
  have hl1 := wrap_len (ofT 16) (wrPZ [5, 0] hmO [5, 0] D)
  have hww : WfB (wrapL (ofT 16) (wrPZ [5, 0] hmO [5, 0] D)) := wrap_wf _ _ (by decide) (wrPZ_wfB hw5 hw5 hdw)
  have hps := sparse_ok (wrapL (ofT 16) (wrPZ [5, 0] hmO [5, 0] D)) (by simp at hlen; omega) hww
  rw [hpf] at hps
  dsimp only at hps
  generalize wrapL (ofT 16) (wrPZ [5, 0] hmO [5, 0] D) = X at *
  generalize setM [] (strOfNums [107]) (.ints .u8 [115]) = M at *
  clear hpf
  have hcn' := fun _ : Unit => hcn
  clear hcn
  refine Ct_intro Tryz.func36 rfl rfl rfl rfl rfl (fun E hn hb => ?_)
  repeat (first | refine s_litC rfl rfl rfl (by rw [hn]; rfl) rfl rfl (by rw [hn]; rfl) (elt_mk Tryz.underlying23 rfl rfl) Tryz.underlying5 zok5 rfl (by first | trivial | (simp; done) | (simp; omega) | (simp at *; done) | (simp at *; omega)) rfl ⟨by decide, by decide, rfl⟩ ?_ | (refine WL_gT rfl rfl ?_; refine s_litH rfl rfl rfl (by rw [hn]; rfl) rfl rfl rfl (by rw [hn]; rfl) (elt_mk Tryz.underlying23 rfl rfl) Tryz.underlying5 zok5 rfl trivial rfl ⟨by decide, by decide, rfl⟩ ?_) | refine nxm ?_ | (refine WL_gT rfl rfl ?_; refine nxm ?_))
  have hcn := hcn' ()
  clear hck
  repeat (first | (refine WL_gT rfl rfl ?_; refine s_litH rfl rfl rfl (by rw [hn]; rfl) rfl rfl rfl (by rw [hn]; rfl) (elt_mk Tryz.underlying23 rfl rfl) Tryz.underlying5 zok5 rfl trivial rfl ⟨by decide, by decide, rfl⟩ ?_) | refine nxm ?_ | (refine WL_gT rfl rfl ?_; refine nxm ?_))
  refine rt2 [] (congrArg (fun x => lv (.bool x)) ?_) trivial; (simp [eqCs, Cell.kill, Cell.kill1])
  decide +kernel
end Go.Proofs.YthoaneleeabadaaGreat

namespace Go.Proofs.YthoaneleeabadaaGreat
set_option linter.unusedSimpArgs false
set_option linter.unusedVariables false
open Go.Sx

set_option maxRecDepth 10000

theorem wrapL_wf {g : TagP} {x : List Int} (h : WfB (wrapL g x)) : WfB x := fun y hy => h y (by unfold wrapL; exact List.mem_append_right _ hy)
theorem wrPZ_wf {t o m s : List Int} (h : WfB (wrPZ t o m s)) : WfB t ∧ WfB m ∧ WfB s := by
  unfold wrPZ at h
  have h1 : WfB t := fun y hy => h y (List.mem_append_left _ (List.mem_append_left _ hy))
  have h2 := wrapL_wf (g := ofT 16) (x := wrapL (ofT 6) (arcsL (numsL o)) ++ m) fun y hy => h y (List.mem_append_left _ (List.mem_append_right _ hy))
  have h3 := wrapL_wf (g := ofT 3) (x := 0 :: s) fun y hy => h y (List.mem_append_right _ hy)
  exact ⟨h1, fun y hy => h2 y (List.mem_append_right _ hy), fun y hy => h3 y (List.mem_cons_of_mem _ hy)⟩
theorem wrPZ_ge {t o m s : List Int} : t.length ≤ (wrPZ t o m s).length ∧ m.length ≤ (wrPZ t o m s).length ∧ s.length ≤ (wrPZ t o m s).length := by
  unfold wrPZ wrapL
  simp only [List.length_append, List.length_cons]
  omega
theorem rightZ_o {t o m : List Int} (h : rightZ t o m = true) : o.length ≤ 32 := by
  exact (rightO_len (rightG_o (rightZ_m h).2))
set_option maxHeartbeats 16000000 in
theorem back19_ok (b0 : List Int) (hl0 : b0.length ≤ 9223372036854775807) (hw0 : WfB b0) : Ct Tryz.prog 7 [B8 b0] [] (lv (.bool true)) [] [] := by
  have hkn := known19_ok
  have hlw : (b0.take (min (b0.length : Int) 1000).toNat).length ≤ 1000 := by simp; omega
  have hwf : WfB (b0.take (min (b0.length : Int) 1000).toNat) := wfl_take hw0 _
  refine Ct_intro Tryz.func7 rfl rfl rfl rfl rfl (fun E hn hb => ?_)
  repeat refine nx ?_
  generalize b0.take (min (b0.length : Int) 1000).toNat = b at *
  have h1 := sparse_ok b (by omega) hwf
  have h2 := place_ok b (by omega) hwf
  have hcn := curnew_ok b (by omega)
  have h3 := parts_ok b 0 (Nat.zero_le _) (by omega) hwf
  have a1 := at_ok b (partsZ b 0).2.2
  have hle := partsZ_le b 0 (Nat.zero_le _) hwf
  have bk := fun t o m s => parseZ_back (t := t) (o := o) (m := m) (s := s) hwf
  have bp := fun t o m s q => partsZ_back (t := t) (o := o) (m := m) (s := s) (q := q) hwf
  unfold placeZ at h2
  generalize parseZ b = A at *
  generalize partsZ b 0 = B at *
  obtain ⟨⟨t, o, m, s⟩, e⟩ := A
  obtain ⟨⟨t2, o2, m2, s2⟩, e2, q2⟩ := B
  dsimp only at *
  have fin : ∀ K : Prop, (e2 = 0 → (Ct Tryz.prog 53 [sealA t2 o2 m2 s2] [] (.tup [B8 (b.take (q2 : Int).toNat), lv (.int .i64 0)]) [] []) → Ct Tryz.prog 28 [B8 (b.take (q2 : Int).toNat), B8 (b.take (q2 : Int).toNat)] [] (lv (.bool true)) [] [] → K) → (¬ e2 = 0 → K) → K := by
    intro K k1 k2
    by_cases he2 : e2 = 0
    · subst he2
      obtain ⟨c1, c2⟩ := bp t2 o2 m2 s2 q2 rfl
      have c3 := take_back hle.2 (by rw [List.drop_zero]; exact c1)
      have hL : (wrPZ t2 o2 m2 s2).length ≤ 1000 := by rw [← c3, List.length_take]; omega
      have hge := wrPZ_ge (t := t2) (o := o2) (m := m2) (s := s2)
      have hW : WfB (wrPZ t2 o2 m2 s2) := by rw [← c3]; exact wfl_take hwf _
      obtain ⟨w1, w2, w3⟩ := wrPZ_wf hW
      have ho := rightZ_o c2
      have h4 := swparts_ok t2 o2 m2 s2 (by omega) w1 (by omega) (by omega) w2 (by omega) w3
      rw [if_pos c2, if_pos c2, ← c3] at h4
      have h5 := same_ok (b.take (q2 : Int).toNat) (b.take (q2 : Int).toNat) (by rw [c3]; omega) (by rw [c3]; omega)
      rw [decide_eq_true rfl] at h5
      exact k1 rfl h4 h5
    · exact k2 he2
  clear bp
  have l2 : (b.take (q2 : Int).toNat).length ≤ 1000 := by simp; omega
  by_cases he : e = 0
  · subst he
    rw [if_pos rfl] at h2
    obtain ⟨c1, c2⟩ := bk t o m s rfl
    have hL : (wrapL (ofT 16) (wrPZ t o m s)).length ≤ 1000 := by rw [← c1]; omega
    have hL2 : (wrPZ t o m s).length ≤ (wrapL (ofT 16) (wrPZ t o m s)).length := by
      unfold wrapL
      simp only [List.length_append]
      omega
    have hge := wrPZ_ge (t := t) (o := o) (m := m) (s := s)
    have hW : WfB (wrPZ t o m s) := wrapL_wf (g := ofT 16) (by rw [← c1]; exact hwf)
    obtain ⟨w1, w2, w3⟩ := wrPZ_wf hW
    have ho := rightZ_o c2
    have h4 := swrite_ok t o m s (by omega) w1 (by omega) (by omega) w2 (by omega) w3
    have h5 := place_at (t := t) (o := o) (m := m) (s := s) (by omega) (by omega) (by omega) (rightZ_m c2).2
    rw [if_pos c2, if_pos c2, ← c1] at h4
    rw [← c1] at h5
    obtain ⟨h5, h6⟩ := h5
    have s1 := same_ok b b (by omega) (by omega)
    rw [decide_eq_true rfl] at s1
    dsimp only at h2
    have tl : t.length ≤ (wrPZ t o m s).length := hge.1
    generalize (wrPZ t o m s).length = N at *
    generalize (readP b 0).2.1 = p at *
    clear c1 c2 bk hW hL hL2
    have e6 : (b.take ((p : Int) + (t.length : Int)).toNat).drop (p : Int).toNat = t := by
      rw [show ((p : Int) + (t.length : Int)).toNat = p + t.length by omega, Int.toNat_natCast, List.drop_take, show p + t.length - p = t.length by omega]
      exact h6
    repeat refine nx ?_
    have s2 := same_ok ((b.take ((p : Int) + (t.length : Int)).toNat).drop (p : Int).toNat) t (by rw [e6]; omega) (by omega)
    rw [decide_eq_true e6] at s2
    refine duh1 (hF := s2) ?_
    clear s1 s2 e6 h6
    repeat refine nx ?_
    trace_state
    refine fin _ (fun he2 h4 h5 => ?_) (fun he2 => ?_)
    · subst he2
      repeat refine nx ?_
      refine rt2 [] (congrArg (fun x => lv (.bool x)) ?_) trivial; (simp [eqCs, Cell.kill, Cell.kill1])
    · repeat refine nx ?_
      refine rt2 [] (congrArg (fun x => lv (.bool x)) ?_) trivial; (simp [eqCs, Cell.kill, Cell.kill1])
  · rw [if_neg he] at h2
    clear bk
    refine fin _ (fun he2 h4 h5 => ?_) (fun he2 => ?_)
    · subst he2
      repeat refine nx ?_
      refine rt2 [] (congrArg (fun x => lv (.bool x)) ?_) trivial; (simp [eqCs, Cell.kill, Cell.kill1])
    · repeat refine nx ?_
      refine rt2 [] (congrArg (fun x => lv (.bool x)) ?_) trivial; (simp [eqCs, Cell.kill, Cell.kill1])
end Go.Proofs.YthoaneleeabadaaGreat

/-
  Rows of rows and of structs that came in, as data. No condition.
-/
import Derived.Test.YthoaneleeabadaaGreatM15
import Derived.Test.YthoaneleeabadaaGreatA14
import Derived.Test.YthoaneleeabadaaGreatA18
import Derived.Test.YthoaneleeabadaaGreatA23
import Derived.Test.YthoaneleeabadaaGreatB9
import Derived.Test.YthoaneleeabadaaGreatB16
import Derived.Test.YthoaneleeabadaaGreatD8
namespace Go.Proofs.YthoaneleeabadaaGreat
set_option linter.unusedSimpArgs false
set_option linter.unusedVariables false
open Go.Sx
set_option maxRecDepth 10000
theorem tget_no (es : MapL) (n : List Int) (hn1 : n.length ≤ 1000000) (hf : findM es (strOfNums n) = none) :
   Ct Tryz.prog 65 [.c (.ptr 0 0), B8 n] [tabB, .map es] (.tup [B8 [], lv (.int .i64 14)]) [tabB, .map es] [] := by
 refine Ct_intro Tryz.func65 rfl rfl rfl rfl rfl (fun E hn hb => ?_)
 repeat refine nxm ?_
 exact rtU []
theorem frcN3 {E : Env} {Q : Exit → Act → World → Prop} {σ : St} {d : Leaf} {cs cs' : List Cell} {m : Nat} {e : Exit} (j K : Nat) (h : N E Q e ((σ.kill j).seth K (.cells cs'))) (hj : σ.hp j = .row d := by exact rfl) (hK : σ.hp K = .cells cs := by exact rfl) (hne : Nat.beq K j = false := by exact rfl) (hnb : E.nb = m := by exact hb) (hjn : Nat.ble m j = true := by exact rfl) (hl : (List.range m).all (fun i => match σ.hp i with | .gone => false | _ => true) = true := by exact rfl) (hc : cs.all (condK j d) = true := by exact rfl)
   (hf : forceCL (cs.map (frzK j d)) some = some cs' := by exact rfl) (hp : AllP (lensK j d cs) := by first | trivial | exact rfl | (simp [lensK, AllP, lenD]; done)) : N E Q e σ := fun a w hS => h a w (SR.frzc j K hj hK hne hnb hjn hl hc hp hf hS)
abbrev hmO : List Int := [1, 2, 840, 113549, 2, 9]
set_option maxHeartbeats 4000000 in
theorem smake_ok (es : MapL) (n k x : List Int) (hn1 : n.length ≤ 64) (hk : k.length ≤ 256) (hkw : WfB k) (hx : x.length ≤ 100000) (hxw : WfB x) (hf : findM es (strOfNums n) = some (.ints .u8 k)) (hs : sglB x = true) :
   Ct Tryz.prog 34 [.c (.ptr 0 0), B8 n, B8 x] [tabB, .map es] (.tup [sealA x hmO [5, 0] (tagS k x), lv (.int .i64 0)]) [tabB, .map es] [] := by
 have h1 := single_ok x hx hxw
 rw [hs] at h1
 have h2 := tget_ok es n k hn1 hk hf
 have h3 := tag_ok k [x] hkw (by omega) (by simpa using hxw) (by simp) (by simp; omega)
 rw [show [x].flatten = x by simp] at h3
 have h4 := clone_ok x (by omega)
 have h5 := hmac_ok
 have hdl : (tagS k x).length = 32 := digS_len _
 have hdw : WfB (tagS k x) := digS_wf _
 generalize tagS k x = D at *
 have hdn := ne32 hdl
 refine Ct_intro Tryz.func34 rfl rfl rfl rfl rfl (fun E hn hb => ?_)
 refine nxm ?_
 refine nxm ?_
 refine nxm ?_
 refine nxm ?_
 repeat (first | refine s_allocAN .u8 32 rfl rfl rfl (by rw [hn]; rfl) (by kernel_rfl) ?_ | refine nxm ?_)
 refine s_storeA rfl rfl rfl rfl rfl (by exact vcs) rfl (by rw [cellsOf46]; first | rfl | assumption | omega | kernel_rfl | (simp; done) | (simp; omega) | (simp at *; omega)) (by first | rfl | assumption | omega | kernel_rfl | (simp; done) | (simp; omega) | (simp at *; omega)) (by first | assumption | (simp; done) | exact List.cons_ne_nil _ _) ?_
 repeat refine nxm ?_
 refine dup1 (hp := ?_) ?_
 rotate_left
 · exact ⟨rfl, by omega, hdn, show 32 ≤ maxLen from by decide⟩
 repeat refine nxm ?_
 refine frcN3 74 70 ?_ (hp := ?_)
 rotate_left
 · exact hdl.symm
 exact rt1 []
def chkZ (k t o m s : List Int) : Int := if tagS k t = s then 0 else 13
set_option maxHeartbeats 4000000 in
theorem scheck_ok (es : MapL) (n k t o m s : List Int) (hn1 : n.length ≤ 64) (hk : k.length ≤ 256) (hkw : WfB k) (ht : t.length ≤ 100000) (hwt : WfB t) (ho : o.length ≤ 1000000) (hm : m.length ≤ 100000) (hw : WfB m) (hs : s.length ≤ 100000) (hws : WfB s)
   (hf : findM es (strOfNums n) = some (.ints .u8 k)) (ha : rightG o m = true) (he : (wrG o m).1 = (wrG hmO [5, 0]).1) :
   Ct Tryz.prog 39 [.c (.ptr 0 0), B8 n, sealA t o m s] [tabB, .map es] (lv (.int .i64 (chkZ k t o m s))) [tabB, .map es] [] := by
 have h1 := hmac_ok
 have h2 := samealg_ok o m hmO [5, 0] ho hm hw (by decide) (by decide) (wf18 (by decide +kernel)) ha ex_r2
 rw [decide_eq_true he] at h2
 have h3 := tget_ok es n k hn1 hk hf
 have h4 := mcheck_ok k s [t] hkw (by omega) hws (by omega) (by simpa using hwt) (by simp) (by simp; omega)
 rw [show [t].flatten = t by simp] at h4
 unfold chkZ
 by_cases hq : tagS k t = s
 · rw [decide_eq_true hq] at h4
   rw [if_pos hq]
   refine Ct_intro Tryz.func39 rfl rfl rfl rfl rfl (fun E hn hb => ?_)
   repeat refine nxm ?_
   exact rt1 []
 · rw [decide_eq_false hq] at h4
   rw [if_neg hq]
   refine Ct_intro Tryz.func39 rfl rfl rfl rfl rfl (fun E hn hb => ?_)
   repeat refine nxm ?_
   exact rt1 []
theorem scheck_none (es : MapL) (n t o m s : List Int) (hn1 : n.length ≤ 1000000) (ho : o.length ≤ 1000000) (hm : m.length ≤ 100000) (hw : WfB m)
   (hf : findM es (strOfNums n) = none) (ha : rightG o m = true) (he : (wrG o m).1 = (wrG hmO [5, 0]).1) :
   Ct Tryz.prog 39 [.c (.ptr 0 0), B8 n, sealA t o m s] [tabB, .map es] (lv (.int .i64 14)) [tabB, .map es] [] := by
 have h1 := hmac_ok
 have h2 := samealg_ok o m hmO [5, 0] ho hm hw (by decide) (by decide) (wf18 (by decide +kernel)) ha ex_r2
 rw [decide_eq_true he] at h2
 have h3 := tget_no es n hn1 hf
 refine Ct_intro Tryz.func39 rfl rfl rfl rfl rfl (fun E hn hb => ?_)
 repeat refine nxm ?_
 exact rt1 []
end Go.Proofs.YthoaneleeabadaaGreat

namespace Go.Proofs.YthoaneleeabadaaGreat
set_option linter.unusedSimpArgs false
set_option linter.unusedVariables false
open Go Go.Sx
set_option maxRecDepth 10000
theorem s_litH {P : Program} {E : Env} {ops : Array Oper} {Q : Exit → Act → World → Prop} {rest : List Oper} {o : Oper} {σ : St} {i : Nat} {b : Bool} {o2 : Oper} {t e : TypeId} {by_ n d1 : Nat} {parts : Array (Nat × Operand)} {ps : List Prop} {out : List Cell} {k : IntKind} {l : List Int} (hop : o.op = .buildSlice t n parts) (hg : o.guard = none) (hdst : o.dst = some d1) (hd : dstOk E.n o.dst = true)
   (hop2 : o2.op = .convert t t (.tmp d1)) (hg2 : o2.guard = some (i, b)) (hG2 : guardC ops (σ.put o.dst (.c (.lf (.ints k l)))) i b = some true) (hd2 : dstOk E.n o2.dst = true) (hE : Elt P t e 1 by_) (he8 : P.underlying e = some (.int .u8)) (hz : zeroOk P e)
   (hf : fillA (fun i => some (i * 1, 1)) (List.replicate (n * 1) .un) (parts.toList.map fun (i, x) => (i, ox σ x)) = some (ps, out)) (hp : AllP ps) (hdd : dataOf P e 1 n out = some (.ints k l)) (hn : n * 1 ≤ 16777216 ∧ n ≤ 16777216 ∧ l.length = n)
   (hk : WL P E ops Q rest ((σ.put o.dst (.c (.lf (.ints k l)))).put o2.dst (.c (.lf (.ints k l))))) : WL P E ops Q (o :: o2 :: rest) σ := by
 intro a w hS
 obtain ⟨β, F, hS⟩ := hS
 obtain ⟨r, hrun, hRC⟩ := lit_core hS hE hz hf hp hdd ⟨hn.1, hn.2.1, hn.2.2, rfl⟩
 refine wpList_plain hg fun K hK => ?_
 unfold Oper.wp
 have hr1 : (execOp a.eval o).run P w = .ok (.value (.slice (some ⟨w.heap.size, 0, none⟩) n n)) (w.alloc (.cells r e)) := by
   simp only [execOp, hop, Sem.run_bind, hrun, Result.andThen_ok]
   rfl
 rw [hr1]
 have hb1 : ∀ k, k < w.heap.size → (w.alloc (.cells r e)).heap[k]? = w.heap[k]? := fun k hk => RowKit.Below.heap_alloc w _ k hk
 have hsz1 : (w.alloc (.cells r e)).heap.size = w.heap.size + 1 := by simp
 have hgr1 : Grow w (w.alloc (.cells r e)) := ⟨rfl, rfl, rfl, by omega, hb1⟩
 have hv1 : AvR β (fun b => F b ∨ b = w.heap.size) (w.alloc (.cells r e)) (.c (.lf (.ints k l))) (.slice (some ⟨w.heap.size, 0, none⟩) n n) := by
   refine .c (.lf (RC.toLf (F := F) (vs := r.toList) (hRC.mono fun b hb' => ⟨hb', hb1 b (hS.fr b hb').1⟩) (fun b h => .inl h) (.inr rfl) (fun i v hv => ?_) hn.2.2.symm (Nat.le_refl _) (by simp only [maxLen]; omega)))
   rw [(row_alloc (w := w) r e).cell]
   simpa using hv
 have hS1 := (hS.grown hgr1 (F' := fun b => F b ∨ b = w.heap.size) (fun b h => .inl h) (fun b hb' => by
   rcases hb' with h | h
   · exact .inl h
   · exact .inr (by omega))).put hv1 (dstOk_lt hd)
 have hw := guardB_wanted (o := o2) (guardC_eq hG2) hg2 hS1
 refine hK _ _ ?_
 have hlt : d1 < a.tmps.size := by
   rw [hdst] at hd
   have := dstOk_lt hd d1 rfl
   rw [hS.sz]
   exact this
 have hev : (a.put o.dst (.slice (some ⟨w.heap.size, 0, none⟩) n n)).eval (.tmp d1) = .slice (some ⟨w.heap.size, 0, none⟩) n n := by
   rw [hdst]
   simp [Act.put, Act.eval, hlt]
 have hr2 : (execOp (a.put o.dst (.slice (some ⟨w.heap.size, 0, none⟩) n n)).eval { o2 with guard := none }).run P (w.alloc (.cells r e)) = .ok (.value (.slice (some ⟨w.heap.size, 0, none⟩) n n)) (w.alloc (.cells r e (r.size, r.size + 1))) := by
   simp only [execOp, hop2, hev, Sem.run_bind, Lib.run_convert_bytes_const w t e r n n hE.1 he8, Result.andThen_ok]
   rfl
 have hb : ∀ k, k < w.heap.size → (w.alloc (.cells r e (r.size, r.size + 1))).heap[k]? = w.heap[k]? := fun k hk => RowKit.Below.heap_alloc w _ k hk
 have hsz : (w.alloc (.cells r e (r.size, r.size + 1))).heap.size = w.heap.size + 1 := by simp
 have hrow : Row (w.alloc (.cells r e (r.size, r.size + 1))) w.heap.size r := ⟨e, (r.size, r.size + 1), heap_alloc_new w _, .inr (Nat.le_refl _)⟩
 have hgr : Grow w (w.alloc (.cells r e (r.size, r.size + 1))) := ⟨rfl, rfl, rfl, by omega, hb⟩
 have hv : AvR β (fun b => F b ∨ b = w.heap.size) (w.alloc (.cells r e (r.size, r.size + 1))) (.c (.lf (.ints k l))) (.slice (some ⟨w.heap.size, 0, none⟩) n n) := by
   refine .c (.lf (RC.toLf (F := F) (vs := r.toList) (hRC.mono fun b hb' => ⟨hb', hb b (hS.fr b hb').1⟩) (fun b h => .inl h) (.inr rfl) (fun i v hv => ?_) hn.2.2.symm (Nat.le_refl _) (by simp only [maxLen]; omega)))
   rw [hrow.cell]
   simpa using hv
 have hS2 := (hS.grown hgr (F' := fun b => F b ∨ b = w.heap.size) (fun b h => .inl h) (fun b hb' => by
   rcases hb' with h | h
   · exact .inl h
   · exact .inr (by omega)))
 have key : wpList P ops Q ({ o2 with guard := none } :: rest) (a.put o.dst (.slice (some ⟨w.heap.size, 0, none⟩) n n)) (w.alloc (.cells r e)) := by
   refine wpList_plain (o := { o2 with guard := none }) rfl fun K2 hK2 => ?_
   unfold Oper.wp
   rw [hr2]
   exact hK2 _ _ (hk _ _ ⟨β, _, (hS2.put hv (dstOk_lt hd)).put hv (dstOk_lt hd2)⟩)
 have hw' : Region.wanted { o2 with guard := none } (yielded ops (a.put o.dst (.slice (some ⟨w.heap.size, 0, none⟩) n n)).tmps) = true := by simp [Region.wanted]
 unfold wpList at key ⊢
 rw [hw]
 rw [hw'] at key
 exact key
theorem ex19_s : sglB [5, 0] = true := by decide +kernel
theorem ex19_g : rightG hmO [5, 0] = true := by decide +kernel
theorem ex19_z : rightZ [5, 0] hmO [5, 0] = true := by decide +kernel
theorem wrPZ_wfB {t o m s : List Int} (hwt : WfB t) (hw : WfB m) (hws : WfB s) : WfB (wrPZ t o m s) :=
 wf_app (wf_app hwt (wrG_wf o hw)) (wrap_wf _ _ (by decide) fun x hx => by
   rcases List.mem_cons.1 hx with rfl | hx
   · omega
   · exact hws x hx)
set_option maxHeartbeats 16000000 in
theorem known19_ok : Ct Tryz.prog 36 [] [] (lv (.bool true)) [] [] := by
 have htn := tnew_ok
 have htp := tput_ok [] [107] [115] (by decide) (by decide) (by decide) rfl
 have hf1 : findM (setM [] (strOfNums [107]) (.ints .u8 [115])) (strOfNums [107]) = some (.ints .u8 [115]) := by simp [setM, findM]
 have hf2 : findM (setM [] (strOfNums [107]) (.ints .u8 [115])) (strOfNums [106]) = none := by decide +kernel
 have hw5 : WfB [5, 0] := wf18 (by decide +kernel)
 have hmk := smake_ok (setM [] (strOfNums [107]) (.ints .u8 [115])) [107] [115] [5, 0] (by decide) (by decide) (wf18 (by decide +kernel)) (by decide) hw5 hf1 ex19_s
 have hdl : (tagS [115] [5, 0]).length = 32 := digS_len _
 have hdw : WfB (tagS [115] [5, 0]) := digS_wf _
 have hck := fun he => scheck_ok (setM [] (strOfNums [107]) (.ints .u8 [115])) [107] [115] [5, 0] hmO [5, 0] (tagS [115] [5, 0]) (by decide) (by decide) (wf18 (by decide +kernel)) (by decide) hw5 (by decide) (by decide) hw5 (by rw [hdl]; decide) hdw hf1 ex19_g he
 have hck := hck rfl
 unfold chkZ at hck
 rw [if_pos rfl] at hck
 have hcn := scheck_none (setM [] (strOfNums [107]) (.ints .u8 [115])) [106] [5, 0] hmO [5, 0] (tagS [115] [5, 0]) (by decide) (by decide) (by decide) hw5 hf2 ex19_g rfl
 generalize tagS [115] [5, 0] = D at *
 have hwr := swrite_ok [5, 0] hmO [5, 0] D (by decide) hw5 (by decide) (by decide) hw5 (by omega) hdw
 rw [if_pos ex19_z, if_pos ex19_z] at hwr
 have hpf := parseZ_fwd (t := [5, 0]) (o := hmO) (m := [5, 0]) (s := D) hw5 hw5 ex19_z (by decide) (by decide) (by omega)
 have hlen := wrPZ_len (t := [5, 0]) (s := D) ex19_g
 have hl1 := wrap_len (ofT 16) (wrPZ [5, 0] hmO [5, 0] D)
 have hww : WfB (wrapL (ofT 16) (wrPZ [5, 0] hmO [5, 0] D)) := wrap_wf _ _ (by decide) (wrPZ_wfB hw5 hw5 hdw)
 have hps := sparse_ok (wrapL (ofT 16) (wrPZ [5, 0] hmO [5, 0] D)) (by simp at hlen; omega) hww
 rw [hpf] at hps
 dsimp only at hps
 generalize wrapL (ofT 16) (wrPZ [5, 0] hmO [5, 0] D) = X at *
 generalize setM [] (strOfNums [107]) (.ints .u8 [115]) = M at *
 clear hpf
 have hcn' := fun _ : Unit => hcn
 clear hcn
 refine Ct_intro Tryz.func36 rfl rfl rfl rfl rfl (fun E hn hb => ?_)
 repeat (first | refine s_litC rfl rfl rfl (by rw [hn]; rfl) rfl rfl (by rw [hn]; rfl) (elt_mk Tryz.underlying23 rfl rfl) Tryz.underlying5 zok5 rfl (by exact vcs) rfl ⟨by decide, by decide, rfl⟩ ?_ | (refine WL_gT rfl rfl ?_; refine s_litH rfl rfl rfl (by rw [hn]; rfl) rfl rfl rfl (by rw [hn]; rfl) (elt_mk Tryz.underlying23 rfl rfl) Tryz.underlying5 zok5 rfl trivial rfl ⟨by decide, by decide, rfl⟩ ?_) | refine nxm ?_ | (refine WL_gT rfl rfl ?_; refine nxm ?_))
 have hcn := hcn' ()
 clear hck
 repeat (first | (refine WL_gT rfl rfl ?_; refine s_litH rfl rfl rfl (by rw [hn]; rfl) rfl rfl rfl (by rw [hn]; rfl) (elt_mk Tryz.underlying23 rfl rfl) Tryz.underlying5 zok5 rfl trivial rfl ⟨by decide, by decide, rfl⟩ ?_) | refine nxm ?_ | (refine WL_gT rfl rfl ?_; refine nxm ?_))
 refine rt2 [] (congrArg (fun x => lv (.bool x)) ?_) trivial; (simp [eqCs, Cell.kill, Cell.kill1])
 decide +kernel
end Go.Proofs.YthoaneleeabadaaGreat

namespace Go.Proofs.YthoaneleeabadaaGreat
set_option linter.unusedSimpArgs false
set_option linter.unusedVariables false
open Go.Sx
set_option maxRecDepth 10000
theorem wrPZ_ge {t o m s : List Int} : t.length ≤ (wrPZ t o m s).length ∧ m.length ≤ (wrPZ t o m s).length ∧ s.length ≤ (wrPZ t o m s).length := by
 unfold wrPZ wrapL
 simp only [List.length_append, List.length_cons]
 omega
end Go.Proofs.YthoaneleeabadaaGreat

namespace Go.Proofs.YthoaneleeabadaaGreat
set_option linter.unusedSimpArgs false
set_option linter.unusedVariables false
open Go.Sx
set_option maxRecDepth 10000
set_option maxHeartbeats 4000000 in
theorem ojoin_ok (rs : List (List Int)) (hl : rs.length ≤ 100000) (hf : rs.flatten.length ≤ 1000000) : Ct Tryz.prog 56 [rowsA rs] [] (B8 rs.flatten) [] [] := by
 refine Ct_intro Tryz.func56 rfl rfl rfl rfl rfl (fun E hn hb => ?_)
 repeat refine nx ?_
 rw [List.length_map]
 refine W_weaken (St.le_of (l := [(0, rowsA rs), (3, lv (.int .i64 (((rs.take 0).flatten.length : Nat) : Int))), (9, rowsA rs), (10, lv (.int .i64 (rs.length : Int))), (11, lv (.int .i64 ((0 : Nat) : Int)))]) (h := []) (by refine ⟨?_, ?_⟩ <;> (repeat' (first | exact trivial | exact rfl | refine ⟨?_, ?_⟩)) <;> first | exact rfl | (simp; done) | skip)) ?_
 refine W_loop (ι := {i : Nat // i ≤ rs.length}) (fun i => St.of [(0, rowsA rs), (3, lv (.int .i64 (((rs.take i.1).flatten.length : Nat) : Int))), (9, rowsA rs), (10, lv (.int .i64 (rs.length : Int))), (11, lv (.int .i64 (i.1 : Int)))] []) (fun i => rs.length - i.1) (fun i => ?_) ⟨0, by omega⟩
 obtain ⟨i, hi⟩ := i
 dsimp only
 by_cases hi2 : i < rs.length
 · obtain ⟨h1, h2⟩ := flat_next rs i hi2
   have h3 := congrArg List.length h1
   rw [h3] at h2
   rw [List.length_append] at h2 h3
   generalize (rs.take i).flatten.length = L at *
   repeat refine nx ?_
   refine N_round ⟨i + 1, by omega⟩ (by dsimp only; omega) (St.le_of ⟨⟨rfl, ?_, rfl, rfl, rfl⟩, trivial⟩)
   dsimp only
   rw [h3]
   rfl
 · obtain rfl : i = rs.length := by omega
   rw [List.take_length]
   repeat refine nx ?_
   refine s_makeI (by_ := 1) rfl rfl rfl (by rw [hn]; rfl) (elt_mk Tryz.underlying23 rfl rfl) rfl rfl rfl (by exact vcs) 0 (by first | rfl | (simp; done) | omega) (by first | (simp; done) | omega | (simp at *; omega)) ?_
   repeat refine nx ?_
   rw [List.length_map]
   refine W_weaken (St.le_of (l := [(0, rowsA rs), (6, .c (.own 85 1 0 0)), (22, rowsA rs), (23, lv (.int .i64 (rs.length : Int))), (24, lv (.int .i64 ((0 : Nat) : Int)))]) (h := [(85, .row (.ints .u8 []))]) (by refine ⟨?_, ?_⟩ <;> (repeat' (first | exact trivial | exact rfl | refine ⟨?_, ?_⟩)) <;> first | exact rfl | (simp; done) | skip)) ?_
   refine W_loop (ι := {i : Nat // i ≤ rs.length}) (fun i => St.of [(0, rowsA rs), (6, .c (.own 85 1 0 (rs.take i.1).flatten.length)), (22, rowsA rs), (23, lv (.int .i64 (rs.length : Int))), (24, lv (.int .i64 (i.1 : Int)))] [(85, .row (.ints .u8 (rs.take i.1).flatten))]) (fun i => rs.length - i.1) (fun i => ?_) ⟨0, by omega⟩
   obtain ⟨i, hi⟩ := i
   dsimp only
   by_cases hi2 : i < rs.length
   · obtain ⟨h1, h2⟩ := flat_next rs i hi2
     rw [h1] at h2
     rw [List.length_append] at h2
     repeat refine nx ?_
     refine N_round ⟨i + 1, by omega⟩ (by dsimp only; omega) (St.le_of ⟨⟨rfl, ?_, rfl, rfl, rfl⟩, ?_⟩)
     · dsimp only; rw [h1]; rfl
     · dsimp only; rw [h1]; rfl
   · obtain rfl : i = rs.length := by omega
     rw [List.take_length]
     repeat refine nx ?_
     refine frzN 2 ?_
     exact rt1 []
theorem sto_ok (t o m s : List Int) (ht : t.length ≤ 9223372036854775807) (ho : o.length ≤ 9223372036854775807) (hm : m.length ≤ 9223372036854775807) (hs : s.length ≤ 9223372036854775807) : Ct Tryz.prog 40 [sealA t o m s] [] (sealA (t.take (min (t.length : Int) 500).toNat) (o.take (min (o.length : Int) 40).toNat) (m.take (min (m.length : Int) 200).toNat) (s.take (min (s.length : Int) 100).toNat)) [] [] := by
 have h := toalg_ok o m ho hm
 refine Ct_intro Tryz.func40 rfl rfl rfl rfl rfl (fun E hn hb => ?_)
 repeat refine nx ?_
 exact rt1 []
theorem rswrite_ok (t o m s : List Int) (ht : t.length ≤ 100000) (hg : rightG o m = true) (hm : m.length ≤ 100000) (hs : s.length ≤ 100000) : Ct Tryz.prog 57 [sealA t o m s] [] (B8 (wrapL (ofT 16) (wrPZ t o m s))) [] [] := by
 have h1 := rswpartsD_ok t o m s ht hg hm hs
 have hlen := wrPZ_len (t := t) (s := s) hg
 have h2 := refoft_ok 16
 have h3 := refwrap_ok (ofT 16) (wrPZ t o m s) (by decide) (by omega)
 generalize wrapL (ofT 16) (wrPZ t o m s) = B at *
 generalize wrPZ t o m s = A at *
 refine Ct_intro Tryz.func57 rfl rfl rfl rfl rfl (fun E hn hb => ?_)
 repeat refine nx ?_
 exact rt1 []

set_option maxHeartbeats 32000000 in
theorem writes19_ok (t0 o0 m0 s0 r0 : List Int) (ht0 : t0.length ≤ 9223372036854775807) (ho0 : o0.length ≤ 9223372036854775807) (hm0 : m0.length ≤ 9223372036854775807) (hs0 : s0.length ≤ 9223372036854775807) (hr0 : r0.length ≤ 9223372036854775807) (hwt0 : WfB t0) (hwm0 : WfB m0) (hws0 : WfB s0) (hwr0 : WfB r0) : Ct Tryz.prog 8 [sealA t0 o0 m0 s0, B8 r0] [] (lv (.bool true)) [] [] := by
 have hkn := known19_ok
 have hto := sto_ok t0 o0 m0 s0 ht0 ho0 hm0 hs0
 have ht : (t0.take (min (t0.length : Int) 500).toNat).length ≤ 500 := by simp; omega
 have ho : (o0.take (min (o0.length : Int) 40).toNat).length ≤ 40 := by simp; omega
 have hm : (m0.take (min (m0.length : Int) 200).toNat).length ≤ 200 := by simp; omega
 have hs : (s0.take (min (s0.length : Int) 100).toNat).length ≤ 100 := by simp; omega
 have hr : (r0.take (min (r0.length : Int) 100).toNat).length ≤ 100 := by simp; omega
 have hwt : WfB (t0.take (min (t0.length : Int) 500).toNat) := wfl_take hwt0 _
 have hwm : WfB (m0.take (min (m0.length : Int) 200).toNat) := wfl_take hwm0 _
 have hws : WfB (s0.take (min (s0.length : Int) 100).toNat) := wfl_take hws0 _
 have hwr : WfB (r0.take (min (r0.length : Int) 100).toNat) := wfl_take hwr0 _
 generalize t0.take (min (t0.length : Int) 500).toNat = t at *
 generalize o0.take (min (o0.length : Int) 40).toNat = o at *
 generalize m0.take (min (m0.length : Int) 200).toNat = m at *
 generalize s0.take (min (s0.length : Int) 100).toNat = s at *
 have hof := sof_ok t o m s
 have w1 := swparts_ok t o m s (by omega) hwt (by omega) (by omega) hwm (by omega) hws
 have w2 := swrite_ok t o m s (by omega) hwt (by omega) (by omega) hwm (by omega) hws
 have r1 := sright_ok t o m s (by omega) hwt (by omega) (by omega) hwm
 have r2 := rsright_ok t o m s (by omega) hwt (by omega) (by omega) hwm
 by_cases hz : rightZ t o m = true
 · rw [if_pos hz, if_pos hz] at w1 w2
   rw [hz] at r1 r2
   have hg := (rightZ_m hz).2
   have hX := wrPZ_len (t := t) (s := s) hg
   have hY := wrap_len (ofT 16) (wrPZ t o m s)
   have q1 := rswpartsD_ok t o m s (by omega) hg (by omega) (by omega)
   have q2 := rswrite_ok t o m s (by omega) hg (by omega) (by omega)
   have f1 := partsZ_fwd (r0.take (min (r0.length : Int) 100).toNat) (s := s) hwt hwm hz (by omega) (by omega)
   have f2 := parseZ_fwd (s := s) hwt hwm hz (by omega) (by omega) (by omega)
   have wX := wrPZ_wfB (o := o) hwt hwm hws
   have wY := wrap_wf (ofT 16) _ (by decide) wX
   have hp := place_at (t := t) (o := o) (m := m) (s := s) (by omega) (by omega) (by omega) hg
   have hge := (wrPZ_ge (t := t) (o := o) (m := m) (s := s)).1
   have k1 := slike_ok t o m s (by omega) (by omega) (by omega) (by omega)
   have p2 := sparse_ok (wrapL (ofT 16) (wrPZ t o m s)) (by omega) wY
   have p3 := place_ok (wrapL (ofT 16) (wrPZ t o m s)) (by omega) wY
   unfold placeZ at p3
   rw [f2] at p2 p3
   rw [if_pos rfl] at p3
   dsimp only at p2 p3
   have jn := ojoin_ok [wrPZ t o m s, r0.take (min (r0.length : Int) 100).toNat] (by simp) (by simp; omega)
   rw [show [wrPZ t o m s, r0.take (min (r0.length : Int) 100).toNat].flatten = wrPZ t o m s ++ r0.take (min (r0.length : Int) 100).toNat by simp] at jn
   have p1 := parts_ok (wrPZ t o m s ++ r0.take (min (r0.length : Int) 100).toNat) 0 (Nat.zero_le _) (by rw [List.length_append]; omega) (wf_app wX hwr)
   rw [f1] at p1
   dsimp only at p1
   obtain ⟨hp1, hp2⟩ := hp
   generalize wrapL (ofT 16) (wrPZ t o m s) = Y at *
   generalize wrPZ t o m s = X at *
   generalize (readP Y 0).2.1 = p at *
   have cn := curnew_ok (X ++ r0.take (min (r0.length : Int) 100).toNat) (by rw [List.length_append]; omega)
   have a1 := at_ok (X ++ r0.take (min (r0.length : Int) 100).toNat) X.length
   have s1 := same_ok X X (by omega) (by omega)
   have s2 := same_ok Y Y (by omega) (by omega)
   rw [decide_eq_true rfl] at s1 s2
   have e6 : (Y.take ((p : Int) + (t.length : Int)).toNat).drop (p : Int).toNat = t := by
     rw [show ((p : Int) + (t.length : Int)).toNat = p + t.length by omega, Int.toNat_natCast, List.drop_take, show p + t.length - p = t.length by omega]
     exact hp2
   have s3 := same_ok ((Y.take ((p : Int) + (t.length : Int)).toNat).drop (p : Int).toNat) t (by rw [e6]; omega) (by omega)
   rw [decide_eq_true e6] at s3
   clear f1 f2 e6 hp2
   refine Ct_intro Tryz.func8 rfl rfl rfl rfl rfl (fun E hn hb => ?_)
   repeat (first | refine nxm ?_ | refine dna2 ?_ | refine dea2 ?_ | refine dna1 ?_ | refine dea1 ?_ | refine ba1 ?_ | refine dba1 ?_)
   refine rt2 [] (congrArg (fun x => lv (.bool x)) ?_) trivial; (simp [eqCs, Cell.kill, Cell.kill1])
   omega
 · rw [if_neg hz, if_neg hz] at w1 w2
   rw [Bool.not_eq_true] at hz
   rw [hz] at r1 r2
   refine Ct_intro Tryz.func8 rfl rfl rfl rfl rfl (fun E hn hb => ?_)
   repeat (first | refine nxm ?_ | refine dna2 ?_ | refine dea2 ?_ | refine dna1 ?_ | refine dea1 ?_ | refine ba1 ?_ | refine dba1 ?_)
   refine rt2 [] (congrArg (fun x => lv (.bool x)) ?_) trivial; (simp [eqCs, Cell.kill, Cell.kill1])
end Go.Proofs.YthoaneleeabadaaGreat

namespace Go.Sx
open Go
open Go.ChangeShapes Go.WideShapes Go.ChangeAt Go.RowKit Go.Joins Go.Deep
set_option linter.unusedVariables false
section
variable {H : Type} {enc : TypeId × Value → H} {P : Program} {w : World} {base : Nat} {spare : Nat → Bool} {held : Bool} {fuel : Nat}
def LeavesR (w : World) (cs : List Value) (ls : List Leaf) : Prop := cs.length = ls.length ∧ ∀ (j : Nat) (z : Leaf), ls[j]? = some z → ∃ u, cs[j]? = some u ∧ LfR (Was w) w z u
theorem cell_bytes {ty e : TypeId} (ht : P.underlying ty = some (.slice e)) (he : P.underlying e = some (.int .u8)) (hc : P.cellsOf e = 1) : ∀ n c y, DataW.trod enc P w base spare held n ty [c] = some y → ∃ x : List Int, (x.length ≤ 9223372036854775807 ∧ ∀ n ∈ x, 0 ≤ n ∧ n < 256) ∧ LfR (Was w) w (.ints .u8 x) c := by
 intro n c y h
 obtain ⟨l, h1, h2, h3⟩ := open_row ht he hc h
 exact ⟨l, ⟨h1, fun n hn => wf_u8 (h2 n hn)⟩, h3⟩
theorem cell_ints {k : IntKind} {ty e : TypeId} (ht : P.underlying ty = some (.slice e)) (he : P.underlying e = some (.int k)) (hc : P.cellsOf e = 1) : ∀ n c y, DataW.trod enc P w base spare held n ty [c] = some y → ∃ x : List Int, (x.length ≤ 9223372036854775807 ∧ ∀ n ∈ x, (Lit.int k n).wf = true) ∧ LfR (Was w) w (.ints k x) c := by
 intro n c y h
 obtain ⟨l, h1, h2, h3⟩ := open_row ht he hc h
 exact ⟨l, ⟨h1, h2⟩, h3⟩
end
end Go.Sx

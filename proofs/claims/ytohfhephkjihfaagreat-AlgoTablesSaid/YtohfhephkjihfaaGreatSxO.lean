/-
  The layer: 'range' over a map that the loop does not write. No condition.
-/
import Derived.Test.YtohfhephkjihfaaGreatI1
import Derived.Test.YtohfhephkjihfaaGreatShK
import Derived.Test.YtohfhephkjihfaaGreatA17
import Derived.Test.YtohfhephkjihfaaGreatM7
import Derived.Test.YtohfhephkjihfaaGreatSxI
import Derived.Test.YtohfhephkjihfaaGreatSxP
import Derived.Laws.IdiomRangeMap
namespace Go.Proofs.YtohfhephkjihfaaGreat
set_option linter.unusedSimpArgs false
set_option linter.unusedVariables false
open Go Go.Sx
set_option maxRecDepth 10000
theorem keys_ok (es : MapL) : Ct Tryz.prog 31 [.c (.map 0)] [.map es] (.c (.fn (.func 46) [] [.ptr 1 0])) [.map es] [.cells [.map 0]] := by
 refine Ct_intro Tryz.func31 rfl rfl rfl rfl rfl (fun E hn hb => ?_)
 repeat refine nxm ?_
 exact rt1 [65]

theorem insert_perm {H : Type} (x : Lit × DataW H) : ∀ l, (DataW.insert x l).Perm (x :: l)
 | [] => .refl _
 | y :: r => by
   unfold DataW.insert
   split
   · exact .refl _
   · exact ((insert_perm x r).cons y).trans (.swap x y r)
theorem inserts_perm {H : Type} : ∀ l : List (Lit × DataW H), (l.foldr DataW.insert []).Perm l
 | [] => .refl _
 | x :: l => (insert_perm x _).trans ((inserts_perm l).cons x)
def keyBs (es : MapL) : List (List UInt8) := es.map fun p => p.1.data.toList
def leB8 (x y : List UInt8) : Bool := decide (x ≤ y)
theorem leB8_trans (a b c : List UInt8) (h1 : leB8 a b = true) (h2 : leB8 b c = true) : leB8 a c = true := by
 simp only [leB8, decide_eq_true_eq] at *
 exact List.le_trans h1 h2
theorem leB8_total (a b : List UInt8) : (leB8 a b || leB8 b a) = true := by
 simp only [leB8, Bool.or_eq_true, decide_eq_true_eq]
 exact List.le_total a b
theorem leB8_anti (a b : List UInt8) (h1 : leB8 a b = true) (h2 : leB8 b a = true) : a = b := by
 simp only [leB8, decide_eq_true_eq] at *
 exact List.le_antisymm h1 h2
theorem sort_perm {a b : List (List UInt8)} (h : a.Perm b) : a.mergeSort leB8 = b.mergeSort leB8 :=
 (((List.mergeSort_perm a leB8).trans h).trans (List.mergeSort_perm b leB8).symm).eq_of_pairwise (fun x y _ _ h1 h2 => leB8_anti x y h1 h2) (List.pairwise_mergeSort leB8_trans leB8_total a) (List.pairwise_mergeSort leB8_trans leB8_total b)
def baOf (l : List UInt8) : ByteArray := ⟨l.toArray⟩
def srtK (es : MapL) : List ByteArray := ((keyBs es).mergeSort leB8).map baOf
theorem srtK_len (es : MapL) : (srtK es).length = es.length := by simp [srtK, keyBs]
theorem MR_keys {F : Nat → Prop} {w : World} {P : Program} {kt : Nat} (hk : P.underlying kt = some .string) : ∀ {ms : List MapEntry} {es : MapL}, MR F w ms es → (∀ p ∈ es, p.1.size ≤ 1000000) →
   (∀ x ∈ ms, Go.WideElems.rd P kt R0 x = some (Go.WideElems.rg P kt R0 x)) ∧ (ms.map (Go.WideElems.rg P kt R0)).map (fun p => strOf p.1) = keyBs es
 | [], [], _, _ => ⟨fun x hx => (by cases hx), rfl⟩
 | [], _ :: _, h, _ => h.elim
 | _ :: _, [], h, _ => h.elim
 | e :: ms, (k, x) :: es, ⟨h1, _, h3⟩, hs => by
   obtain ⟨i1, i2⟩ := MR_keys hk h3 fun p hp => hs p (List.mem_cons_of_mem _ hp)
   have hkey : keyOf P kt e.key = some (.string k.data.toList) := by
     rw [h1, keyOf_string hk]
     unfold mapKey
     rw [hk]
     simp
     exact Nat.le_trans (hs _ (List.mem_cons_self ..)) (by decide)
   have hrd : Go.WideElems.rd P kt R0 e = some (.string k.data.toList, .lit (.bool false)) := by
     unfold Go.WideElems.rd
     rw [hkey]
     rfl
   have hrg : Go.WideElems.rg P kt R0 e = (.string k.data.toList, .lit (.bool false)) := by
     unfold Go.WideElems.rg
     rw [hrd]
     rfl
   refine ⟨fun y hy => ?_, ?_⟩
   · rcases List.mem_cons.1 hy with rfl | hy
     · rw [hrd, hrg]
     · exact i1 y hy
   · rw [List.map_cons, List.map_cons, i2, hrg]
     rfl
theorem sorted_any {P : Program} {fs fk kt : Nat} {fn : Func} (hS : SortedSays P fs fk kt) (hk : P.underlying kt = some .string) (hfn : P.funcs[fs]? = some fn) (hnm : (fn.name == "runtime.NumGoroutine") = false) (hbd : fn.body.isNone = false) (es : MapL) (hks : ∀ p ∈ es, p.1.size ≤ 1000000) (hes : es.length ≤ 1000000) :
   Ct P fs [.c (.fn (.func fk) [] [.ptr 0 0])] [.cells [.map 1], .map es] (.c (.lf (.recs 1 ((srtK es).map fun k => [.v (.string k)])))) [.cells [.map 1], .map es] [] := by
 refine ⟨rfl, ⟨fn, hfn, hnm, hbd⟩, fun w β F vs hl ha hbor hinj hown hnone hF hgd => ?_⟩
 obtain ⟨v, rfl⟩ : ∃ v, vs = [v] := by
   match vs, hl with
   | [v], _ => exact ⟨v, rfl⟩
 have h0 := ha 0 _ v rfl rfl
 cases h0 with | c h0 =>
 cases h0 with | fn _ _ _ fv cv h1 h2 h3 h4 =>
 obtain rfl : fv = #[] := by simpa using h1
 obtain ⟨p, rfl⟩ : ∃ p, cv = #[p] := by
   obtain ⟨l⟩ := cv
   match l, h2 with
   | [p], _ => exact ⟨p, rfl⟩
 have hp := h4 0 _ p rfl rfl
 cases hp with | ptr _ _ g0 hg0 =>
 obtain ⟨hb0, _⟩ := hbor 0 _ rfl
 obtain ⟨hb1, _⟩ := hbor 1 _ rfl
 obtain ⟨g0', cur0, q1, ⟨t0, fr0, q2, q2'⟩, q3, q4⟩ := hb0
 obtain rfl : g0 = g0' := Option.some.inj (hg0.symm.trans q1)
 obtain ⟨b, ms, ck, r1, r2, ⟨r3, r3', hnd⟩, r4⟩ := hb1
 obtain ⟨m, rfl⟩ : ∃ m, cur0 = #[m] := by
   obtain ⟨l⟩ := cur0
   match l, q3 with
   | [m], _ => exact ⟨m, rfl⟩
 have hm := q4 0 _ m rfl rfl
 cases hm with | map _ b' hb' =>
 obtain rfl : b = b' := Option.some.inj (r1.symm.trans hb')
 obtain ⟨es1, hpe, hMR⟩ := MR.ofU (by simpa using r3) hnd r4
 obtain ⟨k1, k2⟩ := MR_keys (P := P) (kt := kt) hk hMR (fun p hp => hks p (hpe.mem_iff.1 hp))
 obtain ⟨D, hD⟩ : ∃ D, D = (ms.toList.map (Go.WideElems.rg P kt R0)).foldr DataW.insert [] := ⟨_, rfl⟩
 have hDp : D.Perm (ms.toList.map (Go.WideElems.rg P kt R0)) := by rw [hD]; exact inserts_perm _
 have hown2 : w.ownsMap P kt R0 b es.length (.map D) :=
   ⟨ms, ck, r2, ⟨by rw [r3]; exact Nat.le_trans hes (by decide), r3', fun x hx => ⟨_, k1 x hx⟩⟩, by omega, by rw [hD]⟩
 have hDl : Go.Maps.size (.map D) = es.length := by
   show D.length = _
   rw [hDp.length_eq, List.length_map, Array.length_toList, r3]
 have hkeys : (strKeys (.map D)).Perm (keyBs es) := by
   refine List.Perm.trans ?_ (hpe.map _)
   have : (strKeys (.map D)).Perm (keyBs es1) := by
     rw [← k2]
     exact hDp.map _
   exact this
 have hg0s := (hown 0 g0 (by simp) hg0).1
 refine (hS g0 b es.length (.map D) R0 w hg0s (Row.cell ⟨t0, fr0, q2, q2'⟩ 0) hown2 (by rw [hDl]; exact Nat.le_trans hes (by decide)) (by rw [hDl]; omega)).mono fun e1 w' hq => ?_
 obtain ⟨v, ss, rfl, hperm, hrow, hnil, hbel⟩ := hq
 have hsrt : (ss.mergeSort (fun x y => decide (x ≤ y))) = (keyBs es).mergeSort leB8 := sort_perm (hperm.trans hkeys)
 have hsl : ss.length = es.length := by rw [(hperm.trans hkeys).length_eq]; simp [keyBs]
 rw [hsrt, hsl] at hrow
 have hblk : ∀ g', g' < w.heap.size → w'.heap[g']? = w.heap[g']? := fun g' h => hbel.block g' h
 have hC : ∀ g' n, CapOk w g' n → CapOk w' g' n := fun g' n hc => hc.same (hblk g' hc.lt)
 have hFs : ∀ b', F b' → w'.heap[b']? = w.heap[b']? := fun b' h => hblk b' (hF b' h)
 have hβs : ∀ j g', j < 2 → β j = some g' → w'.heap[g']? = w.heap[g']? := fun j g' hj h => hblk g' (hown j g' (by simpa using hj) h).1
 have hB0 := ((hbor 0 _ rfl).1).mono (β' := β) (fun _ _ h => h) rfl hFs hC (fun g' h => hβs 0 g' (by omega) h)
 have hB1 := ((hbor 1 _ rfl).1).mono (β' := β) (fun _ _ h => h) rfl hFs hC (fun g' h => hβs 1 g' (by omega) h)
 have hlen := srtK_len es
 have main : ∀ (F2 : Nat → Prop), (∀ b', F b' → F2 b') → (∀ b', F2 b' → b' < w'.heap.size ∧ (F b' ∨ w.heap.size ≤ b')) → AvR β F2 w' (.c (.lf (.recs 1 ((srtK es).map fun k => [.v (.string k)])))) v →
     ∃ v2 β' F', Ending.returned v = .returned v2 ∧ AvR β' F' w' (.c (.lf (.recs 1 ((srtK es).map fun k => [.v (.string k)])))) v2 ∧ (∀ i bl, [Blk.cells [.map 1], .map es][i]? = some bl → BlkR β' F' w' i bl) ∧ (∀ i bl, ([] : List Blk)[i]? = some bl → BlkR β' F' w' (2 + i) bl) ∧
       Out w (fun g => ∃ i, i < 2 ∧ β i = some g) F 2 0 β β' F' w' := by
   intro F2 hs1 hs2 hv
   refine ⟨v, β, F2, rfl, hv, fun i bl h => ?_, fun i bl h => by simp at h, fun i hi => rfl, fun i j g' hi hj e1 e2 => hinj i j g' (by simpa using hi) (by simpa using hj) e1 e2, fun j g' hj e1 => ?_, fun i g' hi => absurd hi (by simp), hs2, ⟨hbel.os, hbel.tape, hbel.output, hbel.size, fun g' h _ => hblk g' h, hC⟩⟩
   · match i, h with
     | 0, h =>
       obtain rfl : Blk.cells [.map 1] = bl := by simpa using h
       exact BlkR_wide hs1 hB0
     | 1, h =>
       obtain rfl : Blk.map es = bl := by simpa using h
       exact BlkR_wide hs1 hB1
   · obtain ⟨a1, a2⟩ := hown j g' (by simpa using hj) e1
     refine ⟨Nat.lt_of_lt_of_le a1 hbel.size, fun h => ?_⟩
     rcases (hs2 g' h).2 with h | h
     · exact a2 h
     · omega
 obtain ⟨_, ⟨rfl, hz⟩ | ⟨g, cap, cur, rfl, o1, o2, o3, o4, o5, o6⟩⟩ := hrow
 · refine main F (fun _ h => h) (fun b' h => ⟨Nat.lt_of_lt_of_le (hF b' h) hbel.size, .inl h⟩) (.c (.lf (.recs 1 _ _ _ _ (fun _ _ => undef) ?_ (Nat.le_refl _) (by decide) ?_ ?_ ?_)))
   · rw [List.length_map, hlen, hz]
   all_goals
     have h0 : srtK es = [] := List.eq_nil_of_length_eq_zero (by rw [hlen, hz])
     rw [h0]
     simp
 · have hgs : g < w'.heap.size := by
     rcases Nat.lt_or_ge g w'.heap.size with h | h
     · exact h
     · rw [Array.getElem?_eq_none h] at o2; cases o2
   have hcell : ∀ i k, (srtK es)[i]? = some k → w'.cell? ⟨g, 0 + i * 1 + 0, none⟩ = some (.string k) := fun i k hi => by
     refine (Row.cell (cur := cur) ⟨kt, (0, 0), o2, .inl rfl⟩ _).trans ?_
     have hil : i < es.length := by
       rw [← hlen]
       exact (List.getElem?_eq_some_iff.1 hi).1
     have e7 := congrArg (·[i]?) o6
     simp only [List.getElem?_take, List.getElem?_map] at e7
     rw [if_pos (by omega)] at e7
     rw [show 0 + i * 1 + 0 = i by omega, ← Array.getElem?_toList, e7]
     unfold srtK at hi
     rw [List.getElem?_map] at hi
     obtain ⟨l, hl1, rfl⟩ := Option.map_eq_some_iff.1 hi
     rw [hl1]
     rfl
   refine main (fun b' => F b' ∨ b' = g) (fun _ h => .inl h) (fun b' hb' => ?_) (.c (.lf (.recs 1 _ _ _ _ (fun i _ => .string ((srtK es).getD i default)) (by rw [List.length_map, hlen]) o3 o4 ?_ (fun _ => ⟨g, 0, rfl, .inr rfl, ?_⟩) ?_)))
   · rcases hb' with h | rfl
     · exact ⟨Nat.lt_of_lt_of_le (hF b' h) hbel.size, .inl h⟩
     · exact ⟨hgs, .inr o1⟩
   · intro r hr
     obtain ⟨k, _, rfl⟩ := List.mem_map.1 hr
     rfl
   · intro i r j x hi hj
     rw [List.getElem?_map] at hi
     obtain ⟨k, hk1, rfl⟩ := Option.map_eq_some_iff.1 hi
     match j, hj with
     | 0, hj =>
       rw [hcell i k hk1, List.getD_eq_getElem?_getD, hk1]
       rfl
   · intro i r j x hi hj
     rw [List.getElem?_map] at hi
     obtain ⟨k, hk1, rfl⟩ := Option.map_eq_some_iff.1 hi
     match j, hj with
     | 0, hj =>
       obtain rfl : Leaf.v (.string k) = x := by simpa using hj
       rw [List.getD_eq_getElem?_getD, hk1]
       exact .v _ rfl

theorem du3D {P : Program} {E : Env} {σ : St} {Q : Exit → Act → World → Prop} {id : Nat} {l : List Oper} {bs : List (List Nat × List Nat)} (ns : List Nat) (ws : List (Nat × Nat)) (h : DrawU P E l.toArray ns bs l (σ.kills ns) (fun τ => WL P E l.toArray Q [] τ)) (hm : P.follows .mixedOrders = true := by kernel_rfl)
   (hbs : forceB (badsU l.toArray ws 0 l) some = some bs := by exact rfl) (hB : drawU l.toArray l ns ws = true := by kernel_rfl) (h64 : ns.all (Nat.ble 64) = true := by exact rfl) : W P E (.region id l.toArray true) Q σ := W_drawU ns ws hm hB hbs h64 h
theorem tdrop_ok (es : MapL) (n s : List Int) (hf : findM es (strOfNums n) = some (.ints .u8 s)) :
   Ct Tryz.prog 8 [.c (.ptr 0 0), B8 n] [tabB, .map es] (lv (.int .i64 0)) [tabB, .map (delM es (strOfNums n))] [] := by
 refine Ct_intro Tryz.func8 rfl rfl rfl rfl rfl (fun E hn hb => ?_)
 repeat (first | refine du3D [] [(6, 1)] ?_ | refine nxm ?_)
 exact rt1 []
theorem tdrop_no (es : MapL) (n : List Int) (hf : findM es (strOfNums n) = none) :
   Ct Tryz.prog 8 [.c (.ptr 0 0), B8 n] [tabB, .map es] (lv (.int .i64 14)) [tabB, .map es] [] := by
 refine Ct_intro Tryz.func8 rfl rfl rfl rfl rfl (fun E hn hb => ?_)
 repeat refine nxm ?_
 exact rt1 []
theorem skeysA_ok (es : MapL) (hks : ∀ p ∈ es, p.1.size ≤ 1000000) (hes : es.length ≤ 1000000) :
   Ct Tryz.prog 30 [.c (.fn (.func 46) [] [.ptr 0 0])] [.cells [.map 1], .map es] (.c (.lf (.recs 1 ((srtK es).map fun k => [.v (.string k)])))) [.cells [.map 1], .map es] [] :=
 sorted_any (kt := 9) (fun Bm b nn D0 R w h1 h2 h3 h4 h5 => Tryz.sortedAny Bm b nn D0 R w h1 h2 h3 h4 h5) Tryz.underlying9 Tryz.func30 (by kernel_rfl) rfl es hks hes
end Go.Proofs.YtohfhephkjihfaaGreat

namespace Go.Sx
open Go
set_option linter.unusedVariables false
set_option linter.unusedSimpArgs false
section
variable {P : Program} {E : Env} {ops : Array Oper} {Q : Exit → Act → World → Prop} {rest : List Oper} {o : Oper} {σ : St} {c : Code} {e : Exit}
theorem SR.openM {a : Act} {w : World} (h : SR E σ a w) {j : Nat} {es : MapL} (hj : σ.hp j = .map es) : ∃ g ms ck es', es'.Perm es ∧ (es'.map (·.1)).Nodup ∧ SR E (σ.seth j (.mapS g ms ck es')) a w := by
 obtain ⟨β, F, hS⟩ := h
 have hB := hS.hp j
 rw [hj] at hB
 obtain ⟨g, ms, ck, e1, e2, ⟨e3, e4, e5⟩, e6⟩ := hB
 obtain ⟨es', p, q⟩ := MR.ofU (by simpa using e3) e5 e6
 obtain ⟨q1, q2⟩ := q.to
 exact ⟨g, ms, ck, es', p, nodup_perm p e5, β, F, hS.setBlk (by rw [hj]; intro h; cases h) ⟨e1, e2, ⟨by simpa using q1, e4, nodup_perm p e5⟩, fun i k x hx => by simpa using q2 i k x hx⟩⟩
theorem SR.closeM {a : Act} {w : World} (h : SR E σ a w) {j g ck : Nat} {ms : Array MapEntry} {es es' : MapL} (hj : σ.hp j = .mapS g ms ck es') (hp : es'.Perm es) : SR E (σ.seth j (.map es)) a w := by
 obtain ⟨β, F, hS⟩ := h
 have hB := hS.hp j
 rw [hj] at hB
 obtain ⟨e1, e2, ⟨e3, e4, e5⟩, e6⟩ := hB
 refine ⟨β, F, hS.setBlk (by rw [hj]; intro h; cases h) ⟨g, ms, ck, e1, e2, ⟨by rw [e3, hp.length_eq], e4, nodup_perm hp.symm e5⟩, fun i k x hx => ?_⟩⟩
 obtain ⟨i2, hi2⟩ := List.mem_iff_getElem?.1 (hp.mem_iff.2 (List.mem_of_getElem? hx))
 obtain ⟨e, r1, r2, r3⟩ := e6 i2 k x hi2
 exact ⟨e, List.mem_of_getElem? (by simpa using r1), r2, r3⟩
theorem SR.permM {a : Act} {w : World} (h : SR E σ a w) {j : Nat} {es es' : MapL} (hj : σ.hp j = .map es') (hp : es'.Perm es) : SR E (σ.seth j (.map es)) a w := by
 obtain ⟨β, F, hS⟩ := h
 have hB := hS.hp j
 rw [hj] at hB
 obtain ⟨g, ms, ck, e1, e2, ⟨e3, e4, e5⟩, e6⟩ := hB
 refine ⟨β, F, hS.setBlk (by rw [hj]; intro h; cases h) ⟨g, ms, ck, e1, e2, ⟨by rw [e3, hp.length_eq], e4, nodup_perm hp.symm e5⟩, fun i k x hx => ?_⟩⟩
 obtain ⟨i2, hi2⟩ := List.mem_iff_getElem?.1 (hp.mem_iff.2 (List.mem_of_getElem? hx))
 exact e6 i2 k x hi2
theorem WL_openM {j : Nat} {es : MapL} (hj : σ.hp j = .map es) (h : ∀ g ms ck es', es'.Perm es → (es'.map (·.1)).Nodup → WL P E ops Q rest (σ.seth j (.mapS g ms ck es'))) : WL P E ops Q rest σ := fun a w hS => by
 obtain ⟨g, ms, ck, es', p, hn, hS'⟩ := hS.openM hj
 exact h g ms ck es' p hn a w hS'
theorem WL_many (hg : o.guard = none) {ι : Type} (τ : ι → St)
   (h : ∀ a w, SR E σ a w → ∃ i v w', (execOp a.eval o).run P w = .ok (.value v) w' ∧ SR E (τ i) (a.put o.dst v) w') (hk : ∀ i, WL P E ops Q rest (τ i)) : WL P E ops Q (o :: rest) σ := by
 intro a w hS
 refine wpList_plain hg fun K hK => ?_
 obtain ⟨i, v, w', hr, hS'⟩ := h a w hS
 unfold Oper.wp
 rw [hr]
 exact hK _ _ (hk i _ _ hS')
theorem s_range {t kt et : TypeId} {x : Operand} {px : List Prop} {j g ck : Nat} {ms : Array MapEntry} {es : MapL} (hop : o.op = .range t x) (hg : o.guard = none) (hd : dstOk E.n o.dst = true) (ht : P.underlying t = some (.map kt et)) (hx : ox σ x = (px, .c (.map j))) (hp : AllP px) (hj : σ.hp j = .mapS g ms ck es) (hne : ∀ h, j ≠ nk o.dst h)
   (hk : ∀ r, WL P E ops Q rest (((fresh σ o.dst).seth (nk o.dst 0) (.raw r (.mapIter (some g) ck #[] ck))).put o.dst (.c (.ptr (nk o.dst 0) 0)))) : WL P E ops Q (o :: rest) σ := by
 refine WL_many hg (fun r => ((fresh σ o.dst).seth (nk o.dst 0) (.raw r (.mapIter (some g) ck #[] ck))).put o.dst (.c (.ptr (nk o.dst 0) 0))) (fun a w hS => ?_) hk
 obtain ⟨β, F, hS⟩ := hS
 have h1 := oxR hS x
 rw [hx] at h1
 have h1 := h1 hp
 generalize he1 : a.eval x = v1 at h1
 dsimp only at h1
 have hB := hS.hp j
 rw [hj] at hB
 obtain ⟨e1, e2, e3, e4⟩ := hB
 cases h1 with | c h1 =>
 cases h1 with | map _ g' hg' =>
 obtain rfl : g = g' := Option.some.inj (e1.symm.trans hg')
 obtain ⟨β', hS', k1, k2, k3⟩ := hS.fresh o.dst
 obtain ⟨hS2, h4⟩ := hS'.alloc k1 k2 k3 (.mapIter (some g) ck #[] ck) (.raw w.heap.size (.mapIter (some g) ck #[] ck)) ⟨by simp, heap_alloc_new w _⟩
 refine ⟨w.heap.size, .pointer (some ⟨w.heap.size, 0, none⟩), w.alloc (.mapIter (some g) ck #[] ck), ?_, _, F, hS2.put (.c (.ptr _ _ _ (by simp))) (dstOk_lt hd)⟩
 simp [execOp, hop, he1, run_range_map w t kt et g ms ck ht e2]
theorem SRb.updR {β : Nat → Option Nat} {F : Nat → Prop} {a : Act} {w w' : World} (h : SRb E β F σ a w) {j g : Nat} {ob ob' : Obj} (hj : σ.hp j = .raw g ob) (hnc : ∀ cs t fr, ob ≠ .cells cs t fr) (hw : w'.heap = w.heap.setIfInBounds g ob') (h1 : w'.os = w.os) (h2 : w'.tape = w.tape) (h3 : w'.output = w.output) :
   SRb E β F (σ.seth j (.raw g ob')) a w' := by
 have hne0 : σ.hp j ≠ .gone := by rw [hj]; intro h; cases h
 have hB := h.hp j
 rw [hj] at hB
 obtain ⟨hg, hm⟩ := hB
 obtain ⟨o1, o2, o3⟩ := h.own j g hne0 hg
 have hsz : w'.heap.size = w.heap.size := by rw [hw]; simp
 have hk : ∀ k, k ≠ g → w'.heap[k]? = w.heap[k]? := by
   intro k hk
   rw [hw]
   simp [Ne.symm hk]
 have hgw : w'.heap[g]? = some ob' := by
   rw [hw]
   simp [o1]
 have hF : ∀ b, F b → w'.heap[b]? = w.heap[b]? := fun b hb => hk b (fun e => o3 (e ▸ hb))
 have hC : ∀ g n, CapOk w g n → CapOk w' g n := by
   intro g' n hc
   by_cases e : g' = g
   · subst e
     exfalso
     cases n with
     | sz n => obtain ⟨cur, ⟨t, fr, h1, _⟩, _⟩ := hc; rw [hm] at h1; exact hnc _ _ _ (Option.some.inj h1)
     | tag t => obtain ⟨cur, fr, h1⟩ := hc; rw [hm] at h1; exact hnc _ _ _ (Option.some.inj h1)
   · exact hc.same (hk g' e)
 have hA : ∀ {x : Av} {v : Value}, AvR β F w x v → AvR β F w' x v := fun hx => hx.mono (fun _ _ h => h) (fun b hb => ⟨hb, hF b hb⟩) hC
 have hne : ∀ i, (σ.seth j (.raw g ob')).hp i ≠ .gone → σ.hp i ≠ .gone := by
   intro i hi
   by_cases e : i = j
   · rw [e]; exact hne0
   · simpa [St.seth, e] using hi
 refine ⟨fun i => hA (h.tm i), h.sz, h.df, fun i => ?_, fun i k g hi hk' e1 e2 => h.inj i k g (hne i hi) (hne k hk') e1 e2, fun i g hi e => ?_, fun i g e => by rw [hsz]; exact h.lt i g e, fun b hb => by rw [hsz]; exact h.fr b hb, ?_, h.bb, h.nbl⟩
 · by_cases hij : i = j
   · subst hij
     simp only [St.seth, if_true]
     exact ⟨hg, hgw⟩
   · simp only [St.seth, hij, if_false]
     by_cases hgone : σ.hp i = .gone
     · rw [hgone]; trivial
     · exact (h.hp i).mono (fun _ _ h => h) rfl hF hC (fun g' hg' => hk g' (fun e => hij (h.inj i j g hgone hne0 (e ▸ hg') hg)))
 · rw [hsz]; exact h.own i g (hne i hi) e
 · refine ⟨h1.trans h.keep.os, h2.trans h.keep.tape, h3.trans h.keep.output, by rw [hsz]; exact h.keep.size, fun k hk1 hm' => ?_, fun g n hc => hC g n (h.keep.cap g n hc)⟩
   refine (hk k fun e => ?_).trans (h.keep.block k hk1 hm')
   subst e
   rcases o2 with o2 | o2
   · omega
   · exact hm' o2
theorem run_nextO (w : World) (ty : TypeId) (r bm since c0 : Nat) (seen : Array Nat) (es : Array MapEntry) (clock : Nat) (hr : w.heap[r]? = some (.mapIter (some bm) since seen c0)) (hb : w.heap[bm]? = some (.map es clock)) (hold : ∀ x ∈ es.toList, x.born < since) (hsc : since ≤ c0) :
   ((leftOf es seen).size = 0 ∧ (Instr.next (.pointer (some ⟨r, 0, none⟩)) false ty).run P w = .ok (.tuple #[.bool false]) w) ∨
   ∃ e ∈ (leftOf es seen).toList, ∃ w1 : World, w1.heap = w.heap.setIfInBounds r (.mapIter (some bm) since (seen.push e.born) clock) ∧ w1.os = w.os ∧ w1.tape = w.tape ∧ w1.output = w.output ∧
     (Instr.next (.pointer (some ⟨r, 0, none⟩)) false ty).run P w = .ok (.tuple #[.bool true, e.key, e.val]) w1 := by
 simp only [Instr.next, getObj, Sem.run_bind, Sem.run, hr, hb, Result.andThen, next_test_false seen es since c0 hold hsc, Bool.false_eq_true, if_false]
 unfold leftOf
 have hmem : ∀ x ∈ (Array.filter (fun e => !seen.contains e.born) es).toList, x.born < since := fun x hx => hold x (by simp at hx ⊢; exact hx.1)
 generalize Array.filter (fun e => !seen.contains e.born) es = L at hmem ⊢
 have e1 : L.filter (fun x => decide (x.born < since)) = L := Array.filter_eq_self.2 (fun x hx => by simpa using hmem x (by simpa using hx))
 have e2 : L.filter (fun x => decide (x.born ≥ since)) = #[] := by
   rw [Array.filter_eq_empty_iff]
   intro x hx
   have := hmem x (by simpa using hx)
   simp
   omega
 simp only [e1, e2, Array.append_empty]
 by_cases h0 : L.size = 0
 · left
   have : L = #[] := Array.eq_empty_of_size_eq_zero h0
   subst this
   refine ⟨rfl, ?_⟩
   simp [choose, Sem.run, Question.forced]
 · right
   have hne : L.isEmpty = false := by simp [Array.isEmpty, h0]
   simp only [hne, Bool.false_eq_true, if_false, Array.empty_append, Array.size_map]
   have hch : ∃ (j : Nat) (w1 : World), j < L.size ∧ w1.heap = w.heap ∧ w1.os = w.os ∧ w1.tape = w.tape ∧ w1.output = w.output ∧ (choose (Question.mapNext L.size)).run P w = .ok j w1 := by
     by_cases hf : L.size ≤ 1
     · exact ⟨0, w, by omega, rfl, rfl, rfl, rfl, by simp [choose, Sem.run, Question.forced, hf]⟩
     · exact ⟨_, w.drew, Nat.mod_lt _ (by omega), rfl, rfl, rfl, rfl, by
         simp only [choose, Sem.run, Question.forced, decide_eq_true_eq, hf, if_false, Question.cut]
         rfl⟩
   obtain ⟨j, w1, hj, hh, ho1, ho2, ho3, hrun⟩ := hch
   refine ⟨L[j], by simp, { w1 with heap := w1.heap.setIfInBounds r (.mapIter (some bm) since (seen.push L[j].born) clock) }, by rw [← hh], ho1, ho2, ho3, ?_⟩
   have hset : ∀ o' : Obj, (setObj r o').run P w1 = .ok () { w1 with heap := w1.heap.setIfInBounds r o' } := fun o' => by
     simp only [setObj, Sem.run, hh, hr]
   simp only [hrun, Array.getElem?_map, Array.getElem?_eq_getElem hj, Option.map_some, Sem.run_bind, hset, Result.andThen]
   rfl
theorem run_entryO (w : World) (r bm since : Nat) (seen : Array Nat) (es : Array MapEntry) (clock : Nat) (e : MapEntry) (hr : w.heap[r]? = some (.mapIter (some bm) since (seen.push e.born) clock)) (hb : w.heap[bm]? = some (.map es clock)) (he : e ∈ es.toList) (hn : (es.toList.map (·.born)).Nodup) :
   (Instr.entry (.pointer (some ⟨r, 0, none⟩))).run P w = .ok (.tuple #[e.key, e.val]) w := by
 have hf : es.find? (·.born == e.born) = some e := by rw [← Array.find?_toList]; exact find_born e es.toList hn he
 simp only [Instr.entry, getObj, Sem.run_bind, Sem.run, hr, hb, Result.andThen, Array.back?_push, bne_self_eq_false, Bool.false_eq_true, if_false, hf]
 rfl
def seenO (ms : Array MapEntry) (d : List Nat) : Array Nat := (d.map fun i => ((ms[i]?).map (·.born)).getD 0).toArray
theorem s_next {x : Operand} {px : List Prop} {j k r g ck : Nat} {ms : Array MapEntry} {es : MapL} {d : List Nat} {c0 : Nat} (hop : o.op = .next x false) (hg : o.guard = none) (hd : dstOk E.n o.dst = true) (hx : ox σ x = (px, .c (.ptr k 0))) (hp : AllP px)
   (hk : σ.hp k = .raw r (.mapIter (some g) ck (seenO ms d) c0)) (hc0 : ck ≤ c0) (hj : σ.hp j = .mapS g ms ck es) (hdl : ∀ i ∈ d, i < es.length)
   (hk1 : (∀ i, i < es.length → i ∈ d) → WL P E ops Q rest (σ.put o.dst (.tup [lv (.bool false)])))
   (hk2 : ∀ i n y, es[i]? = some (n, y) → i ∉ d → WL P E ops Q rest ((σ.seth k (.raw r (.mapIter (some g) ck (seenO ms (d ++ [i])) ck))).put o.dst (.tup [lv (.bool true), lv (.string n), .c (.lf y)]))) : WL P E ops Q (o :: rest) σ := by
 intro a w hS
 refine wpList_plain hg fun K hK => ?_
 obtain ⟨β, F, hS⟩ := hS
 have h1 := oxR hS x
 rw [hx] at h1
 have h1 := h1 hp
 generalize he1 : a.eval x = v1 at h1
 dsimp only at h1
 have hB := hS.hp j
 rw [hj] at hB
 obtain ⟨e1, e2, ⟨e3, e4, e5⟩, e6⟩ := hB
 have hR := hS.hp k
 rw [hk] at hR
 obtain ⟨r1, r2⟩ := hR
 cases h1 with | c h1 =>
 cases h1 with | ptr _ _ g' hg' =>
 obtain rfl : r = g' := Option.some.inj (r1.symm.trans hg')
 have hrun : ∀ v w', (Instr.next (.pointer (some ⟨r, 0, none⟩)) false o.type).run P w = .ok v w' → (execOp a.eval o).run P w = .ok (.value v) w' := fun v w' h => by
   simp [execOp, hop, he1, h]
 have hborn : ∀ i (h : i < ms.size), ((ms[i]?).map (·.born)).getD 0 = ms[i].born := fun i h => by simp [h]
 have hmem : ∀ i (h : i < ms.size), (seenO ms d).contains ms[i].born = true ↔ i ∈ d := fun i h => by
   unfold seenO
   rw [List.contains_toArray, List.contains_iff_mem, List.mem_map]
   constructor
   · rintro ⟨i', hi', q⟩
     have hlt : i' < ms.size := by rw [e3]; exact hdl i' hi'
     rw [hborn i' hlt] at q
     have := e4.2.1
     have h3 : (ms.toList.map (·.born))[i']? = (ms.toList.map (·.born))[i]? := by simp [hlt, h, q]
     rw [(List.getElem?_inj (by simpa using hlt) this).1 h3] at hi'
     exact hi'
   · intro hi
     exact ⟨i, hi, hborn i h⟩
 rcases run_nextO (P := P) w o.type r g ck c0 (seenO ms d) ms ck r2 e2 e4.1 hc0 with ⟨h0, hr⟩ | ⟨en, hen, w1, q1, q2, q3, q4, hr⟩
 · unfold Oper.wp
   rw [hrun _ _ hr]
   refine hK _ _ (hk1 (fun i hi => ?_) _ _ ⟨β, F, hS.put (.tup _ _ rfl fun i x u hx hu => ?_) (dstOk_lt hd)⟩)
   · have hlt : i < ms.size := by omega
     refine (hmem i hlt).1 ?_
     exact all_seen ms (seenO ms d) h0 ms[i] (by simp)
   · match i, hx, hu with
     | 0, hx, hu => simp at hx hu; subst hx hu; exact .c (.lf (.v _ rfl))
 · obtain ⟨m1, m2⟩ := mem_left hen
   obtain ⟨i, hi, rfl⟩ := List.mem_iff_getElem.1 m1
   have hlt : i < ms.size := by simpa using hi
   have hie : i < es.length := by omega
   obtain ⟨⟨n, y⟩, hny⟩ : ∃ p, es[i]? = some p := ⟨es[i], by simp [hie]⟩
   obtain ⟨en, s1, s2, s3⟩ := e6 i n y hny
   have hen2 : ms.toList[i] = en := by
     have : ms[i]? = some ms[i] := by simp [hlt]
     rw [this] at s1
     simpa using Option.some.inj s1
   rw [hen2] at m2 q1 hr
   have hnot : i ∉ d := fun h => by
     have := (hmem i hlt).2 h
     have e9 : ms[i] = en := by simpa using hen2
     rw [e9, m2] at this
     cases this
   have hpush : (seenO ms d).push en.born = seenO ms (d ++ [i]) := by
     unfold seenO
     simp [s1]
   rw [hpush] at q1
   unfold Oper.wp
   rw [hrun _ _ hr]
   have hS2 := hS.updR hk (fun _ _ _ h => by cases h) q1 q2 q3 q4
   refine hK _ _ (hk2 i n y hny hnot _ _ ⟨β, F, hS2.put (.tup _ _ rfl fun z x u hx hu => ?_) (dstOk_lt hd)⟩)
   have hF : ∀ b, F b → w1.heap[b]? = w.heap[b]? := fun b hb => by
     have hne : b ≠ r := fun e => (hS.own k r (by rw [hk]; intro h; cases h) r1).2.2 (e ▸ hb)
     rw [q1]
     simp [Ne.symm hne]
   match z, hx, hu with
   | 0, hx, hu => simp at hx hu; subst hx hu; exact .c (.lf (.v _ rfl))
   | 1, hx, hu => simp at hx hu; subst hx hu; rw [s2]; exact .c (.lf (.v _ rfl))
   | 2, hx, hu => simp at hx hu; subst hx hu; exact .c (.lf (s3.mono fun b hb => ⟨hb, hF b hb⟩))
theorem s_entry {x : Operand} {px : List Prop} {j k r g ck i : Nat} {n : ByteArray} {y : Leaf} {ms : Array MapEntry} {es : MapL} {d : List Nat} (hop : o.op = .entry x) (hg : o.guard = none) (hd : dstOk E.n o.dst = true) (hx : ox σ x = (px, .c (.ptr k 0))) (hp : AllP px)
   (hk : σ.hp k = .raw r (.mapIter (some g) ck (seenO ms (d ++ [i])) ck)) (hj : σ.hp j = .mapS g ms ck es) (hi : es[i]? = some (n, y))
   (hk1 : WL P E ops Q rest (σ.put o.dst (.tup [lv (.string n), .c (.lf y)]))) : WL P E ops Q (o :: rest) σ := by
 refine WL_step hg _ (fun a w hS => ?_) hk1
 obtain ⟨β, F, hS⟩ := hS
 have h1 := oxR hS x
 rw [hx] at h1
 have h1 := h1 hp
 generalize he1 : a.eval x = v1 at h1
 dsimp only at h1
 have hB := hS.hp j
 rw [hj] at hB
 obtain ⟨e1, e2, ⟨e3, e4, e5⟩, e6⟩ := hB
 have hR := hS.hp k
 rw [hk] at hR
 obtain ⟨r1, r2⟩ := hR
 cases h1 with | c h1 =>
 cases h1 with | ptr _ _ g' hg' =>
 obtain rfl : r = g' := Option.some.inj (r1.symm.trans hg')
 obtain ⟨en, s1, s2, s3⟩ := e6 i n y hi
 have hpush : (seenO ms d).push en.born = seenO ms (d ++ [i]) := by
   unfold seenO
   simp [s1]
 rw [← hpush] at r2
 have hr := run_entryO (P := P) w r g ck (seenO ms d) ms ck en r2 e2 (List.mem_of_getElem? (by simpa using s1)) e4.2.1
 refine ⟨.tuple #[en.key, en.val], w, ?_, β, F, hS.put (.tup _ _ rfl fun z x u hx hu => ?_) (dstOk_lt hd)⟩
 · simp only [execOp, hop, he1]
   exact run_v hr
 · match z, hx, hu with
   | 0, hx, hu => simp at hx hu; subst hx hu; rw [s2]; exact .c (.lf (.v _ rfl))
   | 1, hx, hu => simp at hx hu; subst hx hu; exact .c (.lf s3)
end
end Go.Sx

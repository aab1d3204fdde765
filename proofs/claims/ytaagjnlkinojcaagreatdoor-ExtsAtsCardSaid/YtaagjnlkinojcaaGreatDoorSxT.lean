/-
  The layer: pointers to blocks whose type is known, unsafe pointers, builders of strings. No condition.
-/
import Derived.Test.YtaagjnlkinojcaaGreatDoorSxN
import Derived.Lib.Builder
import Derived.Lib.AppendStr
import Derived.Lib.UnsafeStr
import Derived.Laws.Externs
namespace Go.Sx
open Go
set_option linter.unusedVariables false
set_option linter.unusedSimpArgs false
section
variable {P : Program} {E : Env} {ops : Array Oper} {Q : Exit → Act → World → Prop} {rest : List Oper} {o : Oper} {σ : St}
theorem SR.untag (i : Nat) {j : Nat} {t : TypeId} {a : Act} {w : World} (hi : σ.tm i = .c (.tptr j t)) (h : SR E σ a w) : SR E (σ.set i (.c (.ptr j 0))) a w := by
 obtain ⟨β, F, h⟩ := h
 refine ⟨β, F, fun k => ?_, h.sz, h.df, h.hp, h.inj, h.own, h.lt, h.fr, h.keep, h.bb, h.nbl⟩
 by_cases hk : k = i
 · subst hk
   have := h.tm k
   rw [hi] at this
   simp only [St.set, if_true]
   generalize a.tmps.getD k undef = v at this ⊢
   cases this with | c h => cases h with | tptr _ _ g h ht => exact .c (.ptr _ _ _ h)
 · simp only [St.set, hk, if_false]
   exact h.tm k
theorem s_allocT {t : TypeId} {dd : Option Nat} {cs : List Cell} (hop : o.op = .alloc t) (hg : o.guard = none) (hdf : forceO o.dst some = some dd) (hd : dstOk E.n dd = true) (hz : forceOL (zeroC P t) some = some cs) (hz0 : zeroOk P t)
   (hk : WL P E ops Q rest (((σ.kill (nk dd 0)).seth (nk dd 0) (.cells cs)).put dd (.c (.tptr (nk dd 0) t)))) : WL P E ops Q (o :: rest) σ := by
 simp only [forceO_eq, Option.some.injEq] at hdf
 subst hdf
 refine WL_step hg _ (fun a w hS => ?_) hk
 obtain ⟨β, F, hS⟩ := hS
 obtain ⟨β', hS', h1, h2, h3⟩ := hS.fresh o.dst
 obtain ⟨z, z1, z2, z3⟩ := zeroC_sound (forceOL_some hz) hz0 β' F w
 obtain ⟨β2, hS2, h4⟩ := newBlk (t := t) hS' h1 h2 h3 z2 z3
 refine ⟨.pointer (some ⟨w.heap.size, 0, none⟩), w.alloc (.cells z.cells t), ?_, β2, F, hS2.put (.c (.tptr _ _ _ h4 ⟨z.cells, (0, 0), heap_alloc_new w _⟩)) (dstOk_lt hd)⟩
 simp [execOp, hop, Instr.alloc, z1, newVar, newRow]
theorem opy_run {x : Av} (h : ∀ β F a w, SRb E β F σ a w → ∃ v, (execOp a.eval o).run P w = .ok (.value v) w ∧ AvR β F w x v) : OpY P E o σ x :=
 opy_val fun β F a w hS => by
   obtain ⟨v, h1, h2⟩ := h β F a w hS
   exact ⟨v, w, F, h1, .refl w, fun _ h => h, fun _ h => .inl h, h2⟩
theorem tptr_get {x : Operand} {ps : List Prop} {j : Nat} {t : TypeId} {cs : List Cell} (hx : ox σ x = (ps, .c (.tptr j t))) (hp : AllP ps) (hj : σ.hp j = .cells cs) {β : Nat → Option Nat} {F : Nat → Prop} {a : Act} {w : World} (hS : SRb E β F σ a w) :
   ∃ g cur fr, a.eval x = .pointer (some ⟨g, 0, none⟩) ∧ β j = some g ∧ w.heap[g]? = some (.cells cur t fr) ∧ cur.size = cs.length := by
 have h1 := oxR hS x
 rw [hx] at h1
 have h1 := h1 hp
 have h2 := hS.hp j
 rw [hj] at h2
 obtain ⟨g', cur, hg', ⟨t', fr', hr, _⟩, hsz, _⟩ := h2
 generalize a.eval x = v at h1
 dsimp only at h1
 cases h1 with | c h => cases h with | tptr _ _ g h ht =>
 obtain ⟨c2, f2, ht⟩ := ht
 rw [h] at hg'
 obtain rfl := Option.some.inj hg'
 refine ⟨g, c2, f2, rfl, h, ht, ?_⟩
 rw [ht] at hr
 simp only [Option.some.injEq, Obj.cells.injEq] at hr
 rw [hr.1]; exact hsz
theorem opy_toU {s d t : TypeId} {x : Operand} {ps : List Prop} {j : Nat} {cs : List Cell} (hop : o.op = .convert s d x) (hs : P.underlying s = some (.pointer t)) (hd : P.underlying d = some .unsafePointer) (ht : ((P.info? t).map fun i => Nat.ble 1 i.size) = some true)
   (hx : ox σ x = (ps, .c (.tptr j t))) (hp : AllP ps) (hj : σ.hp j = .cells cs) (hc : Nat.ble 1 cs.length = true) : OpY P E o σ (.c (.tptr j t)) := by
 refine opy_run fun β F a w hS => ?_
 obtain ⟨g, cur, fr, he, hg, hh, hsz⟩ := tptr_get hx hp hj hS
 obtain ⟨i, hi, hiz⟩ := Option.map_eq_some_iff.1 ht
 have hiz : 1 ≤ i.size := by simpa using hiz
 have hc : 1 ≤ cs.length := by simpa using hc
 refine ⟨.pointer (some ⟨g, 0, none⟩), ?_, .c (.tptr _ _ _ hg ⟨_, _, hh⟩)⟩
 simp only [execOp, hop, he]
 exact run_v (Lib.run_to_unsafe w ⟨g, 0, none⟩ hs hd hi (by omega) (e := t) (cells := cur.size) (by simp [World.shape?, hh]) (by show 0 < cur.size; omega))
theorem opy_fromU {s d t : TypeId} {x : Operand} {ps : List Prop} {j : Nat} {cs : List Cell} (hop : o.op = .convert s d x) (hs : P.underlying s = some .unsafePointer) (hd : P.underlying d = some (.pointer t)) (ht : (P.info? t).isSome = true)
   (hl : liesAt P P.depth t (cs.length / P.cellsOf t) 0 t 1 = true) (hx : ox σ x = (ps, .c (.tptr j t))) (hp : AllP ps) (hj : σ.hp j = .cells cs) : OpY P E o σ (.c (.ptr j 0)) := by
 refine opy_run fun β F a w hS => ?_
 obtain ⟨g, cur, fr, he, hg, hh, hsz⟩ := tptr_get hx hp hj hS
 obtain ⟨i, hi⟩ := Option.isSome_iff_exists.1 ht
 refine ⟨.pointer (some ⟨g, 0, none⟩), ?_, .c (.ptr _ _ _ hg)⟩
 simp only [execOp, hop, he]
 exact run_v (Lib.run_from_unsafe w ⟨g, 0, none⟩ hs hd hi (e := t) (cells := cur.size) (by simp [World.shape?, hh]) (by rw [hsz]; exact hl))
theorem opy_noEsc {c : Call} {f : FuncId} {fn : Func} {x : Operand} {ps : List Prop} {y : Av} (hop : o.op = .call c) (hcv : c.callee = .value (.func f)) (ha : c.args = #[x]) (hf : P.funcs[f]? = some fn) (hname : (fn.name == "runtime.NumGoroutine") = false)
   (hb : fn.body.isNone = true) (hn : Extern.findNext fn = none) (he : Extern.find fn = some Extern.AbiNoEscape.same) (hx : ox σ x = (ps, y)) (hp : AllP ps) : OpY P E o σ y := by
 refine opy_run fun β F a w hS => ?_
 have h1 := oxR hS x
 rw [hx] at h1
 refine ⟨a.eval x, ?_, h1 hp⟩
 have hev : a.eval (.func f) = .func (.func f) #[] #[] := rfl
 simp only [execOp, hop, resolve, hcv, hev, ha, Deferred.ofValue, Sem.run_bind, Sem.run_pure, Result.andThen_ok, invoke]
 simp only [List.map_toArray, List.map_cons, List.map_nil, Array.empty_append, Array.append_empty]
 rw [run_callFunc_extern hf hname hb hn he, Lib.run_noEscape]
 rfl
theorem opy_samePtr {t t' e : TypeId} {y z : Operand} {p q : List Prop} {j : Nat} {e2 : TypeId} (hop : o.op = .binOp .neq t y z t') (ht : P.underlying t = some (.pointer e)) (hi : (P.info? e).isSome = true) (hy : ox σ y = (p, .c (.ptr j 0))) (hz : ox σ z = (q, .c (.tptr j e2))) (hp : AllP (p ++ q)) :
   OpY P E o σ (lv (.bool false)) := by
 refine opy_run fun β F a w hS => ?_
 have h1 := oxR hS y
 rw [hy] at h1
 have h1 := h1 hp.left
 have h2 := oxR hS z
 rw [hz] at h2
 have h2 := h2 hp.right
 generalize he1 : a.eval y = v1 at h1
 generalize he2 : a.eval z = v2 at h2
 dsimp only at h1 h2
 cases h1 with | c h1 => cases h1 with | ptr _ _ g hg =>
 cases h2 with | c h2 => cases h2 with | tptr _ _ g' hg' _ =>
 rw [hg] at hg'
 obtain rfl := Option.some.inj hg'
 obtain ⟨i, hi⟩ := Option.isSome_iff_exists.1 hi
 refine ⟨.bool false, ?_, .c (.lf (.v _ rfl))⟩
 simp only [execOp, hop, he1, he2]
 refine run_v ?_
 simp [eqGuard, Lib.run_neq_ptr_same w ⟨g, 0, none⟩ ht hi]
def strL (s : ByteArray) : List Int := s.data.toList.map fun b => ((b.toNat : Nat) : Int)
theorem strL_cells (s : ByteArray) : Lib.strCells s = (strL s).map (Value.int .u8) := by
 simp [Lib.strCells, strL]
theorem strL_len (s : ByteArray) : (strL s).length = s.size := by simp [strL]
theorem s_appendKT {t e : TypeId} {by_ : Nat} {c : Call} {x y : Operand} {px qs : List Prop} {j off len : Nat} {k : IntKind} {l l2 : List Int} (K : Nat) (hop : o.op = .call c) (hc : c.callee = .builtin .append) (ha : c.args.toList = [x, y]) (hty : c.argTypes.toList = [t, t]) (hg : o.guard = none) (hd : dstOk E.n o.dst = true)
   (hE : Elt P t e 1 by_) (hx : ox σ x = (px, .c (.town j off len e))) (hb : σ.hp j = .row (.ints k l)) (hK64 : Nat.ble 64 K = true) (hy : srcP σ (ox σ y) = some (qs, .ints k l2)) (hp : AllP (px ++ qs)) (hlen : off + len ≤ l.length)
   (hlim : len + l2.length ≤ 4294967296 ∧ by_ ≤ 4096)
   (hk1 : WL P E ops Q rest ((σ.seth j (.row (.ints k (l.take (off + len) ++ l2)))).put o.dst (.c (.town j off (len + l2.length) e))))
   (hk2 : WL P E ops Q rest (((σ.kill K).seth K (.row (.ints k ((l.take (off + len)).drop off ++ l2)))).put o.dst (.c (.town K 0 (len + l2.length) e)))) : WL P E ops Q (o :: rest) σ := by
 intro a w hS
 obtain ⟨β, F, hS⟩ := hS
 have hv1 := oxR hS x
 rw [hx] at hv1
 have hv1 := hv1 hp.left
 obtain ⟨ad, m, cs, news, hv2, hm, hmc, hr2, hcell⟩ := srcP_sound hS hy hp.right (oxR hS y)
 have hca : c.args = #[x, y] := by apply Array.toList_inj.1; simpa using ha
 have hct : c.argTypes = #[t, t] := by apply Array.toList_inj.1; simpa using hty
 generalize he1 : a.eval x = v1 at hv1
 dsimp only at hv1
 cases hv1 with | c hv1 => cases hv1 with | town _ _ _ _ ao cap hlc hmx hhT =>
 have hh : cap = 0 ∨ ∃ g, β j = some g ∧ ao = some ⟨g, off, none⟩ ∧ CapOk w g (.sz (off + cap * 1)) := by
   rcases hhT with h | ⟨g, h1, h2, h3, _⟩
   · exact .inl h
   · exact .inr ⟨g, h1, h2, by rw [Nat.mul_one]; exact h3⟩
 have hht : ∀ g, ao = some ⟨g, off, none⟩ → cap ≠ 0 → CapOk w g (.tag e) := fun g hg hc => by
   rcases hhT with h | ⟨g', _, h2, _, h4⟩
   · exact absurd h hc
   · rw [h2] at hg
     simp only [Option.some.injEq, Addr.mk.injEq] at hg
     rw [← hg.1]; exact h4
 obtain ⟨hl1, hl2⟩ := hlim
 obtain ⟨ht, i, z, hi, hz, hsz, hby, hzs⟩ := hE
 have hKn : E.nb ≤ K := by have := hS.nbl; have : 64 ≤ K := by simpa using hK64
                           omega
 have hgone : σ.hp j ≠ .gone := by rw [hb]; intro h; cases h
 have hB := hS.hp j
 rw [hb] at hB
 simp only [RC] at hr2
 simp only [lenD] at hm
 have hnl : news.length = m := by rw [hr2, List.length_map, hm]
 have hbytes : (len + m) * by_ ≤ 140737488355328 := by
   have : (len + m) * by_ ≤ 4294967296 * 4096 := Nat.mul_le_mul (by omega) hl2
   omega
 have h63 : len + m ≤ maxLen := by simp only [maxLen]; omega
 have hone : ∀ v, v ∈ news → v.oneCell' = true := by
   rw [hr2]
   intro v hv
   obtain ⟨_, _, rfl⟩ := List.mem_map.1 hv
   rfl
 obtain ⟨olds, ho1, ho2, ho3⟩ : ∃ olds, olds = ((l.take (off + len)).drop off).map (Value.int k) ∧ olds.length = len ∧ ∀ g cur, β j = some g → Row w g cur → ∀ (i : Nat) (v : Value), olds[i]? = some v → cur[off + i]? = some v := by
   refine ⟨_, rfl, by simp; omega, fun g cur hg' hrow i v hv => ?_⟩
   rw [List.getElem?_map, Option.map_eq_some_iff] at hv
   obtain ⟨u, hu, rfl⟩ := hv
   rw [List.getElem?_drop, List.getElem?_take] at hu
   split at hu
   · rcases hB with ⟨h0, _⟩ | ⟨g2, cur2, h1, h2, h3⟩
     · subst h0; simp at hu
     · rw [hg'] at h1
       obtain rfl := Option.some.inj h1
       have : cur2 = cur := by
         obtain ⟨t1, f1, k1, _⟩ := hrow
         obtain ⟨t2, f2, k2, _⟩ := h2
         rw [k1] at k2
         simp only [Option.some.injEq, Obj.cells.injEq] at k2
         exact k2.1.symm
       subst this
       exact h3 _ _ hu
   · cases hu
 have hnone : ad = none → m = 0 := fun h => by
   rcases Nat.eq_zero_or_pos m with h0 | h0
   · exact h0
   · have hne : news ≠ [] := by intro h'; rw [h'] at hnl; simp at hnl; omega
     obtain ⟨b, o', h1, _⟩ := hcell hne
     rw [h] at h1; cases h1
 refine wpList_plain hg fun KK hKK => ?_
 unfold Oper.wp
 by_cases hroom : len + m ≤ cap
 · rcases hh with rfl | ⟨g, hgj, rfl, hcap⟩
   · -- nothing at all
     have hl0 : len = 0 := by omega
     have hm0 : m = 0 := by omega
     subst hl0
     have hl20 : l2 = [] := List.eq_nil_of_length_eq_zero (by omega)
     subst hl20
     have hrun : (Builtin.append_ #[t, t] o.type #[.slice ao 0 0, .slice ad m cs]).run P w = .ok (.slice ao 0 0) w := by
       subst hm0
       have hfc : (Builtin.firstCells 1 0 (.slice ad 0 cs)).run P w = .ok #[] w := by
         cases ad with
         | none => simp [Builtin.firstCells]
         | some b => simp [Builtin.firstCells, loadCells, loadCellsFrom]
       cases ao with
       | none => simp [Builtin.append_, run_underlying ht, sizeOf, typeInfo, hi, hsz, Builtin.lenOf, hfc]
       | some b => simp [Builtin.append_, run_underlying ht, sizeOf, typeInfo, hi, hsz, Builtin.lenOf, hfc, storeCells]
     rw [run_append_call hop hc hca hct (by rw [he1, hv2]; exact hrun)]
     refine hKK _ _ (hk1 _ _ ⟨β, F, SRb.put ?_ (.c (.town _ _ _ _ _ _ (by simp) (by decide) (.inl rfl))) (dstOk_lt hd)⟩)
     have hblk : BlkR β F w j (.row (.ints k (l.take (off + 0) ++ []))) := by
       rw [List.append_nil]
       rcases hB with ⟨h0, h⟩ | ⟨g2, cur, h1, h2, h3⟩
       · exact .inl ⟨by rw [h0]; simp, h⟩
       · refine .inr ⟨g2, cur, h1, h2, fun i x hx => h3 i x ?_⟩
         rw [List.getElem?_take] at hx
         split at hx
         · exact hx
         · cases hx
     have hne : ∀ i, (σ.seth j (.row (.ints k (l.take (off + 0) ++ [])))).hp i ≠ .gone → σ.hp i ≠ .gone := by
       intro i hi'
       by_cases e' : i = j
       · rw [e']; exact hgone
       · simpa [St.seth, e'] using hi'
     refine ⟨hS.tm, hS.sz, hS.df, fun i => ?_, fun i k g hi' hk' e1 e2 => hS.inj i k g (hne i hi') (hne k hk') e1 e2, fun i g hi' e1 => hS.own i g (hne i hi') e1, hS.lt, hS.fr, hS.keep, hS.bb, hS.nbl⟩
     by_cases e' : i = j
     · subst e'; simpa [St.seth] using hblk
     · simp only [St.seth, e', if_false]; exact hS.hp i
   · -- in place
     obtain ⟨cur, hrow, hcap⟩ := hcap
     have hcur := ho3 g cur hgj hrow
     obtain ⟨_, _, hnF⟩ := hS.own j g hgone hgj
     have hle : off + len + news.length ≤ cur.size := by omega
     obtain ⟨w', r1, r2⟩ := run_storeCells' (P := P) (g := g) (off := off + len) news 0 w cur hone hrow (by omega)
     simp only [Nat.add_zero] at r2
     have hls := size_lay hle
     have hfc : (Builtin.firstCells 1 m (.slice ad m cs)).run P w = .ok news.toArray w := by
       cases had : ad with
       | none =>
         have := hnone had
         subst this
         have : news = [] := List.eq_nil_of_length_eq_zero hnl
         subst this
         simp [Builtin.firstCells]
       | some b =>
         by_cases hne : news = []
         · have : m = 0 := by rw [← hnl, hne]; rfl
           subst hne
           simp [Builtin.firstCells, this, loadCells, loadCellsFrom]
         · obtain ⟨b', o', h1, h2⟩ := hcell hne
           rw [had] at h1
           obtain rfl := Option.some.inj h1
           simp only [Builtin.firstCells]
           exact loadCells_row h2 (by omega)
     have hrun : (Builtin.append_ #[t, t] o.type #[.slice (some ⟨g, off, none⟩) len cap, .slice ad m cs]).run P w = .ok (.slice (some ⟨g, off, none⟩) (len + m) cap) w' := by
       simp [Builtin.append_, run_underlying ht, sizeOf, typeInfo, hi, hsz, Builtin.lenOf, hroom, hfc, add_none, r1]
     rw [run_append_call hop hc hca hct (by rw [he1, hv2]; exact hrun)]
     refine hKK _ _ (hk1 _ _ ⟨β, F, SRb.put ?_ (.c ?_) (dstOk_lt hd)⟩)
     · refine (hS.written hgone hgj hrow r2 hls (blk := .row (.ints k (l.take (off + len) ++ l2))) (.inr ⟨g, _, hgj, r2.row, fun i v hv => ?_⟩)).1
       rw [get_lay hle]
       rw [List.getElem?_append] at hv
       have hlt : (l.take (off + len)).length = off + len := by simp; omega
       rw [hlt] at hv
       by_cases h1 : i < off + len
       · rw [if_pos h1] at hv ⊢
         rw [List.getElem?_take, if_pos h1] at hv
         rcases hB with ⟨h0, _⟩ | ⟨g2, cur2, e1, e2, e3⟩
         · subst h0; simp at hv
         · rw [hgj] at e1
           obtain rfl := Option.some.inj e1
           have : cur2 = cur := by
             obtain ⟨t1, f1, k1, _⟩ := hrow
             obtain ⟨t2, f2, k2, _⟩ := e2
             rw [k1] at k2
             simp only [Option.some.injEq, Obj.cells.injEq] at k2
             exact k2.1.symm
           subst this
           exact e3 _ _ hv
       · rw [if_neg h1] at hv ⊢
         have hlt2 := (List.getElem?_eq_some_iff.1 hv).1
         rw [if_pos (by omega), hr2, List.getElem?_map, hv]
         rfl
     · rw [← hm]
       by_cases hc0 : cap = 0
       · exact .town _ _ _ _ _ _ hroom hmx (.inl hc0)
       · exact .town _ _ _ _ _ _ hroom hmx (.inr ⟨g, hgj, rfl, ⟨_, r2.row, by rw [hls]; omega⟩, r2.tag _ (hht g rfl hc0)⟩)
 · -- a new array
   have hmpos : 0 < m := by omega
   have hne : news ≠ [] := by intro h'; rw [h'] at hnl; simp at hnl; omega
   obtain ⟨b, o', hb0, hcell2⟩ := hcell hne
   subst hb0
   have hgrow : ∃ v' w', (Builtin.append_ #[t, t] o.type #[.slice ao len cap, .slice (some ⟨b, o', none⟩) m cs]).run P w = .ok v' w' ∧ w'.ownsRow w.heap.size e 1 v' (len + m) (olds ++ news) ∧ w.grownBy w' none := by
     have hcell' : ∀ (k : Nat) (u : Value), news[k]? = some u → w.cell? ((⟨b, o', none⟩ : Addr).add k) = some u := fun k u hu => by rw [add_none]; exact hcell2 k u hu
     cases ao with
     | none =>
       have hc0 : cap = 0 := by
         rcases hh with h | ⟨g, _, h, _⟩
         · exact h
         · cases h
       have hl0 : len = 0 := by omega
       subst hc0; subst hl0
       have : olds = [] := List.eq_nil_of_length_eq_zero (by rw [ho2])
       subst this
       obtain ⟨v', w', h1, h2, h3, _⟩ := run_append_own (P := P) w w.heap.size t o.type e i z 1 by_ ht hi hz hsz hby hzs (by decide) (.slice none 0 0) 0 [] (World.ownsRow_nil w _ e 1) ⟨b, o', none⟩ m cs news (by omega) hcell' hone (by omega) hbytes (Nat.le_refl _)
       exact ⟨v', w', h1, h2, h3⟩
     | some b2 =>
       exact run_append_arg_grows (P := P) w t o.type e i z 1 by_ ht hi hz hsz hby hzs (by decide) b2 len cap olds (by omega) (fun k u hu => by
         rcases hh with rfl | ⟨g, hgj, h, cur, hrow, hcap⟩
         · have : len = 0 := by omega
           subst this
           have : olds = [] := List.eq_nil_of_length_eq_zero (by rw [ho2])
           subst this
           simp at hu
         · obtain rfl := Option.some.inj h
           rw [add_none, hrow.cell]
           exact ho3 g cur hgj hrow k u hu) ⟨b, o', none⟩ m cs news (by omega) hcell' (by omega) h63 hbytes
   obtain ⟨v', w', hrun, hown, hgb⟩ := hgrow
   rw [run_append_call hop hc hca hct (by rw [he1, hv2]; exact hrun)]
   obtain ⟨hsz', hown⟩ := hown
   rcases hown with ⟨_, h0⟩ | ⟨g', cap', cur', rfl, hg1, hg2, hn1, hn2, hn3, hn4⟩
   · omega
   · have hk := hS.kill K hKn
     have hlt' : g' < w'.heap.size := (Array.getElem?_eq_some_iff.1 hg2).1
     have hrow' : Row w' g' cur' := ⟨e, (0, 0), hg2, .inl rfl⟩
     have hS2 := hk.grow (g := g') (by simp) hKn (by simp [St.kill]) hgb hg1 hlt' (.row (.ints k ((l.take (off + len)).drop off ++ l2))) (.inr ⟨g', cur', by simp, hrow', fun i x hx => by
       have hu : (olds ++ news)[i]? = some (Value.int k x) := by
         rw [ho1, hr2, ← List.map_append, List.getElem?_map, hx]; rfl
       rw [← hn4, List.getElem?_take] at hu
       split at hu
       · simpa using hu
       · cases hu⟩)
     refine hKK _ _ (hk2 _ _ ⟨_, F, hS2.put (.c ?_) (dstOk_lt hd)⟩)
     rw [← hm]
     exact .town _ _ _ _ _ _ hn1 hn2 (.inr ⟨g', by simp, rfl, ⟨cur', hrow', by rw [hn3]; omega⟩, ⟨cur', (0, 0), hg2⟩⟩)
set_option maxHeartbeats 1000000 in
theorem s_appendKST {t u e : TypeId} {c : Call} {x y : Operand} {px qs : List Prop} {j len : Nat} {l : List Int} {s : ByteArray} (K : Nat) (hop : o.op = .call c) (hc : c.callee = .builtin .append) (ha : c.args.toList = [x, y]) (hty : c.argTypes.toList = [t, u]) (hg : o.guard = none) (hd : dstOk E.n o.dst = true)
   (ht : P.underlying t = some (.slice e)) (hu : P.underlying u = some .string) (hI : (P.info? e).map (fun i => (i.zero, i.size, i.bytes)) = some (some (.int .u8 0), 1, 1)) (hx : ox σ x = (px, .c (.town j 0 len e))) (hb : σ.hp j = .row (.ints .u8 l)) (hK64 : Nat.ble 64 K = true) (hy : ox σ y = (qs, lv (.string s))) (hp : AllP (px ++ qs)) (hlen : len ≤ l.length)
   (hlim : len + s.size ≤ 4294967296)
   (hk1 : WL P E ops Q rest ((σ.seth j (.row (.ints .u8 (l.take len ++ strL s)))).put o.dst (.c (.town j 0 (len + s.size) e))))
   (hk2 : WL P E ops Q rest (((σ.kill K).seth K (.row (.ints .u8 (l.take len ++ strL s)))).put o.dst (.c (.town K 0 (len + s.size) e)))) : WL P E ops Q (o :: rest) σ := by
 intro a w hS
 obtain ⟨β, F, hS⟩ := hS
 have hv1 := oxR hS x
 rw [hx] at hv1
 have hv1 := hv1 hp.left
 have hv2 := oxR hS y
 rw [hy] at hv2
 have hv2 := (hv2 hp.right).val
 have hca : c.args = #[x, y] := by apply Array.toList_inj.1; simpa using ha
 have hct : c.argTypes = #[t, u] := by apply Array.toList_inj.1; simpa using hty
 generalize he1 : a.eval x = v1 at hv1
 dsimp only at hv1
 cases hv1 with | c hv1 => cases hv1 with | town _ _ _ _ ao cap hlc hmx hhT =>
 have hh : cap = 0 ∨ ∃ g, β j = some g ∧ ao = some ⟨g, 0, none⟩ ∧ CapOk w g (.sz (0 + cap * 1)) := by
   rcases hhT with h | ⟨g, h1, h2, h3, _⟩
   · exact .inl h
   · exact .inr ⟨g, h1, h2, by rw [Nat.mul_one]; exact h3⟩
 have hht : ∀ g, ao = some ⟨g, 0, none⟩ → cap ≠ 0 → CapOk w g (.tag e) := fun g hg hc => by
   rcases hhT with h | ⟨g', _, h2, _, h4⟩
   · exact absurd h hc
   · rw [h2] at hg
     simp only [Option.some.injEq, Addr.mk.injEq] at hg
     rw [← hg.1]; exact h4
 obtain ⟨i, hi, hI⟩ := Option.map_eq_some_iff.1 hI
 simp only [Prod.mk.injEq] at hI
 obtain ⟨hz, hsz, hby⟩ := hI
 have hKn : E.nb ≤ K := by have := hS.nbl; have : 64 ≤ K := by simpa using hK64
                           omega
 have hgone : σ.hp j ≠ .gone := by rw [hb]; intro h; cases h
 have hB := hS.hp j
 rw [hb] at hB
 have hr2 := strL_cells s
 have hnl := Lib.strCells_length s
 have hone := Lib.strCells_oneCell s
 have hl2 := strL_len s
 generalize hnews : Lib.strCells s = news at *
 have h63 : len + s.size ≤ maxLen := by simp only [maxLen]; omega
 have holds : ∀ g cur, β j = some g → Row w g cur → ∀ (i : Nat) (v : Value), ((l.take len).map (Value.int .u8))[i]? = some v → cur[i]? = some v := by
   intro g cur hg' hrow i v hv
   rw [List.getElem?_map, Option.map_eq_some_iff] at hv
   obtain ⟨u, hu, rfl⟩ := hv
   rw [List.getElem?_take] at hu
   split at hu
   · rcases hB with ⟨h0, _⟩ | ⟨g2, cur2, h1, h2, h3⟩
     · subst h0; simp at hu
     · rw [hg'] at h1
       obtain rfl := Option.some.inj h1
       have : cur2 = cur := by
         obtain ⟨t1, f1, k1, _⟩ := hrow
         obtain ⟨t2, f2, k2, _⟩ := h2
         rw [k1] at k2
         simp only [Option.some.injEq, Obj.cells.injEq] at k2
         exact k2.1.symm
       subst this
       exact h3 _ _ hu
   · cases hu
 have hol : ((l.take len).map (Value.int .u8)).length = len := by simp; omega
 generalize holdse : (l.take len).map (Value.int .u8) = olds at *
 refine wpList_plain hg fun KK hKK => ?_
 unfold Oper.wp
 have hfc : ∀ w, (Builtin.firstCells 1 s.size (.string s)).run P w = .ok news.toArray w := fun w => by rw [← hnews]; exact Lib.run_firstCells_string w 1 s
 by_cases hroom : len + s.size ≤ cap
 · rcases hh with rfl | ⟨g, hgj, rfl, hcap⟩
   · -- nothing at all
     have hl0 : len = 0 := by omega
     have hm0 : s.size = 0 := by omega
     subst hl0
     have hn0 : news = [] := List.eq_nil_of_length_eq_zero (by omega)
     have hs0 : strL s = [] := List.eq_nil_of_length_eq_zero (by omega)
     have hrun : (Builtin.append_ #[t, u] o.type #[.slice ao 0 0, .string s]).run P w = .ok (.slice ao 0 0) w := by
       have hfc' := hfc w
       rw [hm0, hn0] at hfc'
       cases ao with
       | none => simp [Builtin.append_, run_underlying ht, run_underlying hu, sizeOf, typeInfo, hi, hsz, Builtin.lenOf, hm0, hfc']
       | some b => simp [Builtin.append_, run_underlying ht, run_underlying hu, sizeOf, typeInfo, hi, hsz, Builtin.lenOf, hm0, hfc', storeCells]
     rw [run_append_call hop hc hca hct (by rw [he1, hv2]; exact hrun)]
     have e0 : 0 + s.size = 0 := by omega
     rw [e0, hs0] at hk1
     refine hKK _ _ (hk1 _ _ ⟨β, F, SRb.put ?_ (.c (.town _ _ _ _ _ _ (by simp) (by decide) (.inl rfl))) (dstOk_lt hd)⟩)
     have hblk : BlkR β F w j (.row (.ints .u8 (l.take 0 ++ []))) := by
       rw [List.take_zero, List.append_nil]
       rcases hB with ⟨h0, h⟩ | ⟨g2, cur, h1, h2, h3⟩
       · exact .inl ⟨rfl, h⟩
       · exact .inr ⟨g2, cur, h1, h2, fun i x hx => by simp at hx⟩
     have hne : ∀ i, (σ.seth j (.row (.ints .u8 (l.take 0 ++ [])))).hp i ≠ .gone → σ.hp i ≠ .gone := by
       intro i hi'
       by_cases e' : i = j
       · rw [e']; exact hgone
       · simpa [St.seth, e'] using hi'
     refine ⟨hS.tm, hS.sz, hS.df, fun i => ?_, fun i k g hi' hk' e1 e2 => hS.inj i k g (hne i hi') (hne k hk') e1 e2, fun i g hi' e1 => hS.own i g (hne i hi') e1, hS.lt, hS.fr, hS.keep, hS.bb, hS.nbl⟩
     by_cases e' : i = j
     · subst e'; simpa [St.seth] using hblk
     · simp only [St.seth, e', if_false]; exact hS.hp i
   · -- in place
     obtain ⟨cur, hrow, hcap⟩ := hcap
     have hcur := holds g cur hgj hrow
     have hle : len + news.length ≤ cur.size := by omega
     obtain ⟨w', r1, r2⟩ := run_storeCells' (P := P) (g := g) (off := len) news 0 w cur hone hrow (by omega)
     simp only [Nat.add_zero] at r2
     have hls := size_lay hle
     have hrun : (Builtin.append_ #[t, u] o.type #[.slice (some ⟨g, 0, none⟩) len cap, .string s]).run P w = .ok (.slice (some ⟨g, 0, none⟩) (len + s.size) cap) w' := by
       have e0 : ((⟨g, 0, none⟩ : Addr).add len) = ⟨g, len, none⟩ := by simp [add_none]
       simp [Builtin.append_, run_underlying ht, run_underlying hu, sizeOf, typeInfo, hi, hsz, Builtin.lenOf, hroom, hfc, e0, r1]
     rw [run_append_call hop hc hca hct (by rw [he1, hv2]; exact hrun)]
     refine hKK _ _ (hk1 _ _ ⟨β, F, SRb.put ?_ (.c ?_) (dstOk_lt hd)⟩)
     · refine (hS.written hgone hgj hrow r2 hls (blk := .row (.ints .u8 (l.take len ++ strL s))) (.inr ⟨g, _, hgj, r2.row, fun i v hv => ?_⟩)).1
       rw [get_lay hle]
       have hx2 : (olds ++ news)[i]? = some (Value.int .u8 v) := by
         rw [← holdse, hr2, ← List.map_append, List.getElem?_map, hv]; rfl
       rw [List.getElem?_append, hol] at hx2
       by_cases h1 : i < len
       · rw [if_pos h1] at hx2 ⊢
         exact hcur _ _ hx2
       · rw [if_neg h1] at hx2 ⊢
         have hlt2 := (List.getElem?_eq_some_iff.1 hx2).1
         rw [if_pos (by omega)]
         exact hx2
     · by_cases hc0 : cap = 0
       · exact .town _ _ _ _ _ _ hroom hmx (.inl hc0)
       · exact .town _ _ _ _ _ _ hroom hmx (.inr ⟨g, hgj, rfl, ⟨_, r2.row, by rw [hls]; omega⟩, r2.tag _ (hht g rfl hc0)⟩)
 · -- a new array
   have hgrow : ∃ v' w', (Builtin.append_ #[t, u] o.type #[.slice ao len cap, .string s]).run P w = .ok v' w' ∧ w'.ownsRow w.heap.size e 1 v' (len + s.size) (olds ++ news) ∧ w.grownBy w' none := by
     cases ao with
     | none =>
       have hc0 : cap = 0 := by
         rcases hh with h | ⟨g, _, h, _⟩
         · exact h
         · cases h
       have hl0 : len = 0 := by omega
       subst hc0; subst hl0
       have : olds = [] := List.eq_nil_of_length_eq_zero hol
       subst this
       obtain ⟨v', w', h1, h2, h3, _⟩ := Lib.run_append_own_string (P := P) w w.heap.size t u o.type e i ht hu hi hz hsz hby (.slice none 0 0) 0 [] (World.ownsRow_nil w _ e 1) s (by omega) (by omega) (Nat.le_refl _)
       rw [hnews] at h2
       exact ⟨v', w', h1, h2, h3⟩
     | some b2 =>
       have hr := Lib.run_append_grow_string (P := P) w t u o.type e i (.int .u8 0) ht hu hi hz b2 len cap olds (by rw [hsz, hol]; omega) (fun k u hu => by
         rcases hh with rfl | ⟨g, hgj, h, cur, hrow, hcap⟩
         · have : len = 0 := by omega
           rw [this] at hol
           have : olds = [] := List.eq_nil_of_length_eq_zero hol
           subst this
           simp at hu
         · obtain rfl := Option.some.inj h
           rw [add_none, hrow.cell, Nat.zero_add]
           exact holds g cur hgj hrow k u hu) s (by omega) (by simp only [maxLen] at h63; omega) (by rw [hby]; exact growslice_fits (by omega) (by omega))
       rw [hnews] at hr
       have hge := grownCap_ge w (len + s.size) cap e
       have hcm : grownCap w (len + s.size) cap e ≤ maxLen := grownCap_le_maxLen w (len + s.size) cap e h63
       have hlen2 : (olds ++ news).length = (len + s.size) * 1 := by rw [List.length_append, hol, hnl, Nat.mul_one]
       refine ⟨_, _, hr, ⟨hlen2, .inr ⟨w.heap.size, _, _, rfl, Nat.le_refl _, heap_alloc_new w.drew _, hge, hcm, ?_, ?_⟩⟩, ⟨rfl, rfl, rfl, by simp, fun k hk _ => RowKit.Below.heap_alloc w.drew _ k hk⟩⟩
       · have hz1 : (Value.int IntKind.u8 0).cells.size = 1 := rfl
         simp only [Array.size_append, List.size_toArray, size_zeroCells, hz1, hol, hnl]
         omega
       · simp only [Array.toList_append, List.append_assoc]
         rw [← List.append_assoc, ← hlen2]
         exact List.take_left
   obtain ⟨v', w', hrun, hown, hgb⟩ := hgrow
   rw [run_append_call hop hc hca hct (by rw [he1, hv2]; exact hrun)]
   obtain ⟨hsz', hown⟩ := hown
   rcases hown with ⟨_, h0⟩ | ⟨g', cap', cur', rfl, hg1, hg2, hn1, hn2, hn3, hn4⟩
   · omega
   · have hk := hS.kill K hKn
     have hlt' : g' < w'.heap.size := (Array.getElem?_eq_some_iff.1 hg2).1
     have hrow' : Row w' g' cur' := ⟨e, (0, 0), hg2, .inl rfl⟩
     have hS2 := hk.grow (g := g') (by simp) hKn (by simp [St.kill]) hgb hg1 hlt' (.row (.ints .u8 (l.take len ++ strL s))) (.inr ⟨g', cur', by simp, hrow', fun i x hx => by
       have hu : (olds ++ news)[i]? = some (Value.int .u8 x) := by
         rw [← holdse, hr2, ← List.map_append, List.getElem?_map, hx]; rfl
       rw [← hn4, List.getElem?_take] at hu
       split at hu
       · simpa using hu
       · cases hu⟩)
     refine hKK _ _ (hk2 _ _ ⟨_, F, hS2.put (.c ?_) (dstOk_lt hd)⟩)
     exact .town _ _ _ _ _ _ hn1 hn2 (.inr ⟨g', by simp, rfl, ⟨cur', hrow', by rw [hn3]; omega⟩, ⟨cur', (0, 0), hg2⟩⟩)
noncomputable def blankH (w : World) (M : Nat → Prop) : World := by
 classical
 exact { w with heap := w.heap.mapIdx fun i o => if M i then .pending #[] 0 else o }
theorem blankH_size (w : World) (M : Nat → Prop) : (blankH w M).heap.size = w.heap.size := by simp [blankH]
theorem blankH_out {w : World} {M : Nat → Prop} {k : Nat} (h : ¬ M k) : (blankH w M).heap[k]? = w.heap[k]? := by
 simp only [blankH, Array.getElem?_mapIdx]
 cases w.heap[k]? with
 | none => rfl
 | some o => simp [h]
theorem blankH_in {w : World} {M : Nat → Prop} {g : Nat} {n : CapIx} (h : M g) : ¬ CapOk (blankH w M) g n := by
 have key : ∀ c t fr, (blankH w M).heap[g]? ≠ some (.cells c t fr) := fun c t fr hc => by
   simp only [blankH, Array.getElem?_mapIdx] at hc
   cases hw : w.heap[g]? with
   | none => simp [hw] at hc
   | some o => simp [hw, h] at hc
 cases n with
 | sz n =>
   rintro ⟨cur, ⟨t, fr, hc, _⟩, _⟩
   exact key _ _ _ hc
 | tag t =>
   rintro ⟨cur, fr, hc⟩
   exact key _ _ _ hc
def CtX (P : Program) (f : FuncId) (args : List Av) (bor : List Blk) (res : Av) : Prop :=
 (∃ fn, P.funcs[f]? = some fn ∧ (fn.name == "runtime.NumGoroutine") = false ∧ fn.body.isNone = false) ∧
 ∀ (w : World) (β : Nat → Option Nat) (F : Nat → Prop) (vs : List Value), vs.length = args.length → (∀ (i : Nat) (x : Av) (v : Value), args[i]? = some x → vs[i]? = some v → AvR β F w x v) →
   (∀ i b, bor[i]? = some b → BlkR β F w i b ∧ b ≠ .gone) → (∀ i j g, i < bor.length → j < bor.length → β i = some g → β j = some g → i = j) →
   (∀ j g, j < bor.length → β j = some g → g < w.heap.size ∧ ¬ F g) → (∀ j, bor.length ≤ j → β j = none) → (∀ b, F b → b < w.heap.size) → GdK w (fun g => ∃ i, i < bor.length ∧ β i = some g) →
   Calls P f vs.toArray w fun e w' => ∃ v, e = .returned v ∧ AvR (fun _ => none) (fun _ => False) w' res v ∧ w'.os = w.os ∧ w'.tape = w.tape ∧ w'.output = w.output ∧ w.heap.size ≤ w'.heap.size ∧
     ∀ k, k < w.heap.size → (¬ ∃ i, i < bor.length ∧ β i = some k) → w'.heap[k]? = w.heap[k]?
theorem CtX_intro {P : Program} {f : FuncId} {fn : Func} {c : Code} {args : List Av} {bor : List Blk} {res : Av} (hf : P.funcs[f]? = some fn) (hb : fn.body = some c)
   (hnm : (fn.name == "runtime.NumGoroutine") = false) (hn : decide (args.length ≤ fn.ntmps) = true) (hnb : Nat.ble bor.length 64 = true)
   (h : ∀ E : Env, E.n = fn.ntmps → E.nb = bor.length → (∀ g n, E.M g → ¬ CapOk E.w0 g n) →
     W P E c (bodyPost P fn fun e w' => ∃ v, e = .returned v ∧ AvR (fun _ => none) (fun _ => False) w' res v ∧ Keep E.w0 E.M w') (.of (ordL 0 args) (ordL 0 bor))) : CtX P f args bor res := by
 classical
 refine ⟨⟨fn, hf, hnm, by rw [hb]; rfl⟩, fun w β F vs hvl hvs hbor hinj hown hnone hF hgd => ?_⟩
 have hn' : args.length ≤ fn.ntmps := by simpa using hn
 have hnb' : bor.length ≤ 64 := by simpa using hnb
 let M : Nat → Prop := fun g => ∃ i, i < bor.length ∧ β i = some g
 have hcl : ∀ g n, M g → ¬ CapOk (blankH w M) g n := fun g n hg hc => blankH_in hg hc
 refine (calls_of_wp hf hb (h ⟨blankH w M, M, F, fn.ntmps, bor.length, β, fun g h => h, fun p hp => ⟨(hgd p hp).1, by obtain ⟨h1, t, fr, h2⟩ := hgd p hp; exact ⟨t, fr, (blankH_out h1).trans h2⟩⟩⟩ rfl rfl hcl _ w ⟨β, F, fun i => ?_, ?_, rfl, fun j => ?_, fun i j g hi hj => ?_, fun j g hj e => ?_, fun j g e => ?_, fun b hb => ⟨hF b hb, .inl hb⟩, ⟨rfl, rfl, rfl, by rw [blankH_size]; exact Nat.le_refl _, fun k _ hk => (blankH_out hk).symm, fun g n hc => ?_⟩, fun i _ => rfl, hnb'⟩)).mono ?_
 · simp only [St.of, look_ordL, Nat.zero_le, if_true, Nat.sub_zero]
   by_cases hi : i < args.length
   · have h1 : args[i]? = some args[i] := by simp [hi]
     have h2 : i < vs.length := by omega
     rw [h1]
     simp only [Option.getD_some]
     refine hvs i args[i] _ h1 ?_
     simp [Array.getElem?_append, h2]
   · have h1 : args[i]? = none := by simp; omega
     rw [h1]
     exact .any _
 · simp [hvl]; omega
 · simp only [St.of, look_ordL, Nat.zero_le, if_true, Nat.sub_zero]
   cases hb : bor[j]? with
   | none => trivial
   | some b => exact (hbor j b hb).1
 · intro e1 e2
   simp only [St.of, look_ordL, Nat.zero_le, if_true, Nat.sub_zero] at hi hj
   have hi' : i < bor.length := by
     rcases Nat.lt_or_ge i bor.length with h | h
     · exact h
     · rw [List.getElem?_eq_none h] at hi; exact absurd rfl hi
   have hj' : j < bor.length := by
     rcases Nat.lt_or_ge j bor.length with h | h
     · exact h
     · rw [List.getElem?_eq_none h] at hj; exact absurd rfl hj
   exact hinj i j g hi' hj' e1 e2
 · have hj' : j < bor.length := by
     simp only [St.of, look_ordL, Nat.zero_le, if_true, Nat.sub_zero] at hj
     rcases Nat.lt_or_ge j bor.length with h | h
     · exact h
     · rw [List.getElem?_eq_none h] at hj; exact absurd rfl hj
   obtain ⟨a1, a2⟩ := hown j g hj' e
   exact ⟨a1, .inr ⟨j, hj', e⟩, a2⟩
 · rcases Nat.lt_or_ge j bor.length with h | h
   · exact (hown j g h e).1
   · rw [hnone j h] at e; cases e
 · by_cases hg : M g
   · exact absurd hc (hcl g n hg)
   · exact hc.same (blankH_out hg).symm
 · rintro e w' ⟨v, rfl, hv, k1, k2, k3, k4, k5, _⟩
   refine ⟨v, rfl, hv, k1, k2, k3, by rw [← blankH_size w M]; exact k4, fun k hk hm => ?_⟩
   rw [k5 k (by rw [blankH_size]; exact hk) hm, blankH_out hm]
theorem N_retX {fn : Func} {ps : List Prop} {r : Av} (hr : normR (resP P σ fn.results.toList) = some (ps, r)) (hp : AllP ps) (hpl : plainA r = true) :
   N E (bodyPost P fn fun e w' => ∃ v, e = .returned v ∧ AvR (fun _ => none) (fun _ => False) w' r v ∧ Keep E.w0 E.M w') .ret σ := by
 intro a w hS
 obtain ⟨β, F, hS⟩ := hS
 obtain ⟨v, h1, h2⟩ := resP_sound hS (normR_eq hr) hp
 exact ⟨hS.df, v, h1, v, rfl, plainA_any hpl h2, hS.keep⟩
theorem SRb.one {β : Nat → Option Nat} {F : Nat → Prop} {a : Act} {w w' : World} {d : Nat} {x : Av} {v : Value} (h : SRb E β F σ a w) (hd : d < E.n) (hx : AvR (fun _ => none) (fun _ => False) w' x v) (hpl : plainA x = true) (hk : Keep E.w0 E.M w')
   (hsz : w.heap.size ≤ w'.heap.size) : SR E (St.of [(d, x)] []) (a.put (some d) v) w' := by
 refine ⟨fun i => if i < E.nb then E.β0 i else none, fun _ => False, fun i => ?_, by simpa [Act.put] using h.sz, h.df, fun j => ?_, fun i j g hi => ?_, fun i g hi => ?_, fun i g e => ?_, fun b hb => hb.elim, hk, fun i hi => if_pos hi, h.nbl⟩
 · have hlt : d < a.tmps.size := by rw [h.sz]; exact hd
   by_cases hi : i = d
   · subst hi
     have := plainA_any (β' := fun i => if i < E.nb then E.β0 i else none) (F' := fun _ => False) (w' := w') hpl hx
     simpa [St.of, look, Act.put, hlt] using this
   · have : (St.of [(d, x)] []).tm i = .c .un := by
       simp only [St.of, look]
       split
       · rename_i e; exact absurd (Nat.eq_of_beq_eq_true e) hi
       · rfl
     rw [this]
     exact .any _
 · exact trivial
 · exact absurd rfl hi
 · exact absurd rfl hi
 · by_cases hi : i < E.nb
   · rw [if_pos hi] at e
     have := h.lt i g (by rw [h.bb i hi]; exact e)
     omega
   · rw [if_neg hi] at e; cases e
theorem opys_sliceData {c : Call} {x : Operand} {ps : List Prop} {K len : Nat} {e : TypeId} (hop : o.op = .call c) (hc : c.callee = .builtin .unsafeSliceData) (ha : c.args = #[x]) (hx : ox σ x = (ps, .c (.town K 0 len e))) (hp : AllP ps) (hl : Nat.ble 1 len = true) :
   OpYS P E ops o σ (.c (.tptr K e)) := by
 intro τ hlk
 have e1 : ox τ x = ox σ x := hlk.ox x (by rw [hop]; simp [Op.operands, Call.operands, hc, ha])
 refine opy_run fun β F a w hS => ?_
 have h1 := oxR hS x
 rw [e1, hx] at h1
 have h1 := h1 hp
 have hl : 1 ≤ len := by simpa using hl
 generalize he : a.eval x = v at h1
 dsimp only at h1
 cases h1 with | c h1 => cases h1 with | town _ _ _ _ ad cp hcc hm h =>
 rcases h with h | ⟨g, h1, rfl, h3, h4⟩
 · omega
 refine ⟨.pointer (some ⟨g, 0, none⟩), ?_, .c (.tptr _ _ _ h1 h4)⟩
 simp only [execOp, hop, resolve, hc, ha, Sem.run_bind, Sem.run_pure, Result.andThen_ok, invoke, builtin]
 simp only [List.map_toArray, List.map_cons, List.map_nil, he]
 rw [Lib.run_unsafeSliceData_row w _ _ _ _ _ (by omega)]
 rfl
theorem s_unsafeStr {pt it e : TypeId} {c : Call} {x y : Operand} {px py : List Prop} {K d : Nat} {l : List Int} (hbl : ∀ g n, E.M g → ¬ CapOk E.w0 g n) (hop : o.op = .call c) (hc : c.callee = .builtin .unsafeString) (ha : c.args = #[x, y]) (ht : c.argTypes = #[pt, it]) (hg : o.guard = none)
   (hdst : o.dst = some d) (hd : dstOk E.n o.dst = true) (hpt : P.underlying pt = some (.pointer e)) (he : P.cellsOf e = 1) (hX : ox σ x = (px, .c (.tptr K e))) (hY : ox σ y = (py, lv (.int .i64 (l.length : Int)))) (hp : AllP (px ++ py))
   (hK : σ.hp K = .row (.ints .u8 l)) (hl0 : l ≠ []) (hw : ∀ x ∈ l, 0 ≤ x ∧ x < 256) (hlim : l.length ≤ 4294967296) (hk : WL P E ops Q rest (St.of [(d, lv (.string (strOfNums l)))] [])) : WL P E ops Q (o :: rest) σ := by
 intro a w hS
 refine wpList_plain hg fun KK hKK => ?_
 obtain ⟨β, F, hS⟩ := hS
 have h1 := oxR hS x
 rw [hX] at h1
 have h1 := h1 hp.left
 have h2 := oxR hS y
 rw [hY] at h2
 have h2 := (h2 hp.right).val
 have hB := hS.hp K
 rw [hK] at hB
 have hgone : σ.hp K ≠ .gone := by rw [hK]; intro h; cases h
 generalize hev : a.eval x = v1 at h1
 dsimp only at h1
 cases h1 with | c h1 => cases h1 with | tptr _ _ g hgj htag =>
 obtain ⟨c2, f2, htag⟩ := htag
 rcases hB with ⟨h0, _⟩ | ⟨g', cur, hg', ⟨t', fr', hr, _⟩, hcc⟩
 · exact absurd h0 hl0
 rw [hgj] at hg'
 obtain rfl := Option.some.inj hg'
 rw [htag] at hr
 simp only [Option.some.injEq, Obj.cells.injEq] at hr
 obtain ⟨rfl, rfl, rfl⟩ := hr
 obtain ⟨u, hu, hus⟩ : ∃ u : List UInt8, l = u.map (fun b => ((b.toNat : Nat) : Int)) ∧ strOfNums l = ⟨u.toArray⟩ := by
   refine ⟨l.map fun x => UInt8.ofNat x.toNat, ?_, rfl⟩
   rw [List.map_map]
   have : l.map ((fun b : UInt8 => ((b.toNat : Nat) : Int)) ∘ fun x => UInt8.ofNat x.toNat) = l.map id := List.map_congr_left fun x hx => by
     have := hw x hx
     have h3 : (UInt8.ofNat x.toNat).toNat = x.toNat % 256 := rfl
     simp only [Function.comp, id, h3]
     omega
   rw [this, List.map_id]
 have hul : u.length = l.length := by rw [hu]; simp
 have hlen : l.length ≤ c2.size := by
   rcases Nat.lt_or_ge c2.size l.length with h | h
   · have := hcc c2.size l[c2.size] (by simp [h])
     simp at this
   · exact h
 have hrun := Lib.run_unsafeString_row (P := P) w pt it o.type e hpt he g c2.size (by simp [World.shape?, htag]) u (by intro h; rw [h] at hul; simp at hul; exact hl0 (List.eq_nil_of_length_eq_zero hul.symm)) (by omega) (by omega) (fun j z hz => by
   have : l[j]? = some ((z.toNat : Nat) : Int) := by rw [hu, List.getElem?_map, hz]; rfl
   have := hcc j _ this
   simp only [add_none, Nat.zero_add]
   simp [World.cell?, htag, this])
 have hex : (execOp a.eval o).run P w = .ok (.value (.string ⟨u.toArray⟩)) (w.freeze ⟨g, 0, none⟩ u.length) := by
   simp only [execOp, hop, resolve, hc, ha, ht, Sem.run_bind, Sem.run_pure, Result.andThen_ok, invoke, builtin]
   simp only [List.map_toArray, List.map_cons, List.map_nil, hev, h2]
   rw [← hul, hrun]
   rfl
 unfold Oper.wp
 rw [hex]
 have hu0 : u.length ≠ 0 := by
   rw [hul]
   intro h
   exact hl0 (List.eq_nil_of_length_eq_zero h)
 obtain ⟨w', hfz, hos, htp, hou, hfs, hfo⟩ : ∃ w', w.freeze ⟨g, 0, none⟩ u.length = w' ∧ w'.os = w.os ∧ w'.tape = w.tape ∧ w'.output = w.output ∧ w'.heap.size = w.heap.size ∧ ∀ k, k ≠ g → w'.heap[k]? = w.heap[k]? := by
   refine ⟨_, rfl, ?_⟩
   unfold World.freeze
   rw [if_neg hu0]
   exact ⟨rfl, rfl, rfl, by simp, fun k hk => by simp only [Array.getElem?_modify]; rw [if_neg (Ne.symm hk)]⟩
 rw [hfz]
 have hown := hS.own K g hgone hgj
 refine hKK _ _ (hk _ _ ?_)
 rw [hus, hdst]
 refine hS.one (by rw [hdst] at hd; simpa [dstOk] using hd) (.c (.lf (.v _ rfl))) rfl ⟨?_, ?_, ?_, by rw [hfs]; exact hS.keep.size, fun k hk' hm => ?_, fun k n hc => ?_⟩ (by rw [hfs]; exact Nat.le_refl _)
 · exact hos.trans hS.keep.os
 · exact htp.trans hS.keep.tape
 · exact hou.trans hS.keep.output
 · rw [hfo k (fun e => by
     subst e
     rcases hown.2.1 with h | h
     · omega
     · exact hm h)]
   exact hS.keep.block k hk' hm
 · have hne : k ≠ g := fun e => by
     subst e
     rcases hown.2.1 with h | h
     · have := hc.lt; omega
     · exact hbl _ _ h hc
   exact (hS.keep.cap k n hc).same (hfo k hne)
theorem call_coreX {β : Nat → Option Nat} {F : Nat → Prop} {a : Act} {w : World} {f : FuncId} {xs ys : List Av} {bor : List Blk} {res : Av} {bs : List Nat} {d : Option Nat} {vs : List Value}
   (hF : CtX P f xs bor res) (hS : SRb E β F σ a w) (hnb : E.nb = 0) (hC : CallOk σ ys xs bor res bor [] bs d)
   (hvl : vs.length = ys.length) (hvs : ∀ (i : Nat) (y : Av) (v : Value), ys[i]? = some y → vs[i]? = some v → AvR β F w y v) :
   Calls P f vs.toArray w fun e w' => ∃ v, e = .returned v ∧ AvR (fun _ => none) (fun _ => False) w' res v ∧ Keep E.w0 E.M w' ∧ w.heap.size ≤ w'.heap.size := by
 obtain ⟨_, hcall⟩ := hF
 obtain ⟨c1, c2, c3, c4⟩ := hC
 simp only [Bool.and_eq_true] at c4
 obtain ⟨⟨⟨⟨⟨⟨o1, o2⟩, o3⟩, o4⟩, o5⟩, o6⟩, o7⟩ := c4
 have hbl : bs.length = bor.length := Nat.eq_of_beq_eq_true o6
 have hnd : (bs ++ newKeys d ([] : List Blk).length).Nodup := by simpa using o7
 have hndb : bs.Nodup := (List.nodup_append.1 hnd).1
 have hndk : (newKeys d ([] : List Blk).length).Nodup := (List.nodup_append.1 hnd).2.1
 have hdis : ∀ j, j ∈ bs → j ∉ newKeys d ([] : List Blk).length := fun j hj hk => (List.nodup_append.1 hnd).2.2 j hj j hk rfl
 have hR1 : ∀ i, i < bs.length → crho bs d ([] : List Blk).length i = bs.getD i 0 := fun i hi => by
   simp only [crho, show Nat.blt i bs.length = true from Nat.blt_eq.symm ▸ hi]
 have hR2 : ∀ i, crho bs d ([] : List Blk).length (bs.length + i) = nk d i := fun i => by
   have : Nat.blt (bs.length + i) bs.length = false := by
     cases h : Nat.blt (bs.length + i) bs.length with
     | false => rfl
     | true => rw [Nat.blt_eq] at h; omega
   simp only [crho, this, Nat.add_sub_cancel_left]
 have hbget : ∀ i, i < bs.length → bs[i]? = some (bs.getD i 0) := fun i hi => by simp [hi]
 have hbmem : ∀ i, i < bs.length → bs.getD i 0 ∈ bs := fun i hi => List.mem_of_getElem? (hbget i hi)
 have hbinj : ∀ i j, i < bs.length → j < bs.length → bs.getD i 0 = bs.getD j 0 → i = j := fun i j hi hj e => by
   rw [List.getD_eq_getElem?_getD, List.getD_eq_getElem?_getD, List.getElem?_eq_getElem hi, List.getElem?_eq_getElem hj, Option.getD_some, Option.getD_some] at e
   exact (List.getElem_inj hndb).1 e
 have hbor : ∀ i b, bor[i]? = some b → σ.hp (bs.getD i 0) = b.ren (crho bs d ([] : List Blk).length) ∧ b ≠ .gone := fun i b hi => by
   have h1 := allP_map c2 _ (mem_ordL bor 0 i b hi)
   have h2 := allP_map c3 _ (mem_ordL bor 0 i b hi)
   exact ⟨by simpa using h1, by simpa using h2⟩
 have hren : ∀ b : Blk, b ≠ .gone → b.ren (crho bs d ([] : List Blk).length) ≠ .gone := fun b hb => Blk.ren_ne hb
 have hlive : ∀ i, i < bs.length → σ.hp (bs.getD i 0) ≠ .gone := fun i hi => by
   have h1 : bor[i]? = some (bor[i]'(by omega)) := by simp [show i < bor.length by omega]
   rw [(hbor i _ h1).1]
   exact hren _ (hbor i _ h1).2
 -- the numbers as the contract sees them
 let βc : Nat → Option Nat := fun i => if i < bs.length then β (bs.getD i 0) else none
 have hβc : ∀ i, i < bs.length → β (crho bs d ([] : List Blk).length i) = βc i := fun i hi => by
   simp only [βc, hi, if_true, hR1 i hi]
 refine (hcall w βc F vs (by rw [hvl, c1]; simp) (fun i x v hx hv => ?_) (fun i b hi => ?_) (fun i j g hi hj e1 e2 => ?_) (fun j g hj e => ?_) (fun j hj => ?_) (fun b hb => (hS.fr b hb).1) (hS.gd fun g hg => ?_)).mono ?_
 · have hy : ys[i]? = some (x.ren (crho bs d ([] : List Blk).length)) := by rw [c1, List.getElem?_map, hx]; rfl
   exact (hvs i _ v hy hv).unren hβc (List.all_eq_true.1 o1 x (List.mem_of_getElem? hx))
 · obtain ⟨h1, h2⟩ := hbor i b hi
   have hlt : i < bs.length := by rw [hbl]; exact (List.getElem?_eq_some_iff.1 hi).1
   refine ⟨?_, h2⟩
   refine BlkR.unren (ρ := crho bs d ([] : List Blk).length) hβc ?_ hlt (List.all_eq_true.1 o2 b (List.mem_of_getElem? hi))
   rw [hR1 i hlt, ← h1]
   exact hS.hp _
 · simp only [βc, show i < bs.length by omega, show j < bs.length by omega, if_true] at e1 e2
   exact hbinj i j (by omega) (by omega) (hS.inj _ _ g (hlive i (by omega)) (hlive j (by omega)) e1 e2)
 · simp only [βc, show j < bs.length by omega, if_true] at e
   obtain ⟨a1, _, a3⟩ := hS.own _ g (hlive j (by omega)) e
   exact ⟨a1, a3⟩
 · simp only [βc, show ¬ j < bs.length by omega, if_false]
 · obtain ⟨i, hi, e⟩ := hg
   have hi' : i < bs.length := by omega
   simp only [βc, hi', if_true] at e
   exact ⟨_, hlive i hi', e⟩
 · rintro e w' ⟨v, rfl, hv, k1, k2, k3, k4, k5⟩
   have hM : ∀ g, ¬ E.M g := fun g hg => by
     obtain ⟨i, hi, _⟩ := E.hM g hg
     omega
   have hlow : ∀ k, k < E.w0.heap.size → w'.heap[k]? = w.heap[k]? := fun k hk => by
     have hks := hS.keep.size
     refine k5 k (by omega) ?_
     rintro ⟨i, hi, e⟩
     have hi' : i < bs.length := by omega
     simp only [βc, hi', if_true] at e
     rcases (hS.own _ k (hlive i hi') e).2.1 with h | h
     · omega
     · exact hM k h
   exact ⟨v, rfl, hv, ⟨k1.trans hS.keep.os, k2.trans hS.keep.tape, k3.trans hS.keep.output, Nat.le_trans hS.keep.size k4, fun k hk hm => (hlow k hk).trans (hS.keep.block k hk hm), fun g n hc => (hS.keep.cap g n hc).same (hlow g hc.lt)⟩, k4⟩
theorem s_callX {c : Call} {fo : Operand} {f : FuncId} {first cap : List Cell} {pf : List Prop} {xs : List Av} {bor : List Blk} {res : Av} {dd : Nat} (bs : List Nat) (hF : CtX P f xs bor res) (hnb : E.nb = 0) (hpl : plainA res = true) (hdst : o.dst = some dd)
   (hop : o.op = .call c) (hg : o.guard = none) (hd : dstOk E.n o.dst = true) (hcv : c.callee = .value fo) (hfo : ox σ fo = (pf, .c (.fn (.func f) first cap)))
   (hp : AllP (pf ++ (oxs σ c.args.toList).1))
   (hC : CallOk σ (first.map Av.c ++ (oxs σ c.args.toList).2 ++ cap.map Av.c) xs bor res bor [] bs o.dst)
   (hk : WL P E ops Q rest (St.of [(dd, res)] [])) : WL P E ops Q (o :: rest) σ := by
 intro a w hS
 refine wpList_plain hg fun K hK => ?_
 obtain ⟨β, F, hS⟩ := hS
 have hfv := oxR hS fo
 rw [hfo] at hfv
 have hfv := hfv hp.left
 generalize hv : a.eval fo = fv at hfv
 cases hfv with | c hfv => cases hfv with | fn _ _ _ f1 c1 n1 n2 r1 r2 =>
 obtain ⟨l1, l2⟩ := oxs_R hS c.args.toList hp.right
 have hrun : (execOp a.eval o).run P w = .ok (.enter f (f1 ++ c.args.map a.eval ++ c1)) w := by
   simp only [execOp, hop, resolve, hcv, hv, Deferred.ofValue, Sem.run_bind, Sem.run_pure, Result.andThen_ok, invoke]
   exact run_callFunc hF.1
 unfold Oper.wp
 rw [hrun, Oper.upon_enter]
 have hcore := call_coreX (vs := (f1 ++ c.args.map a.eval ++ c1).toList) hF hS hnb hC (by simp [n1, n2, l1]) (fun i y v hy hv => by
     simp only [Array.toList_append, List.append_assoc] at hv
     rw [List.append_assoc] at hy
     rcases Nat.lt_or_ge i first.length with h | h
     · rw [List.getElem?_append_left (by simpa using h)] at hy
       rw [List.getElem?_append_left (by simp [n1]; exact h)] at hv
       rw [List.getElem?_map, Option.map_eq_some_iff] at hy
       obtain ⟨x, hx, rfl⟩ := hy
       exact .c (r1 i x v hx (by simpa using hv))
     · rw [List.getElem?_append_right (by simpa using h)] at hy
       rw [List.getElem?_append_right (by simp [n1]; exact h)] at hv
       simp only [List.length_map, Array.length_toList, n1] at hy hv
       rcases Nat.lt_or_ge (i - first.length) c.args.toList.length with h' | h'
       · rw [List.getElem?_append_left (by rw [l1]; exact h')] at hy
         rw [List.getElem?_append_left (by simpa using h')] at hv
         exact l2 _ y v hy (by simpa using hv)
       · rw [List.getElem?_append_right (by rw [l1]; exact h')] at hy
         rw [List.getElem?_append_right (by simpa using h')] at hv
         rw [List.getElem?_map, Option.map_eq_some_iff] at hy
         obtain ⟨x, hx, rfl⟩ := hy
         refine .c (r2 _ x v hx ?_)
         simp only [l1] at hx
         simpa [l1] using hv)
 rw [Array.toArray_toList] at hcore
 refine hcore.mono fun e w' hq => ?_
 obtain ⟨v, rfl, hv', hkp, hsz⟩ := hq
 refine hK _ _ (hk _ _ ?_)
 rw [hdst]
 exact hS.one (by rw [hdst] at hd; simpa [dstOk] using hd) hv' hpl hkp hsz
end
end Go.Sx

/-
  The layer: maps whose keys are strings: made, looked at, written. No condition.
-/
import Derived.Test.YtohfhephkjihfaaGreatSxQ
namespace Go.Sx
open Go
set_option linter.unusedVariables false
set_option linter.unusedSimpArgs false
theorem beqB (a b : ByteArray) : (a == b) = decide (a = b) := by
 obtain ⟨x⟩ := a
 obtain ⟨y⟩ := b
 have h : (ByteArray.mk x == ByteArray.mk y) = (x == y) := rfl
 rw [h]
 by_cases e : x = y
 · subst e; simp
 · simp [e]
abbrev MapL := List (ByteArray × Leaf)
def findM : MapL → ByteArray → Option Leaf
 | [], _ => none
 | (k, x) :: l, s => if s = k then some x else findM l s
def setM : MapL → ByteArray → Leaf → MapL
 | [], s, x => [(s, x)]
 | (k, y) :: l, s, x => if s = k then (s, x) :: l else (k, y) :: setM l s x
def MR (F : Nat → Prop) (w : World) : List MapEntry → MapL → Prop
 | [], [] => True
 | e :: ms, (k, x) :: es => e.key = .string k ∧ LfR F w x e.val ∧ MR F w ms es
 | _, _ => False
theorem MR.of {F : Nat → Prop} {w : World} : ∀ {ms : List MapEntry} {es : MapL}, ms.length = es.length → (∀ (i : Nat) (k : ByteArray) (x : Leaf), es[i]? = some (k, x) → ∃ e, ms[i]? = some e ∧ e.key = .string k ∧ LfR F w x e.val) → MR F w ms es
 | [], [], _, _ => trivial
 | [], _ :: _, h, _ => by simp at h
 | _ :: _, [], h, _ => by simp at h
 | e :: ms, (k, x) :: es, h, hx => by
   obtain ⟨e', q1, q2, q3⟩ := hx 0 k x rfl
   simp at q1
   subst q1
   exact ⟨q2, q3, MR.of (by simpa using h) fun i k x hi => by simpa using hx (i + 1) k x (by simpa using hi)⟩
theorem MR.to {F : Nat → Prop} {w : World} : ∀ {ms : List MapEntry} {es : MapL}, MR F w ms es → ms.length = es.length ∧ ∀ (i : Nat) (k : ByteArray) (x : Leaf), es[i]? = some (k, x) → ∃ e, ms[i]? = some e ∧ e.key = .string k ∧ LfR F w x e.val
 | [], [], _ => ⟨rfl, fun i k x h => by simp at h⟩
 | [], _ :: _, h => h.elim
 | _ :: _, [], h => h.elim
 | e :: ms, (k, x) :: es, ⟨h1, h2, h3⟩ => by
   obtain ⟨q1, q2⟩ := h3.to
   refine ⟨by simp [q1], fun i k' x' hi => ?_⟩
   cases i with
   | zero => simp at hi; obtain ⟨rfl, rfl⟩ := hi; exact ⟨e, rfl, h1, h2⟩
   | succ i => simpa using q2 i k' x' (by simpa using hi)
theorem MR.find {F : Nat → Prop} {w : World} {s : ByteArray} : ∀ {ms : List MapEntry} {es : MapL} (i0 : Nat), MR F w ms es →
   (findM es s = none ∧ Instr.findNow .string (.string s) ms i0 = some none) ∨ ∃ x i v e, findM es s = some x ∧ Instr.findNow .string (.string s) ms i0 = some (some (i0 + i, v)) ∧ LfR F w x v ∧ ms[i]? = some e ∧ e.key = .string s
 | [], [], i0, _ => .inl ⟨rfl, rfl⟩
 | [], _ :: _, _, h => h.elim
 | _ :: _, [], _, h => h.elim
 | e :: ms, (k, x) :: es, i0, ⟨h1, h2, h3⟩ => by
   unfold findM Instr.findNow
   rw [h1]
   by_cases hk : s = k
   · subst hk
     right
     refine ⟨x, 0, e.val, e, by simp, by simp [Instr.sameNow, beqB], h2, rfl, h1⟩
   · have hb : Instr.sameNow .string (.string s) (.string k) = some false := by simp [Instr.sameNow, beqB, hk]
     rw [hb, if_neg hk]
     dsimp only
     rcases MR.find (i0 + 1) h3 (s := s) with ⟨q1, q2⟩ | ⟨x', i, v, e', q1, q2, q3, q4, q5⟩
     · exact .inl ⟨q1, q2⟩
     · exact .inr ⟨x', i + 1, v, e', q1, by rw [q2]; congr 3; omega, q3, by simpa using q4, q5⟩
theorem MR.none_ne {F : Nat → Prop} {w : World} {s : ByteArray} : ∀ {ms : List MapEntry} {es : MapL}, MR F w ms es → findM es s = none → ∀ x ∈ ms, x.key ≠ .string s
 | [], [], _, _ => fun x hx => by cases hx
 | [], _ :: _, h, _ => h.elim
 | _ :: _, [], h, _ => h.elim
 | e :: ms, (k, x) :: es, ⟨h1, _, h3⟩, hf => fun y hy => by
   unfold findM at hf
   by_cases hk : s = k
   · rw [if_pos hk] at hf; cases hf
   · rw [if_neg hk] at hf
     rcases List.mem_cons.1 hy with rfl | hy
     · rw [h1]
       intro h
       injection h with h
       exact hk h.symm
     · exact MR.none_ne h3 hf y hy
theorem MR.set {F : Nat → Prop} {w : World} {s : ByteArray} {x : Leaf} {v : Value} (hx : LfR F w x v) : ∀ {ms : List MapEntry} {es : MapL} (i0 : Nat), MR F w ms es →
   match Instr.findNow .string (.string s) ms i0 with
   | some (some (i, _)) => i0 ≤ i ∧ MR F w (ms.modify (i - i0) fun e => { e with key := .string s, val := v }) (setM es s x)
   | some none => ∀ b, MR F w (ms ++ [{ key := .string s, val := v, born := b }]) (setM es s x)
   | none => False
 | [], [], i0, _ => by intro b; exact ⟨rfl, hx, trivial⟩
 | [], _ :: _, _, h => h.elim
 | _ :: _, [], _, h => h.elim
 | e :: ms, (k, y) :: es, i0, ⟨h1, h2, h3⟩ => by
   unfold setM Instr.findNow
   rw [h1]
   by_cases hk : s = k
   · subst hk
     have hb : Instr.sameNow .string (.string s) (.string s) = some true := by simp [Instr.sameNow, beqB]
     rw [hb]
     dsimp only
     rw [if_pos rfl, Nat.sub_self]
     refine ⟨Nat.le_refl _, ?_⟩
     simp only [List.modify_zero_cons]
     exact ⟨rfl, hx, h3⟩
   · have hb : Instr.sameNow .string (.string s) (.string k) = some false := by simp [Instr.sameNow, beqB, hk]
     rw [hb, if_neg hk]
     dsimp only
     have ih := MR.set hx (i0 + 1) h3 (s := s)
     revert ih
     cases hf : Instr.findNow .string (.string s) ms (i0 + 1) with
     | none => exact fun h => h.elim
     | some r =>
       cases r with
       | none => exact fun h b => ⟨h1, h2, h b⟩
       | some p =>
         obtain ⟨i, v'⟩ := p
         rintro ⟨q1, q2⟩
         refine ⟨by omega, ?_⟩
         have e : i - i0 = (i - (i0 + 1)) + 1 := by omega
         rw [e, List.modify_succ_cons]
         exact ⟨h1, h2, q2⟩
theorem MR.app {F : Nat → Prop} {w : World} : ∀ {ms ns : List MapEntry} {es fs : MapL}, MR F w ms es → MR F w ns fs → MR F w (ms ++ ns) (es ++ fs)
 | [], _, [], _, _, h => h
 | [], _, _ :: _, _, h, _ => h.elim
 | _ :: _, _, [], _, h, _ => h.elim
 | e :: ms, ns, (k, x) :: es, fs, ⟨h1, h2, h3⟩, h => ⟨h1, h2, h3.app h⟩
theorem MR.cut {F : Nat → Prop} {w : World} : ∀ {ms ns : List MapEntry} {es : MapL}, MR F w (ms ++ ns) es → ∃ e1 e2, es = e1 ++ e2 ∧ MR F w ms e1 ∧ MR F w ns e2
 | [], ns, es, h => ⟨[], es, rfl, trivial, h⟩
 | e :: ms, ns, [], h => h.elim
 | e :: ms, ns, (k, x) :: es, ⟨h1, h2, h3⟩ => by
   obtain ⟨e1, e2, rfl, q1, q2⟩ := h3.cut
   exact ⟨(k, x) :: e1, e2, rfl, ⟨h1, h2, q1⟩, q2⟩
theorem MR.ofU {F : Nat → Prop} {w : World} : ∀ {es : MapL} {ms : List MapEntry}, ms.length = es.length → (es.map (·.1)).Nodup → (∀ (i : Nat) (k : ByteArray) (x : Leaf), es[i]? = some (k, x) → ∃ e, e ∈ ms ∧ e.key = .string k ∧ LfR F w x e.val) → ∃ es', es'.Perm es ∧ MR F w ms es'
 | [], ms, hl, _, _ => by
   rw [List.eq_nil_of_length_eq_zero (l := ms) hl]
   exact ⟨[], .refl _, trivial⟩
 | (k, x) :: es, ms, hl, hn, h => by
   obtain ⟨e, he, h1, h2⟩ := h 0 k x rfl
   obtain ⟨a, b, rfl⟩ := List.append_of_mem he
   simp only [List.map_cons, List.nodup_cons] at hn
   obtain ⟨es2, p, q⟩ := MR.ofU (F := F) (w := w) (es := es) (ms := a ++ b) (by simp at hl ⊢; omega) hn.2 (fun i k' x' hi => by
     obtain ⟨e', m1, m2, m3⟩ := h (i + 1) k' x' (by simpa using hi)
     refine ⟨e', ?_, m2, m3⟩
     rcases List.mem_append.1 m1 with m | m
     · exact List.mem_append_left _ m
     · rcases List.mem_cons.1 m with rfl | m
       · rw [h1] at m2
         injection m2 with m2
         exact absurd (List.mem_map.2 ⟨_, List.mem_of_getElem? hi, m2.symm⟩) hn.1
       · exact List.mem_append_right _ m)
   obtain ⟨e1, e2, rfl, q1, q2⟩ := q.cut
   exact ⟨e1 ++ (k, x) :: e2, List.perm_middle.trans (p.cons _), q1.app ⟨h1, h2, q2⟩⟩
def delM : MapL → ByteArray → MapL
 | [], _ => []
 | (k, x) :: l, s => if s = k then l else (k, x) :: delM l s
theorem findM_mem {s : ByteArray} {x : Leaf} : ∀ {es : MapL}, (es.map (·.1)).Nodup → (findM es s = some x ↔ (s, x) ∈ es)
 | [], _ => by simp [findM]
 | (k, y) :: es, hn => by
   simp only [List.map_cons, List.nodup_cons] at hn
   have ih := findM_mem (s := s) (x := x) hn.2
   unfold findM
   by_cases e : s = k
   · subst e
     rw [if_pos rfl]
     constructor
     · intro h; obtain rfl := Option.some.inj h; exact List.mem_cons_self ..
     · intro h
       rcases List.mem_cons.1 h with h | h
       · injection h with _ h; rw [h]
       · exact absurd (List.mem_map.2 ⟨_, h, rfl⟩) hn.1
   · rw [if_neg e, ih]
     constructor
     · exact List.mem_cons_of_mem _
     · intro h
       rcases List.mem_cons.1 h with h | h
       · injection h with h; exact absurd h e
       · exact h
theorem nodup_perm {es fs : MapL} (p : fs.Perm es) (hn : (es.map (·.1)).Nodup) : (fs.map (·.1)).Nodup := (p.map _).nodup_iff.2 hn
theorem findM_perm {es fs : MapL} (p : fs.Perm es) (hn : (es.map (·.1)).Nodup) (s : ByteArray) : findM fs s = findM es s := by
 have h1 := fun x => (findM_mem (s := s) (x := x) (nodup_perm p hn)).trans (p.mem_iff.trans (findM_mem (s := s) (x := x) hn).symm)
 cases h2 : findM es s with
 | some x => exact (h1 x).2 h2
 | none =>
   cases h3 : findM fs s with
   | none => rfl
   | some x => rw [(h1 x).1 h3] at h2; cases h2
theorem setM_del (s : ByteArray) (x : Leaf) : ∀ es : MapL, (setM es s x).Perm ((s, x) :: delM es s)
 | [] => .refl _
 | (k, y) :: es => by
   unfold setM delM
   by_cases e : s = k
   · rw [if_pos e, if_pos e]
   · rw [if_neg e, if_neg e]
     exact ((setM_del s x es).cons _).trans (.swap ..)
theorem delM_filter (s : ByteArray) : ∀ {es : MapL}, (es.map (·.1)).Nodup → delM es s = es.filter fun p => decide (p.1 ≠ s)
 | [], _ => rfl
 | (k, y) :: es, hn => by
   simp only [List.map_cons, List.nodup_cons] at hn
   unfold delM
   by_cases e : s = k
   · subst e
     rw [if_pos rfl, List.filter_cons_of_neg (by simp)]
     refine (List.filter_eq_self.2 fun p hp => ?_).symm
     have : p.1 ≠ s := fun h => hn.1 (List.mem_map.2 ⟨p, hp, h⟩)
     simpa using this
   · rw [if_neg e, List.filter_cons_of_pos (by simpa using fun h => e h.symm), delM_filter s hn.2]
theorem delM_nodup {es : MapL} (hn : (es.map (·.1)).Nodup) (s : ByteArray) : ((delM es s).map (·.1)).Nodup ∧ s ∉ (delM es s).map (·.1) := by
 rw [delM_filter s hn]
 refine ⟨hn.sublist (List.Sublist.map _ List.filter_sublist), fun h => ?_⟩
 obtain ⟨p, hp, e⟩ := List.mem_map.1 h
 have := (List.mem_filter.1 hp).2
 simp [e] at this
theorem delM_perm {es fs : MapL} (p : fs.Perm es) (hn : (es.map (·.1)).Nodup) (s : ByteArray) : (delM fs s).Perm (delM es s) := by
 rw [delM_filter s hn, delM_filter s (nodup_perm p hn)]
 exact p.filter _
theorem setM_perm {es fs : MapL} (p : fs.Perm es) (hn : (es.map (·.1)).Nodup) (s : ByteArray) (x : Leaf) : (setM fs s x).Perm (setM es s x) :=
 (setM_del s x fs).trans (((delM_perm p hn s).cons _).trans (setM_del s x es).symm)
theorem setM_nodup {es : MapL} (hn : (es.map (·.1)).Nodup) (s : ByteArray) (x : Leaf) : ((setM es s x).map (·.1)).Nodup := by
 refine nodup_perm (setM_del s x es) ?_
 simp only [List.map_cons, List.nodup_cons]
 exact (delM_nodup hn s).symm
section
variable {P : Program} {E : Env} {ops : Array Oper} {Q : Exit → Act → World → Prop} {rest : List Oper} {o : Oper} {σ : St}
theorem map_get {β : Nat → Option Nat} {F : Nat → Prop} {a : Act} {w : World} (hS : SRb E β F σ a w) {j : Nat} {es : MapL} (hj : σ.hp j = .map es) {v : Value} (hv : CellR β F w (.map j) v) : ∃ g ms ck, β j = some g ∧ v = .map (some g) ∧ w.heap[g]? = some (.map ms ck) ∧ Go.MapKept.Stamped ms ck ∧ (es.map (·.1)).Nodup ∧ ∃ es', es'.Perm es ∧ MR F w ms.toList es' := by
 have hB := hS.hp j
 rw [hj] at hB
 obtain ⟨g, ms, ck, e1, e2, e3, e4⟩ := hB
 cases hv with | map _ g' hg =>
 rw [e1] at hg
 obtain rfl := Option.some.inj hg
 exact ⟨g, ms, ck, e1, rfl, e2, e3.2.1, e3.2.2, MR.ofU (by simpa using e3.1) e3.2.2 e4⟩
theorem run_getM {w : World} {g : Nat} {ms : Array MapEntry} {ck : Nat} (h : w.heap[g]? = some (.map ms ck)) : (getObj g).run P w = .ok (.map ms ck) w := by simp [getObj, Sem.run, h]
theorem run_setM {w : World} {g : Nat} {ms : Array MapEntry} {ck : Nat} (ob : Obj) (h : w.heap[g]? = some (.map ms ck)) : (setObj g ob).run P w = .ok () { w with heap := w.heap.setIfInBounds g ob } := by simp [setObj, Sem.run, h]
theorem run_find {w : World} {ms : List MapEntry} {kt : TypeId} {s : ByteArray} {r : Option (Nat × Value)} (hk : P.underlying kt = some .string) (h : Instr.findNow .string (.string s) ms 0 = some r) : (Instr.findKey kt (.string s) ms).run P w = .ok r w := by
 simp [Instr.findKey, run_underlying hk, h]
theorem run_checkKey {w : World} {b : Bool} {kt : TypeId} {s : ByteArray} (hk : P.underlying kt = some .string) : (Instr.checkKey b 10000 kt (.string s)).run P w = .ok () w := by
 unfold Instr.checkKey
 simp [run_underlying hk]
abbrev lkA (ok : Bool) (r : Option Leaf) (z : Value) : Av := match ok with
 | true => .tup [.c (.lf (r.getD (.v z))), lv (.bool r.isSome)]
 | false => .c (.lf (r.getD (.v z)))
theorem opy_lookup {t kt et : TypeId} {x y : Operand} {ok : Bool} {px py : List Prop} {j : Nat} {es : MapL} {s : ByteArray} {r : Option Leaf} {z : Value} (hop : o.op = .lookup t x y ok) (ht : P.underlying t = some (.map kt et)) (hk : P.underlying kt = some .string)
   (hx : ox σ x = (px, .c (.map j))) (hj : σ.hp j = .map es) (hy : ox σ y = (py, lv (.string s))) (hp : AllP (px ++ py)) (hf : findM es s = r) (hz : (P.info? et).bind (·.zero) = some z) (hz1 : z.oneCell' = true) :
   OpY P E o σ (lkA ok r z) := by
 refine opy_val fun β F a w hS => ?_
 have h1 := oxR hS x
 rw [hx] at h1
 have h1 := h1 hp.left
 have h2 := oxR hS y
 rw [hy] at h2
 have h2 := (h2 hp.right).val
 generalize he1 : a.eval x = v1 at h1
 dsimp only at h1
 cases h1 with | c h1 =>
 obtain ⟨g, ms, ck, e1, rfl, e2, est, hnd, es1, ep, e3⟩ := map_get hS hj h1
 have hzv : (zeroValue et).run P w = .ok z w := by
   obtain ⟨i, hi, hzi⟩ := Option.bind_eq_some_iff.1 hz
   simp [zeroValue, typeInfo, hi, hzi]
 have key : ∃ v, (Instr.lookup t (.map (some g)) (.string s) ok).run P w = .ok (if ok then .tuple #[v, .bool r.isSome] else v) w ∧ LfR F w (r.getD (.v z)) v := by
   rcases MR.find 0 e3 (s := s) with ⟨q1, q2⟩ | ⟨x', i, v, e, q1, q2, q3, _, _⟩
   · rw [findM_perm ep hnd, hf] at q1
     subst q1
     refine ⟨z, ?_, .v _ hz1⟩
     simp [Instr.lookup, run_underlying ht, run_getM e2, run_checkKey hk, run_find hk q2, hzv]
   · rw [findM_perm ep hnd, hf] at q1
     subst q1
     refine ⟨v, ?_, q3⟩
     simp [Instr.lookup, run_underlying ht, run_getM e2, run_checkKey hk, run_find hk q2]
 obtain ⟨v, hrun, hv⟩ := key
 refine ⟨_, w, F, by simp only [execOp, hop, he1, h2]; exact run_v hrun, .refl w, fun _ h => h, fun _ h => .inl h, ?_⟩
 cases ok with
 | false => exact .c (.lf hv)
 | true =>
   refine .tup _ _ rfl fun i x u hx hu => ?_
   match i, hx, hu with
   | 0, hx, hu => simp at hx hu; subst hx hu; exact .c (.lf hv)
   | 1, hx, hu => simp at hx hu; subst hx hu; exact .c (.lf (.v _ rfl))
theorem opys_lookup {t kt et : TypeId} {x y : Operand} {ok : Bool} {px py : List Prop} {j : Nat} {es : MapL} {s : ByteArray} {r : Option Leaf} {z : Value} (hop : o.op = .lookup t x y ok) (ht : P.underlying t = some (.map kt et)) (hk : P.underlying kt = some .string)
   (hx : ox σ x = (px, .c (.map j))) (hj : σ.hp j = .map es) (hy : ox σ y = (py, lv (.string s))) (hp : AllP (px ++ py)) (hf : findM es s = r) (hz : (P.info? et).bind (·.zero) = some z) (hz1 : z.oneCell' = true) :
   OpYS P E ops o σ (lkA ok r z) := fun τ hl =>
 opy_lookup hop ht hk ((hl.ox x (by rw [hop]; simp [Op.operands])).trans hx) ((congrFun hl.hp j).trans hj) ((hl.ox y (by rw [hop]; simp [Op.operands])).trans hy) hp hf hz hz1
theorem SRb.updM {β : Nat → Option Nat} {F : Nat → Prop} {a : Act} {w : World} (h : SRb E β F σ a w) {j g : Nat} {es es' : MapL} {ms ms' : Array MapEntry} {ck ck' : Nat} (hj : σ.hp j = .map es) (hg : β j = some g) (hm : w.heap[g]? = some (.map ms ck)) {es1' : MapL} (hr : MR F w ms'.toList es1') (hpe : es1'.Perm es') (hnd : (es'.map (·.1)).Nodup) (hst' : Go.MapKept.Stamped ms' ck') :
   SRb E β F (σ.seth j (.map es')) a { w with heap := w.heap.setIfInBounds g (.map ms' ck') } := by
 have hne0 : σ.hp j ≠ .gone := by rw [hj]; intro h; cases h
 obtain ⟨o1, o2, o3⟩ := h.own j g hne0 hg
 generalize hw : ({ w with heap := w.heap.setIfInBounds g (.map ms' ck') } : World) = w'
 have hsz : w'.heap.size = w.heap.size := by rw [← hw]; simp
 have hk : ∀ k, k ≠ g → w'.heap[k]? = w.heap[k]? := by
   intro k hk
   rw [← hw]
   simp [Ne.symm hk]
 have hgw : w'.heap[g]? = some (.map ms' ck') := by
   rw [← hw]
   simp [o1]
 have hF : ∀ b, F b → w'.heap[b]? = w.heap[b]? := fun b hb => hk b (fun e => o3 (e ▸ hb))
 have hC : ∀ g n, CapOk w g n → CapOk w' g n := by
   intro g' n hc
   by_cases e : g' = g
   · subst e
     exfalso
     cases n with
     | sz n => obtain ⟨cur, ⟨t, fr, h1, _⟩, _⟩ := hc; rw [hm] at h1; cases h1
     | tag t => obtain ⟨cur, fr, h1⟩ := hc; rw [hm] at h1; cases h1
   · exact hc.same (hk g' e)
 have hA : ∀ {x : Av} {v : Value}, AvR β F w x v → AvR β F w' x v := fun hx => hx.mono (fun _ _ h => h) (fun b hb => ⟨hb, hF b hb⟩) hC
 have hne : ∀ i, (σ.seth j (.map es')).hp i ≠ .gone → σ.hp i ≠ .gone := by
   intro i hi
   by_cases e : i = j
   · rw [e]; exact hne0
   · simpa [St.seth, e] using hi
 refine ⟨fun i => hA (h.tm i), h.sz, h.df, fun i => ?_, fun i k g hi hk' e1 e2 => h.inj i k g (hne i hi) (hne k hk') e1 e2, fun i g hi e => ?_, fun i g e => by rw [hsz]; exact h.lt i g e, fun b hb => by rw [hsz]; exact h.fr b hb, ?_, h.bb, h.nbl⟩
 · by_cases hij : i = j
   · subst hij
     simp only [St.seth, if_true]
     obtain ⟨q1, q2⟩ := hr.to
     exact ⟨g, ms', ck', hg, hgw, ⟨by simpa [hpe.length_eq] using q1, hst', hnd⟩, fun i k x hx => by
       obtain ⟨i2, hi2⟩ := List.mem_iff_getElem?.1 (hpe.mem_iff.2 (List.mem_of_getElem? hx))
       obtain ⟨e, r1, r2, r3⟩ := q2 i2 k x hi2
       exact ⟨e, List.mem_of_getElem? r1, r2, r3.mono fun b hb => ⟨hb, hF b hb⟩⟩⟩
   · simp only [St.seth, hij, if_false]
     by_cases hgone : σ.hp i = .gone
     · rw [hgone]; trivial
     · exact (h.hp i).mono (fun _ _ h => h) rfl hF hC (fun g' hg' => hk g' (fun e => hij (h.inj i j g hgone hne0 (e ▸ hg') hg)))
 · rw [hsz]; exact h.own i g (hne i hi) e
 · refine ⟨?_, ?_, ?_, by rw [hsz]; exact h.keep.size, fun k hk1 hm' => ?_, fun g n hc => hC g n (h.keep.cap g n hc)⟩
   · rw [← hw]; exact h.keep.os
   · rw [← hw]; exact h.keep.tape
   · rw [← hw]; exact h.keep.output
   · refine (hk k fun e => ?_).trans (h.keep.block k hk1 hm')
     subst e
     rcases o2 with o2 | o2
     · omega
     · exact hm' o2
theorem stb_mapU {t kt et : TypeId} {x y z : Operand} {px py pz : List Prop} {j : Nat} {es : MapL} {s : ByteArray} {v : Leaf} (hop : o.op = .mapUpdate t x y z) (hdn : o.dst = none) (ht : P.underlying t = some (.map kt et)) (hk : P.underlying kt = some .string)
   (hx : ox σ x = (px, .c (.map j))) (hj : σ.hp j = .map es) (hy : ox σ y = (py, lv (.string s))) (hz : ox σ z = (pz, .c (.lf v))) (hp : AllP (px ++ (py ++ pz))) : StepB P E o σ (σ.seth j (.map (setM es s v))) := by
 intro β F a w hS
 have h1 := oxR hS x
 rw [hx] at h1
 have h1 := h1 hp.left
 have h2 := oxR hS y
 rw [hy] at h2
 have h2 := (h2 hp.right.left).val
 have h3 := oxR hS z
 rw [hz] at h3
 have h3 := h3 hp.right.right
 generalize he1 : a.eval x = v1 at h1
 generalize he3 : a.eval z = v3 at h3
 dsimp only at h1 h3
 cases h1 with | c h1 =>
 cases h3 with | c h3 => cases h3 with | lf h3 =>
 obtain ⟨g, ms, ck, e1, rfl, e2, est, hnd, es1, ep, e3⟩ := map_get hS hj h1
 have hset := MR.set (s := s) h3 0 e3
 have hput : ∀ τ : St, ∀ w', SRb E β F τ a w' → SRb E β F τ (a.put o.dst undef) w' := fun τ w' h => by rw [hdn]; exact h
 rcases MR.find 0 e3 (s := s) with ⟨q1, q2⟩ | ⟨x', i, v', e, q1, q2, q3, q4, q5⟩
 · rw [q2] at hset
   dsimp only at hset
   refine ⟨_, ?_, hput _ _ (hS.updM (ms' := ms.push { key := .string s, val := v3, born := ck }) (ck' := ck + 1) hj e1 e2 (by simpa using hset ck) (setM_perm ep hnd _ _) (setM_nodup hnd _ _) (Go.MapKept.stamped_push est (MR.none_ne e3 q1)))⟩
   simp [execOp, hop, he1, he3, h2, Instr.mapUpdate, run_underlying ht, run_getM e2, run_checkKey hk, run_find hk q2, run_setM _ e2]
 · rw [q2] at hset
   dsimp only at hset
   have hi : ms[i]? = some e := by simpa using q4
   refine ⟨_, ?_, hput _ _ (hS.updM (ms' := ms.modify i fun e => { e with key := .string s, val := v3 }) (ck' := ck) hj e1 e2 (by simpa using hset.2) (setM_perm ep hnd _ _) (setM_nodup hnd _ _) (Go.MapKept.stamped_modify est i _ (fun _ _ => rfl) (fun e' _ he => by rw [hi] at he; obtain rfl := Option.some.inj he; exact q5.symm)))⟩
   have hst : (Instr.keyThatStays (((ms[i]?).map (·.key)).getD (.string s)) (.string s)).run P w = .ok (.string s) w := by
     rw [hi]
     simp [Instr.keyThatStays, Instr.sameBits, q5, beqB]
   simp [execOp, hop, he1, he3, h2, Instr.mapUpdate, run_underlying ht, run_getM e2, run_checkKey hk, run_find hk q2, hst, run_setM _ e2]
def StepV (P : Program) (E : Env) (o : Oper) (σ σ' : St) : Prop := ∀ β F a w, SRb E β F σ a w → ∃ v w', (execOp a.eval o).run P w = .ok (.value v) w' ∧ SRb E β F σ' (a.put o.dst v) w'
theorem stepU_sv {ns b : List Nat} {j : Nat} {blk : Blk} (hg : o.guard = none) (hdn : o.dst = none) (hb : memB j b = false)
   (h : ∀ τ : St, (∀ x, x ∈ o.op.operands.toList → ox τ x = ox σ x) → τ.hp j = σ.hp j → StepV P E o τ (τ.seth j blk)) : StepU P E ops ns o b σ (.c .un) [(j, blk)] := by
 intro τ hl β F a w hS hn K Q hK
 rw [show Region.wanted o (yielded ops a.tmps) = true by simp [Region.wanted, hg], if_pos rfl]
 obtain ⟨v, w', h1, h2⟩ := h τ hl.ox (hl.hp j hb) β F a w hS
 unfold Oper.wp
 rw [h1]
 refine hK v w' β F ?_ fun _ _ => rfl
 rw [upd1, hdn]
 rw [hdn] at h2
 exact h2
theorem MR.del {F : Nat → Prop} {w : World} {s : ByteArray} : ∀ {ms : List MapEntry} {es : MapL} (i0 : Nat), MR F w ms es →
   match Instr.findNow .string (.string s) ms i0 with
   | some (some (i, _)) => i0 ≤ i ∧ MR F w (ms.eraseIdx (i - i0)) (delM es s)
   | some none => MR F w ms (delM es s)
   | none => False
 | [], [], i0, _ => trivial
 | [], _ :: _, _, h => h.elim
 | _ :: _, [], _, h => h.elim
 | e :: ms, (k, y) :: es, i0, ⟨h1, h2, h3⟩ => by
   unfold delM Instr.findNow
   rw [h1]
   by_cases hk : s = k
   · subst hk
     have hb : Instr.sameNow .string (.string s) (.string s) = some true := by simp [Instr.sameNow, beqB]
     rw [hb]
     dsimp only
     rw [if_pos rfl, Nat.sub_self]
     exact ⟨Nat.le_refl _, h3⟩
   · have hb : Instr.sameNow .string (.string s) (.string k) = some false := by simp [Instr.sameNow, beqB, hk]
     rw [hb, if_neg hk]
     dsimp only
     have ih := MR.del (i0 + 1) h3 (s := s)
     revert ih
     cases hf : Instr.findNow .string (.string s) ms (i0 + 1) with
     | none => exact fun h => h.elim
     | some r =>
       cases r with
       | none => exact fun h => ⟨h1, h2, h⟩
       | some p =>
         obtain ⟨i, v'⟩ := p
         rintro ⟨q1, q2⟩
         refine ⟨by omega, ?_⟩
         have e : i - i0 = (i - (i0 + 1)) + 1 := by omega
         rw [e, List.eraseIdx_cons_succ]
         exact ⟨h1, h2, q2⟩
theorem stb_del {t kt et tk : TypeId} {c : Call} {x y : Operand} {px py : List Prop} {j : Nat} {es : MapL} {s : ByteArray} (hop : o.op = .call c) (hc : c.callee = .builtin .delete) (ha : c.args.toList = [x, y]) (hty : c.argTypes.toList = [t, tk]) (hdn : o.dst = none) (ht : P.underlying t = some (.map kt et)) (hk : P.underlying kt = some .string)
   (hx : ox σ x = (px, .c (.map j))) (hj : σ.hp j = .map es) (hy : ox σ y = (py, lv (.string s))) (hp : AllP (px ++ py)) : StepV P E o σ (σ.seth j (.map (delM es s))) := by
 intro β F a w hS
 have h1 := oxR hS x
 rw [hx] at h1
 have h1 := h1 hp.left
 have h2 := oxR hS y
 rw [hy] at h2
 have h2 := (h2 hp.right).val
 generalize he1 : a.eval x = v1 at h1
 dsimp only at h1
 cases h1 with | c h1 =>
 obtain ⟨g, ms, ck, e1, rfl, e2, est, hnd, es1, ep, e3⟩ := map_get hS hj h1
 have hca : c.args = #[x, y] := by apply Array.toList_inj.1; simpa using ha
 have hct : c.argTypes = #[t, tk] := by apply Array.toList_inj.1; simpa using hty
 have hdel := MR.del (s := s) 0 e3
 have hput : ∀ τ : St, ∀ v w', SRb E β F τ a w' → SRb E β F τ (a.put o.dst v) w' := fun τ v w' h => by rw [hdn]; exact h
 rcases MR.find 0 e3 (s := s) with ⟨q1, q2⟩ | ⟨x', i, v', e, q1, q2, q3, q4, q5⟩
 · rw [q2] at hdel
   dsimp only at hdel
   refine ⟨.tuple #[], _, ?_, hput _ _ _ (hS.updM (ms' := ms) (ck' := ck) hj e1 e2 hdel (delM_perm ep hnd _) (delM_nodup hnd _).1 est)⟩
   simp [execOp, hop, resolve, hc, hca, hct, invoke, builtin, he1, h2, Builtin.delete_, run_underlying ht, run_getM e2, run_checkKey hk, run_find hk q2, run_setM _ e2]
 · rw [q2] at hdel
   dsimp only at hdel
   refine ⟨.tuple #[], _, ?_, hput _ _ _ (hS.updM (ms' := ms.eraseIdxIfInBounds i) (ck' := ck) hj e1 e2 (by simpa using hdel.2) (delM_perm ep hnd _) (delM_nodup hnd _).1 (Go.MapKept.stamped_erase est i))⟩
   simp [execOp, hop, resolve, hc, hca, hct, invoke, builtin, he1, h2, Builtin.delete_, run_underlying ht, run_getM e2, run_checkKey hk, run_find hk q2, run_setM _ e2]
theorem opy_lenM {c : Call} {x : Operand} {px : List Prop} {j : Nat} {es : MapL} {t kt et : TypeId} (hop : o.op = .call c) (hc : c.callee = .builtin .len) (ha : c.args.toList = [x]) (hty : c.argTypes.toList = [t]) (ht : P.underlying t = some (.map kt et)) (hx : ox σ x = (px, .c (.map j))) (hj : σ.hp j = .map es) (hp : AllP px) : OpY P E o σ (lv (.int .i64 (es.length : Int))) := by
 refine opy_val fun β F a w hS => ?_
 have h1 := oxR hS x
 rw [hx] at h1
 have h1 := h1 hp
 generalize he1 : a.eval x = v1 at h1
 dsimp only at h1
 cases h1 with | c h1 =>
 obtain ⟨g, ms, ck, e1, rfl, e2, est, hnd, es1, ep, e3⟩ := map_get hS hj h1
 have hca : c.args = #[x] := by apply Array.toList_inj.1; simpa using ha
 have hct : c.argTypes = #[t] := by apply Array.toList_inj.1; simpa using hty
 have hl : ms.size = es.length := by have := e3.to.1; rw [ep.length_eq] at this; simpa using this
 refine ⟨_, w, F, ?_, .refl w, fun _ h => h, fun _ h => .inl h, .c (.lf (.v _ rfl))⟩
 simp [execOp, hop, resolve, hc, hca, hct, invoke, builtin, he1, Builtin.len_, run_underlying ht, run_getM e2, hl, goInt]
theorem s_makeMap {t : TypeId} (hop : o.op = .makeMap t none) (hg : o.guard = none) (hd : dstOk E.n o.dst = true)
   (hk : WL P E ops Q rest (((fresh σ o.dst).seth (nk o.dst 0) (.map [])).put o.dst (.c (.map (nk o.dst 0))))) : WL P E ops Q (o :: rest) σ := by
 refine WL_step hg _ (fun a w hS => ?_) hk
 obtain ⟨β, F, hS⟩ := hS
 obtain ⟨β', hS', h1, h2, h3⟩ := hS.fresh o.dst
 obtain ⟨hS2, h4⟩ := hS'.alloc h1 h2 h3 (.map #[] 0) (.map []) ⟨w.heap.size, #[], 0, by simp, heap_alloc_new w _, ⟨rfl, Go.MapKept.stamped_empty 0, List.nodup_nil⟩, fun i k x h => by simp at h⟩
 refine ⟨.map (some w.heap.size), w.alloc (.map #[] 0), ?_, _, F, hS2.put (.c (.map _ _ (by simp))) (dstOk_lt hd)⟩
 simp [execOp, hop, Instr.makeMap]
theorem mm1 {t : TypeId} {dd : Option Nat} (hk : WL P E ops Q rest (((σ.kill (nk dd 0)).seth (nk dd 0) (.map [])).put dd (.c (.map (nk dd 0))))) (hop : o.op = .makeMap t none := by exact rfl) (hg : o.guard = none := by exact rfl) (hdf : forceO o.dst some = some dd := by exact rfl) (hd : dstOk E.n dd = true := by rw [hn]; exact rfl) : WL P E ops Q (o :: rest) σ := by
 simp only [forceO_eq, Option.some.injEq] at hdf
 subst hdf
 exact s_makeMap hop hg hd hk
theorem lk1 {t kt et : TypeId} {x y : Operand} {ok : Bool} {dd : Option Nat} {px py : List Prop} {j : Nat} {es : MapL} {s : ByteArray} {r : Option Leaf} {z : Value} (hk : WL P E ops Q rest (σ.put dd (lkA ok r z))) (hop : o.op = .lookup t x y ok := by exact rfl) (hg : o.guard = none := by exact rfl) (hdf : forceO o.dst some = some dd := by exact rfl) (hd : dstOk E.n dd = true := by rw [hn]; exact rfl)
   (ht : P.underlying t = some (.map kt et) := by exact rfl) (hkt : P.underlying kt = some .string := by exact rfl) (hx : ox σ x = (px, .c (.map j)) := by exact rfl) (hj : σ.hp j = .map es := by exact rfl) (hy : ox σ y = (py, lv (.string s)) := by exact rfl) (hf : findM es s = r := by assumption) (hz : (P.info? et).bind (·.zero) = some z := by exact rfl) (hz1 : z.oneCell' = true := by exact rfl)
   (hp : AllP (px ++ py) := by exact vcs) : WL P E ops Q (o :: rest) σ := by
 simp only [forceO_eq, Option.some.injEq] at hdf
 subst hdf
 exact WL_q (opq_of (opy_lookup hop ht hkt hx hj hy hp hf hz hz1) hg) hd hk
theorem ln1 {t kt et : TypeId} {c : Call} {x : Operand} {dd : Option Nat} {px : List Prop} {j : Nat} {es : MapL}  (hk : WL P E ops Q rest (σ.put dd (lv (.int .i64 (es.length : Int))))) (hop : o.op = .call c := by exact rfl) (hc : c.callee = .builtin .len := by exact rfl) (ha : c.args.toList = [x] := by exact rfl) (hty : c.argTypes.toList = [t] := by exact rfl) (ht : P.underlying t = some (.map kt et) := by exact rfl) (hg : o.guard = none := by exact rfl) (hdf : forceO o.dst some = some dd := by exact rfl) (hd : dstOk E.n dd = true := by rw [hn]; exact rfl)
   (hx : ox σ x = (px, .c (.map j)) := by exact rfl) (hj : σ.hp j = .map es := by exact rfl) (hp : AllP px := by exact vcs) : WL P E ops Q (o :: rest) σ := by
 simp only [forceO_eq, Option.some.injEq] at hdf
 subst hdf
 exact WL_q (opq_of (opy_lenM hop hc ha hty ht hx hj hp) hg) hd hk
theorem ln2 {t kt et : TypeId} {c : Call} {x : Operand} {dd : Option Nat} {px : List Prop} {j : Nat} {es : MapL} {gi : Nat} {gb G : Bool} (hk : WL P E ops Q rest (σ.put dd (.cnd G (lv (.int .i64 (es.length : Int)))))) (hop : o.op = .call c := by exact rfl) (hc : c.callee = .builtin .len := by exact rfl) (ha : c.args.toList = [x] := by exact rfl) (hty : c.argTypes.toList = [t] := by exact rfl) (ht : P.underlying t = some (.map kt et) := by exact rfl) (hg : o.guard = some (gi, gb) := by exact rfl) (hG : guardC ops σ gi gb = some G := by exact rfl) (hdf : forceO o.dst some = some dd := by exact rfl) (hd : dstOk E.n dd = true := by rw [hn]; exact rfl)
   (hx : ox σ x = (px, .c (.map j)) := by exact rfl) (hj : σ.hp j = .map es := by exact rfl) (hp : G = true → AllP px := by intro hG; first | trivial | exact hG | exact ⟨hG, hG⟩ | (simp; done) | (simp at *; done) | fail) : WL P E ops Q (o :: rest) σ := by
 simp only [forceO_eq, Option.some.injEq] at hdf
 subst hdf
 exact WL_q (opq_ofG hg hG fun hh => opy_lenM hop hc ha hty ht hx hj (hp hh)) hd hk
theorem mu1 {t kt et : TypeId} {x y z : Operand} {px py pz : List Prop} {j : Nat} {es : MapL} {s : ByteArray} {v : Leaf} (hk : WL P E ops Q rest (σ.seth j (.map (setM es s v)))) (hop : o.op = .mapUpdate t x y z := by exact rfl) (hg : o.guard = none := by exact rfl) (hdn : o.dst = none := by exact rfl)
   (ht : P.underlying t = some (.map kt et) := by exact rfl) (hkt : P.underlying kt = some .string := by exact rfl) (hx : ox σ x = (px, .c (.map j)) := by exact rfl) (hj : σ.hp j = .map es := by exact rfl) (hy : ox σ y = (py, lv (.string s)) := by exact rfl) (hz : ox σ z = (pz, .c (.lf v)) := by exact rfl) (hp : AllP (px ++ (py ++ pz)) := by exact vcs) : WL P E ops Q (o :: rest) σ :=
 WL_skip hg _ (stb_mapU hop hdn ht hkt hx hj hy hz hp).k hk
section
variable {ns b own : List Nat} {bs : List (List Nat × List Nat)} {l : List Oper} {K : St → Prop}
theorem dlk1 {t kt et : TypeId} {x y : Operand} {ok : Bool} {dd : Option Nat} {px py : List Prop} {j : Nat} {es : MapL} {s : ByteArray} {r : Option Leaf} {z : Value} (hk : DrawU P E ops ns bs l (σ.put dd (lkA ok r z)) K) (hop : o.op = .lookup t x y ok := by exact rfl) (hg : o.guard = none := by exact rfl) (hdf : forceO o.dst some = some dd := by exact rfl) (hd : dstOk E.n dd = true := by rw [hn]; exact rfl)
   (ht : P.underlying t = some (.map kt et) := by exact rfl) (hkt : P.underlying kt = some .string := by exact rfl) (hx : ox ⟨σ.tm, fgt b σ.hp⟩ x = (px, .c (.map j)) := by exact rfl) (hj : fgt b σ.hp j = .map es := by exact rfl) (hy : ox ⟨σ.tm, fgt b σ.hp⟩ y = (py, lv (.string s)) := by exact rfl) (hf : findM es s = r := by assumption) (hz : (P.info? et).bind (·.zero) = some z := by exact rfl) (hz1 : z.oneCell' = true := by exact rfl)
   (hp : AllP (px ++ py) := by exact vcs) : DrawU P E ops ns ((b, own) :: bs) (o :: l) σ K := by
 exact DU_op hdf hd (ops_of (opys_lookup hop ht hkt hx hj hy hp hf hz hz1) hg) hk
theorem dde1 {t kt et tk : TypeId} {c : Call} {x y : Operand} {px py : List Prop} {j : Nat} {es : MapL} {s : ByteArray} (hk : DrawU P E ops ns bs l (σ.seth j (.map (delM es s))) K) (hop : o.op = .call c := by exact rfl) (hc : c.callee = .builtin .delete := by exact rfl) (ha : c.args.toList = [x, y] := by exact rfl) (hty : c.argTypes.toList = [t, tk] := by exact rfl) (hg : o.guard = none := by exact rfl) (hdn : o.dst = none := by exact rfl)
   (ht : P.underlying t = some (.map kt et) := by exact rfl) (hkt : P.underlying kt = some .string := by exact rfl) (hx : ox σ x = (px, .c (.map j)) := by exact rfl) (hj : σ.hp j = .map es := by exact rfl) (hy : ox σ y = (py, lv (.string s)) := by exact rfl) (hb : memB j b = false := by exact rfl) (ho : memB j own = true := by exact rfl) (hp : AllP (px ++ py) := by exact vcs) : DrawU P E ops ns ((b, own) :: bs) (o :: l) σ K := by
 have hmem : ∀ z, z = x ∨ z = y → z ∈ o.op.operands.toList := by
   intro z hz
   have hca : c.args = #[x, y] := by apply Array.toList_inj.1; simpa using ha
   rw [hop]
   rcases hz with rfl | rfl <;> simp [Op.operands, Call.operands, hca, hc]
 refine DU_step (stepU_sv hg hdn hb fun τ hox hjτ => stb_del hop hc ha hty hdn ht hkt ((hox x (hmem x (.inl rfl))).trans hx) (hjτ.trans hj) ((hox y (hmem y (.inr rfl))).trans hy) hp) (own1 ho (by simp)) ?_
 rw [upd1, hdn]
 exact hk
theorem dmu1 {t kt et : TypeId} {x y z : Operand} {px py pz : List Prop} {j : Nat} {es : MapL} {s : ByteArray} {v : Leaf} (hk : DrawU P E ops ns bs l (σ.seth j (.map (setM es s v))) K) (hop : o.op = .mapUpdate t x y z := by exact rfl) (hg : o.guard = none := by exact rfl) (hdn : o.dst = none := by exact rfl)
   (ht : P.underlying t = some (.map kt et) := by exact rfl) (hkt : P.underlying kt = some .string := by exact rfl) (hx : ox σ x = (px, .c (.map j)) := by exact rfl) (hj : σ.hp j = .map es := by exact rfl) (hy : ox σ y = (py, lv (.string s)) := by exact rfl) (hz : ox σ z = (pz, .c (.lf v)) := by exact rfl) (hb : memB j b = false := by exact rfl) (ho : memB j own = true := by exact rfl) (hp : AllP (px ++ (py ++ pz)) := by exact vcs) : DrawU P E ops ns ((b, own) :: bs) (o :: l) σ K := by
 refine DU_step (stepU_st hg hdn hb fun τ hox hjτ => stb_mapU hop hdn ht hkt ((hox x (by rw [hop]; simp [Op.operands])).trans hx) (hjτ.trans hj) ((hox y (by rw [hop]; simp [Op.operands])).trans hy) ((hox z (by rw [hop]; simp [Op.operands])).trans hz) hp) (own1 ho (by simp)) ?_
 rw [upd1, hdn]
 exact hk
end
end
theorem nxm {A B : Prop} (h : B) (k : B → A := by first
 | exact fun h => stp h | exact fun h => mm1 h | exact fun h => lk1 h | exact fun h => ln1 h | exact fun h => ln2 h | exact fun h => mu1 h | exact fun h => dlk1 h | exact fun h => dmu1 h | exact fun h => dde1 h | exact fun h => N_block_pass rfl h | exact fun h => sp1 h | exact fun h => sg1 h | exact fun h => st1 h | exact fun h => al1 h | exact fun h => bx1 h | exact fun h => ca1 h | exact fun h => cg1 h | exact fun h => eq1 h | exact fun h => eg1 h | exact fun h => cl1 true h | exact fun h => ck1 true h | exact fun h => cb2 h | exact fun h => cb1 h
 | exact fun h => dup1 h | exact fun h => dug1 h | exact fun h => dus1 h | exact fun h => dua1 h | exact fun h => duc1 h | exact fun h => duh1 h | exact fun h => due1 h | exact fun h => duf1 h | exact fun h => dul1 true h | exact fun h => duk1 true h | exact fun h => DU_nil h | exact fun h => du1 h | exact fun h => sl1 h | exact fun h => dsl1 h | exact fun h => lo0 h | exact fun h => li1 h | exact fun h => ap1 h | exact fun h => ar1 h | exact fun h => lm1 h | exact fun h => im1 h | exact fun h => sm1 h | exact fun h => lm2 h | exact fun h => im2 h | exact fun h => dlm1 h | exact fun h => dlm2 h | exact fun h => dim1 h | exact fun h => dim2 h | exact fun h => dsm1 h | exact fun h => dp1 h | exact fun h => dg1 h | exact fun h => DrawW_nil h | exact fun h => wl1 h | exact fun h => wi1 h | exact fun h => wli h | exact fun h => wc1 h | exact fun h => an1 h | exact fun h => dan1 h | exact fun h => dai1 h | exact fun h => dar1 h | exact fun h => ddi1 h | exact fun h => ddr1 h | exact fun h => dlo1 h | exact fun h => dli1 h | exact fun h => ig1 h | exact fun h => dig1 h | exact fun h => np1 h | exact fun h => cl1 false h | exact fun h => ck1 false h | exact fun h => dul1 false h | exact fun h => duk1 false h | exact fun h => xb1 h | exact fun h => xb2 h | exact fun h => xs1 h | exact fun h => xs2 h | exact fun h => dxb1 h | exact fun h => dxb2 h | exact fun h => dxs1 h | exact fun h => dxs2 h | exact fun h => cdT h | exact fun h => cdF h) : A := k h
end Go.Sx

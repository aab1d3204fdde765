/-
  A row turned about, in place. The conditions: rows of at most a million bytes.
-/
import Derived.Test.YtohfhephkjihfaaDoorSxK
import Derived.Laws.StructEq
import Derived.Scope
import Derived.Test.YtohfhephkjihfaaDoorTy
import Derived.Test.YtohfhephkjihfaaDoorSxX
namespace Go.Sx
open Go
set_option linter.unusedVariables false
set_option linter.unusedSimpArgs false
theorem SRb.freeze0 {E : Env} {β : Nat → Option Nat} {F : Nat → Prop} {σ : St} {a : Act} {w : World} (h : SRb E β F σ a w) {j : Nat} {d : Leaf} (hj : σ.hp j = .row d) (hjn : E.nb ≤ j) (hl : ∀ i, i < E.nb → σ.hp i ≠ .gone) :
   SRb E (fun i => if i = j then none else β i) (fun b => F b ∨ β j = some b) (σ.kill j) a w := by
 have hgone : σ.hp j ≠ .gone := by rw [hj]; intro h; cases h
 have hB := h.hp j
 rw [hj] at hB
 let β' : Nat → Option Nat := fun i => if i = j then none else β i
 let F' : Nat → Prop := fun b => F b ∨ β j = some b
 have hβ : ∀ i, i ≠ j → β' i = β i := fun i hi => if_neg hi
 have hk := h.kill j hjn
 have hF : ∀ b, F b → F' b := fun b hb => .inl hb
 -- the state with the block gone, in the greater F
 have hk2 : SRb E β' F' (σ.kill j) a w := by
   refine ⟨fun i => (hk.tm i).mono (fun _ _ h => h) (fun b hb => ⟨hF b hb, rfl⟩) (fun _ _ h => h), hk.sz, hk.df, fun i => ?_, hk.inj, fun i g hi e => ?_, hk.lt, fun b hb => ?_, hk.keep, hk.bb, hk.nbl⟩
   · have := hk.hp i
     revert this
     cases (σ.kill j).hp i with
     | gone => exact fun _ => trivial
     | map es =>
       rintro ⟨g, ms, ck, e1, e2, e3, e4⟩
       exact ⟨g, ms, ck, e1, e2, e3, fun i k x hx => let ⟨e, q1, q2, q3⟩ := e4 i k x hx; ⟨e, q1, q2, q3.mono fun b hb => ⟨hF b hb, rfl⟩⟩⟩
     | cells cs =>
       rintro ⟨g, cur, e1, e2, e3, e4⟩
       exact ⟨g, cur, e1, e2, e3, fun i x v hx hv => (e4 i x v hx hv).mono (fun _ _ h => h) (fun b hb => ⟨hF b hb, rfl⟩) (fun _ _ h => h)⟩
     | row d =>
       cases d with
       | ints k l => exact fun h => h
       | recs sz l =>
         rintro ⟨e1, e2⟩
         refine ⟨e1, ?_⟩
         rcases e2 with e2 | ⟨g, cur, e2, e3, e4⟩
         · exact .inl e2
         · refine .inr ⟨g, cur, e2, e3, fun i r k x hi hk => ?_⟩
           obtain ⟨u, hu, hl⟩ := e4 i r k x hi hk
           exact ⟨u, hu, hl.mono fun b hb => ⟨hF b hb, rfl⟩⟩
       | v => exact fun h => h
       | obj => exact fun h => h
   · obtain ⟨a1, a2, a3⟩ := hk.own i g hi e
     refine ⟨a1, a2, ?_⟩
     rintro (hf | hf)
     · exact a3 hf
     · have e : (if i = j then none else β i) = some g := e
       by_cases hij : i = j
       · simp [hij] at e
       · simp only [hij, if_false] at e
         have hi' : σ.hp i ≠ .gone := by
           simp only [St.kill, hij, decide_false] at hi
           exact Blk.kill_ne hi
         exact hij (h.inj i j g hi' hgone e hf)
   · rcases hb with hb | hb
     · exact h.fr b hb
     · obtain ⟨a1, a2, a3⟩ := h.own j b hgone hb
       refine ⟨a1, ?_⟩
       rcases a2 with a2 | a2
       · exact .inr a2
       · obtain ⟨i, hi, e⟩ := E.hM b a2
         have e' := h.bb i hi
         rw [e] at e'
         have := h.inj i j b (hl i hi) hgone e' hb
         omega
 exact hk2
section
variable {P : Program} {E : Env} {ops : Array Oper} {Q : Exit → Act → World → Prop} {rest : List Oper} {o : Oper} {σ : St} {x : Av}
theorem SR.freezeC {a : Act} {w : World} (j K : Nat) {d : Leaf} {cs cs' : List Cell} (hj : σ.hp j = .row d) (hK : σ.hp K = .cells cs) (hne : Nat.beq K j = false) (hjn : E.nb ≤ j) (hl : ∀ i, i < E.nb → σ.hp i ≠ .gone) (hf : FrzCs d j cs cs') (h : SR E σ a w) :
   SR E ((σ.kill j).seth K (.cells cs')) a w := by
 obtain ⟨β, F, h⟩ := h
 have hKj : K ≠ j := fun e => by rw [e] at hne; simp at hne
 have h0 := h.freeze0 hj hjn hl
 have hB := h.hp j
 rw [hj] at hB
 have hC := h.hp K
 rw [hK] at hC
 obtain ⟨g, cur, e1, e2, e3, e4⟩ := hC
 obtain ⟨h1, h2⟩ := hf.get
 refine ⟨_, _, h0.setBlk ?_ ⟨g, cur, (if_neg hKj).trans e1, e2, by omega, fun i c' v hc hv => ?_⟩⟩
 · show (match decide (K = j) with | true => Blk.gone | false => (σ.hp K).kill j) ≠ .gone
   simp only [hKj, decide_false, hK]
   intro h; cases h
 · obtain ⟨c, hc2, hfc⟩ := h2 i c' hc
   exact hfc.sound (β' := fun i => if i = j then none else β i) (F' := fun b => F b ∨ β j = some b) hB (fun g hg => .inr hg) (fun b hb => .inl hb) (fun i hi => if_neg hi) (e4 i c v hc2 hv)
def eqCs : List Cell → List Cell → Bool
 | .lf (.v (.int _ a)) :: xs, .lf (.v (.int _ b)) :: ys => (a == b) && eqCs xs ys
 | .lf (.v (.bool a)) :: xs, .lf (.v (.bool b)) :: ys => (a == b) && eqCs xs ys
 | _, _ => true
def eqOk (P : Program) : List Field → Nat → List Cell → List Cell → Prop
 | [], _, [], [] => True
 | f :: fs, i, .lf (.v (.int k a)) :: xs, .lf (.v (.int k' b)) :: ys => (f.name ≠ "_" ∧ f.offset = i ∧ k = k' ∧ P.cellsOf f.type = 1 ∧ ∃ k2, P.underlying f.type = some (.int k2)) ∧ eqOk P fs (i + 1) xs ys
 | f :: fs, i, .lf (.v (.bool a)) :: xs, .lf (.v (.bool b)) :: ys => (f.name ≠ "_" ∧ f.offset = i ∧ P.cellsOf f.type = 1 ∧ P.underlying f.type = some .bool) ∧ eqOk P fs (i + 1) xs ys
 | _, _, _, _ => False
theorem run_part_v {e : TypeId} (he : (P.underlying e).isSome = true) (hi : (P.info? e).isSome = true) (ha : tagg P e = false) (w : World) (XS : Array Value) (v : Value) (i : Nat) (h : XS[i]? = some v) :
   (part e XS i).run P w = .ok v w := by
 have hlt := (Array.getElem?_eq_some_iff.1 h).1
 have hv : XS.getD i undef = v := by simp [Array.getD_eq_getD_getElem?, h]
 simp [part, run_isAgg' he, ha, hlt, ← hv]
theorem run_eqFields_s (w : World) (d : Nat) (XS YS : Array Value) : ∀ (fs : List Field) (i : Nat) (xs ys : List Cell), eqOk P fs i xs ys → (∀ (j : Nat) (x : Value), xs[j]? = some (.lf (.v x)) → XS[i + j]? = some x) → (∀ (j : Nat) (x : Value), ys[j]? = some (.lf (.v x)) → YS[i + j]? = some x) →
   (Op.eqFields (d + 1) XS YS fs).run P w = .ok (eqCs xs ys) w
 | [], i, xs, ys, h, hx, hy => by
   match xs, ys, h with
   | [], [], _ => simp [Op.eqFields, eqCs]
 | f :: fs, i, xs, ys, h, hx, hy => by
   match xs, ys, h with
   | .lf (.v (.int k a)) :: xs, .lf (.v (.int k' b)) :: ys, ⟨⟨h1, h2, h3, h4, k2, h5⟩, h6⟩ =>
     subst h3
     have ih := run_eqFields_s w d XS YS fs (i + 1) xs ys h6 (fun j x hj => by rw [show i + 1 + j = i + (j + 1) by omega]; exact hx (j + 1) x (by simpa using hj)) (fun j x hj => by rw [show i + 1 + j = i + (j + 1) by omega]; exact hy (j + 1) x (by simpa using hj))
     have hx0 := hx 0 _ rfl
     have hy0 := hy 0 _ rfl
     rw [Nat.add_zero] at hx0 hy0
     have hi := info_of_cells (P := P) (t := f.type) (by rw [h4]; decide)
     have ht : tagg P f.type = false := by simp [tagg, h5]
     have hs : (P.underlying f.type).isSome = true := by simp [h5]
     simp only [Op.eqFields, h1, ne_eq, not_false_eq_true, if_true, h2, Sem.run_bind, run_part_v hs hi ht w XS _ i hx0, run_part_v hs hi ht w YS _ i hy0, Result.andThen_ok, run_equalIn_int w d f.type k k2 a b h5]
     cases hab : (a == b) with
     | true => simp only [Bool.not_true, Bool.false_eq_true, if_false, ih, eqCs, hab, Bool.true_and]
     | false => simp only [Bool.not_false, if_true, Sem.run_pure, eqCs, hab, Bool.false_and]
   | .lf (.v (.bool a)) :: xs, .lf (.v (.bool b)) :: ys, ⟨⟨h1, h2, h4, h5⟩, h6⟩ =>
     have ih := run_eqFields_s w d XS YS fs (i + 1) xs ys h6 (fun j x hj => by rw [show i + 1 + j = i + (j + 1) by omega]; exact hx (j + 1) x (by simpa using hj)) (fun j x hj => by rw [show i + 1 + j = i + (j + 1) by omega]; exact hy (j + 1) x (by simpa using hj))
     have hx0 := hx 0 _ rfl
     have hy0 := hy 0 _ rfl
     rw [Nat.add_zero] at hx0 hy0
     have hi := info_of_cells (P := P) (t := f.type) (by rw [h4]; decide)
     have ht : tagg P f.type = false := by simp [tagg, h5]
     have hs : (P.underlying f.type).isSome = true := by simp [h5]
     simp only [Op.eqFields, h1, ne_eq, not_false_eq_true, if_true, h2, Sem.run_bind, run_part_v hs hi ht w XS _ i hx0, run_part_v hs hi ht w YS _ i hy0, Result.andThen_ok, run_equalIn_bool' w d f.type a b h5]
     cases hab : (a == b) with
     | true => simp only [Bool.not_true, Bool.false_eq_true, if_false, ih, eqCs, hab, Bool.true_and]
     | false => simp only [Bool.not_false, if_true, Sem.run_pure, eqCs, hab, Bool.false_and]
theorem opy_eqS {t t' : TypeId} {neg : Bool} {y z : Operand} {p q : List Prop} {l m : List Cell} (hop : o.op = .binOp (if neg then .neq else .eql) t y z t') (ht : P.underlying t = some (.struct (P.fieldsOf t))) (hst : P.stoodInHeld t = false)
   (hy : ox σ y = (p, .agg l)) (hz : ox σ z = (q, .agg m)) (hp : AllP (p ++ q)) (hg : P.eqGuardType P.depth t = false) (hok : eqOk P (P.fieldsOf t).toList 0 l m) : OpY P E o σ (lv (.bool ((eqCs l m) != neg))) := by
 refine opy_val fun β F a w hS => ?_
 have h1 := oxR hS y
 rw [hy] at h1
 have h1 := h1 hp.left
 have h2 := oxR hS z
 rw [hz] at h2
 have h2 := h2 hp.right
 generalize he1 : a.eval y = v1 at h1
 generalize he2 : a.eval z = v2 at h2
 dsimp only at h1 h2
 cases h1 with | agg _ XS x1 x2 =>
 cases h2 with | agg _ YS y1 y2 =>
 have key : ∀ {cs : List Cell} {CS : Array Value}, CS.size = cs.length → (∀ (i : Nat) (x : Cell) (v : Value), cs[i]? = some x → CS[i]? = some v → CellR β F w x v) → ∀ (j : Nat) (x : Value), cs[j]? = some (.lf (.v x)) → CS[0 + j]? = some x := by
   intro cs CS h1 h2 j x hj
   have hlt := (List.getElem?_eq_some_iff.1 hj).1
   have := h2 j _ CS[j] hj (by simp [h1, hlt])
   rw [Nat.zero_add]
   generalize hu : CS[j] = u at this
   cases this with | lf h => cases h with | v _ h => simp [h1, hlt, hu]
 have hrun : (Op.equalIn 10000 t (.agg XS) (.agg YS)).run P w = .ok (eqCs l m) w := by
   show (Op.equalIn (9999 + 1) t _ _).run P w = _
   rw [run_equalIn_struct w 9999 t XS YS ht hst, run_eqFields_s w 9998 XS YS _ 0 l m hok (key x1 x2) (key y1 y2)]
 refine ⟨.bool ((eqCs l m) != neg), w, F, ?_, .refl w, fun _ h => h, fun _ h => .inl h, .c (.lf (.v _ rfl))⟩
 cases neg
 · simp only [Bool.false_eq_true, if_false] at hop
   simp only [execOp, hop, he1, he2]
   refine run_v ?_
   simp [run_eqGuard_agg w _ t y z _ _ hg, run_eql_struct, hrun]
 · simp only [if_true] at hop
   simp only [execOp, hop, he1, he2]
   refine run_v ?_
   simp [run_eqGuard_agg w _ t y z _ _ hg, run_neq_struct, hrun]
end
end Go.Sx

namespace Go.Proofs.YtohfhephkjihfaaDoor
set_option linter.unusedSimpArgs false
set_option linter.unusedVariables false
open Go.Sx
set_option maxRecDepth 10000
abbrev curL (l : List Int) (p : Nat) : List Leaf := [.ints .u8 l, .v (.int .i64 (p : Int))]
abbrev curD (l : List Int) (p : Nat) : Av := .c (.lf (.obj (curL l p)))
abbrev curB (l : List Int) (p : Nat) : Blk := .cells [.lf (.ints .u8 l), .lf (.v (.int .i64 (p : Int)))]
theorem size_ok (l : List Int) (p : Nat) : Ct Tryd.prog 45 [curD l p] [] (lv (.int .i64 (l.length : Int))) [] [] := by
 refine Ct_intro Tryd.func45 rfl rfl rfl rfl rfl (fun E hn hb => ?_)
 repeat (refine nst ?_)
 exact rt1 []
theorem left_ok (l : List Int) (p : Nat) (hp : p ≤ l.length) (hl : l.length ≤ 9223372036854775807) : Ct Tryd.prog 32 [curD l p] [] (lv (.int .i64 ((l.length : Int) - (p : Int)))) [] [] := by
 have e : IntKind.i64.wrap ((l.length : Int) - (p : Int)) = (l.length : Int) - (p : Int) := by simp [IntKind.wrap, IntKind.signed, IntKind.bits]; omega
 refine Ct_intro Tryd.func32 rfl rfl rfl rfl rfl (fun E hn hb => ?_)
 repeat (refine nst ?_)
 refine WL_q (opq_of (opy_nilP (neg := false) rfl rfl rfl rfl (by exact vcs)) rfl) (by rw [hn]; rfl) ?_
 repeat (refine nst ?_)
 refine W_cond rfl (by simp) (fun h1 => ?_) (fun h1 => ?_)
 · simp at h1
 repeat (refine nst ?_)
 refine W_drawP (by kernel_rfl) (by kernel_rfl) (by rw [hn]; rfl) ?_
 repeat (first | refine dp1 ?_ | refine dg1 ?_ | refine DrawW_nil ?_)
 refine DrawW_cons rfl (ops_of (opys_call (size_ok l p) rfl rfl rfl (by exact vcs) rfl rfl rfl) rfl) ?_
 repeat (first | refine dp1 ?_ | refine dg1 ?_ | refine DrawW_nil ?_)
 repeat (refine nst ?_)
 exact rt1 []
theorem peek_ok (l : List Int) (p : Nat) (hp : p < l.length) (hl : l.length ≤ 9223372036854775807) : Ct Tryd.prog 58 [curD l p] [] (.tup [lv (.int .u8 (l.getD p 0)), lv (.int .i64 0)]) [] [] := by
 refine Ct_intro Tryd.func58 rfl rfl rfl rfl rfl (fun E hn hb => ?_)
 repeat (refine nst ?_)
 refine WL_q (opq_of (opy_nilP (neg := false) rfl rfl rfl rfl (by exact vcs)) rfl) (by rw [hn]; rfl) ?_
 repeat (refine nst ?_)
 refine W_cond rfl (by simp) (fun h1 => ?_) (fun h1 => ?_)
 · simp at h1
 repeat (refine nst ?_)
 refine s_call0 (left_ok l p (by omega) hl) rfl rfl rfl (by rw [hn]; rfl) rfl rfl (by exact vcs) rfl rfl rfl ?_
 repeat (refine nst ?_)
 refine W_cond rfl (by simp) (fun h3 => ?_) (fun h3 => ?_)
 · simp at h3; omega
 repeat (refine nst ?_)
 refine W_drawW 13 (by kernel_rfl) (by kernel_rfl) (by kernel_rfl) (by rw [hn]; rfl) rfl rfl ?_
 repeat (first | refine dp1 ?_ | refine dg1 ?_ | refine DrawW_nil ?_)
 repeat (refine nst ?_)
 refine rt2 [] ?_ ?_
 · show Av.tup [lv (.int .u8 (l.getD (p : Int).toNat 0)), lv (.int .i64 0)] = _
   rw [Int.toNat_natCast]
   rfl
 · trivial

abbrev B8 (l : List Int) : Av := .c (.lf (.ints .u8 l))
def cmpL : List Int → List Int → Int
 | [], [] => 0
 | [], _ :: _ => -1
 | _ :: _, [] => 1
 | x :: a, y :: b => if x < y then -1 else if y < x then 1 else cmpL a b
theorem cmpL_eq : ∀ a b : List Int, cmpL a b = 0 ↔ a = b
 | [], [] => by simp [cmpL]
 | [], y :: b => by simp [cmpL]
 | x :: a, [] => by simp [cmpL]
 | x :: a, y :: b => by
   simp only [cmpL, List.cons.injEq]
   rw [← cmpL_eq a b]
   split
   · simp; omega
   · split
     · simp; omega
     · have : x = y := by omega
       simp [this]

theorem curnew_ok (l : List Int) (hl : l.length ≤ 1000000) : Ct Tryd.prog 15 [B8 l] [] (.c (.ptr 0 0)) [] [curB l 0] := by
 refine Ct_intro Tryd.func15 rfl rfl rfl rfl rfl (fun E hn hb => ?_)
 repeat (refine nst ?_)
 refine s_boxN rfl rfl rfl (by rw [hn]; rfl) rfl (by exact vcs) rfl rfl ?_
 repeat (refine nst ?_)
 refine s_makeI (by_ := 1) rfl rfl rfl (by rw [hn]; rfl) (elt_mk Tryd.underlying33 rfl rfl) rfl rfl rfl (by exact vcs) l.length (by first | rfl | (simp; done) | omega) (by first | (simp; done) | omega | (simp at *; omega)) ?_
 repeat (refine nst ?_)
 refine s_storeN rfl rfl rfl rfl rfl (by exact vcs) rfl rfl rfl (by rw [cellsOf33]; rfl) (by rw [info33]; rfl) rfl rfl ?_
 repeat (refine nst ?_)
 refine s_copyI rfl rfl rfl rfl rfl rfl (by rw [hn]; rfl) (elt_mk Tryd.underlying33 rfl rfl) rfl rfl rfl (by exact vcs) (by first | (simp; done) | (simp; omega) | (simp at *; omega)) ?_
 have e4 : List.take 0 (List.replicate l.length (0 : Int)) ++ List.take l.length l ++ List.drop (0 + (List.take l.length l).length) (List.replicate l.length (0 : Int)) = l := by
   simp
 rw [e4]
 refine WL_sr (fun a w h => SR.freezeC (d := .ints .u8 l) (cs := [.own 73 1 0 l.length, .lf (.v (.int .i64 0))]) (cs' := [.lf (.ints .u8 l), .lf (.v (.int .i64 0))]) 73 69 rfl rfl rfl (by rw [hb]; decide) (fun i hi => by rw [hb] at hi; exact absurd hi (Nat.not_lt_zero _)) ⟨⟨rfl, rfl, rfl, by omega, by rw [List.drop_zero, List.take_length]⟩, rfl, trivial⟩ h) ?_
 repeat (refine nst ?_)
 exact rt1 [69]
theorem byte_ok (l : List Int) (p : Nat) (hp : p < l.length) (hl : l.length ≤ 1000000) : Ct Tryd.prog 44 [.c (.ptr 0 0)] [curB l p] (.tup [lv (.int .u8 (l.getD p 0)), lv (.int .i64 0)]) [curB l (p + 1)] [] := by
 have e : ((p : Int) + 1) = ((p + 1 : Nat) : Int) := by omega
 refine Ct_intro Tryd.func44 rfl rfl rfl rfl rfl (fun E hn hb => ?_)
 repeat (refine nst ?_)
 refine WL_q (opq_of (opy_callL (peek_ok l p hp (by omega)) rfl rfl rfl (by exact vcs) ⟨.inr (.inr ⟨0, 0, _, _, rfl, rfl, rfl, rfl⟩), trivial⟩ rfl) rfl) (by rw [hn]; rfl) ?_
 repeat (refine nst ?_)
 refine W_cond rfl (by simp) (fun h1 => ?_) (fun h1 => ?_)
 · repeat (refine nst ?_)
   refine s_storeN rfl rfl rfl rfl rfl (by exact vcs) rfl rfl rfl (by rw [cellsOf3]; rfl) (by rw [info3]; rfl) rfl rfl ?_
   repeat (refine nst ?_)
   refine rt2 [] ?_ ?_
   · rfl
   · trivial
 · simp at h1

@[simp] theorem wrapE8 (x : Int) : IntKind.u8.wrap x = x % 256 := by simp [IntKind.wrap, IntKind.signed, IntKind.bits]
def WfB (l : List Int) : Prop := ∀ x ∈ l, 0 ≤ x ∧ x < 256

def dig (n : Int) : Int := if n < 10 then 48 + n else 87 + n
theorem digit_ok (n : Int) (h : 0 ≤ n ∧ n < 16) : Ct Tryd.prog 43 [lv (.int .u8 n)] [] (lv (.int .u8 (dig n))) [] [] := by
 refine Ct_intro Tryd.func43 rfl rfl rfl rfl rfl (fun E hn hb => ?_)
 repeat (refine nst ?_)
 refine W_cond rfl (by simp) (fun hc => ?_) (fun hc => ?_)
 · have h1 : n < 10 := by simpa using hc
   repeat (refine nst ?_)
   refine rt2 [] ?_ ?_
   · simp only [dig, h1, if_true]; rfl
   · trivial
 · have h1 : ¬ n < 10 := by simpa using hc
   have e : 97 + n - 10 = 87 + n := by omega
   repeat (refine nst ?_)
   refine rt2 [] ?_ ?_
   · simp only [dig, h1, if_false, e]; rfl
   · trivial
def hexL (l : List Int) : List Int := l.flatMap fun c => [dig (c / 16), dig (c % 16)]
theorem hexL_len (l : List Int) : (hexL l).length = 2 * l.length := by
 induction l with
 | nil => rfl
 | cons x l ih => simp only [hexL, List.flatMap_cons] at *; simp [ih]; omega
theorem and15 (n : Int) (h : 0 ≤ n ∧ n < 256) : IntKind.u8.wrap (BitVec.ofInt IntKind.u8.bits n &&& BitVec.ofInt IntKind.u8.bits 15).toNat = n % 16 := by
 obtain ⟨m, rfl⟩ : ∃ m : Nat, n = m := ⟨n.toNat, by omega⟩
 have key : ∀ m : Fin 256, IntKind.u8.wrap (BitVec.ofInt IntKind.u8.bits ((m.val : Nat) : Int) &&& BitVec.ofInt IntKind.u8.bits 15).toNat = ((m.val : Nat) : Int) % 16 := by decide
 exact key ⟨m, by omega⟩
theorem hex_ok (l : List Int) (hl : l.length ≤ 100000) (hw : WfB l) : Ct Tryd.prog 25 [B8 l] [] (lv (.string (strOfNums (hexL l)))) [] [] := by
 refine Ct_intro Tryd.func25 rfl rfl rfl rfl rfl (fun E hn hb => ?_)
 repeat (refine nst ?_)
 refine s_makeI (by_ := 1) rfl rfl rfl (by rw [hn]; rfl) (elt_mk Tryd.underlying33 rfl rfl) rfl rfl rfl (by exact vcs) 0 (by first | rfl | (simp; done) | omega) (by first | (simp; done) | omega | (simp at *; omega)) ?_
 repeat (refine nst ?_)
 refine W_weaken (St.le_of (l := [(3, .c (.own 73 1 0 0)), (10, B8 l), (11, lv (.int .i64 (l.length : Int))), (12, lv (.int .i64 0))]) (h := [(73, .row (.ints .u8 []))]) (by refine ⟨?_, ?_⟩ <;> (repeat' (first | exact trivial | exact rfl | refine ⟨?_, ?_⟩)) <;> first | exact rfl | (simp; done) | skip)) ?_
 refine W_loop (ι := {i : Nat // i ≤ l.length}) (fun i => St.of [(3, .c (.own 73 1 0 (hexL (l.take i.1)).length)), (10, B8 l), (11, lv (.int .i64 (l.length : Int))), (12, lv (.int .i64 (i.1 : Int)))] [(73, .row (.ints .u8 (hexL (l.take i.1))))]) (fun i => l.length - i.1) (fun i => ?_) ⟨0, by omega⟩
 obtain ⟨i, hi⟩ := i
 dsimp only
 have hhl := hexL_len (l.take i)
 have htl : (l.take i).length ≤ l.length := by simp; omega
 repeat (refine nst ?_)
 refine W_cond rfl (by simp) (fun hc => ?_) (fun hc => ?_)
 · have hi8 : i < l.length := by simp at hc; omega
   have hg : l.getD (i : Int).toNat 0 = l[i] := by simp [hi8]
   have hx := hw l[i] (List.getElem_mem hi8)
   have e4 : l[i] / 2 ^ min (Int.toNat 4) IntKind.u8.bits = l[i] / 16 := by simp [IntKind.bits]
   repeat (refine nst ?_)
   rw [hg]
   repeat (refine nst ?_)
   rw [e4]
   refine s_call0 (digit_ok (l[i] / 16) (by omega)) rfl rfl rfl (by rw [hn]; rfl) rfl rfl (by exact vcs) rfl rfl rfl ?_
   repeat (refine nst ?_)
   rw [and15 _ hx]
   refine s_call0 (digit_ok (l[i] % 16) (by omega)) rfl rfl rfl (by rw [hn]; rfl) rfl rfl (by exact vcs) rfl rfl rfl ?_
   refine s_litI rfl rfl rfl (by rw [hn]; rfl) (elt_mk Tryd.underlying33 rfl rfl) (zok5) (by exact vcs) ⟨by decide, rfl⟩ ?_
   refine s_appI rfl rfl rfl rfl rfl rfl (by rw [hn]; rfl) (elt_mk Tryd.underlying33 rfl rfl) rfl rfl rfl rfl (by exact vcs) (by first | rfl | (simp; done) | (simp; omega)) ⟨by first | (simp; done) | (simp; omega) | (simp at *; omega), by decide⟩ ?_
   repeat (refine nst ?_)
   have eT : l.take (i + 1) = l.take i ++ [l[i]] := by rw [List.take_add_one, List.getElem?_eq_getElem hi8]; rfl
   have eH : hexL (l.take (i + 1)) = hexL (l.take i) ++ [dig (l[i] / 16), dig (l[i] % 16)] := by rw [eT]; simp only [hexL, List.flatMap_append, List.flatMap_cons, List.flatMap_nil, List.append_nil]
   refine N_round ⟨i + 1, by omega⟩ (by dsimp only; omega) (St.le_of ⟨⟨?_, rfl, rfl, rfl⟩, ?_⟩)
   · show Av.c (.own 73 1 0 (hexL (l.take i) ++ [dig (l[i] / 16), dig (l[i] % 16)]).length) = Av.c (.own 73 1 0 (hexL (l.take (i + 1))).length)
     rw [eH]
   · show Blk.row (.ints .u8 (hexL (l.take i) ++ [dig (l[i] / 16), dig (l[i] % 16)])) = Blk.row (.ints .u8 (hexL (l.take (i + 1))))
     rw [eH]
 · have : i = l.length := by simp at hc; omega
   subst this
   repeat (refine nst ?_)
   refine WL_q (opq_of (opy_str rfl Tryd.underlying33 Tryd.underlying5 Tryd.underlying9 rfl (by exact vcs)) rfl) (by rw [hn]; rfl) ?_
   repeat (refine nst ?_)
   refine rt2 [] ?_ ?_
   · have e : (hexL (l.take l.length)).take (hexL (l.take l.length)).length = hexL l := by rw [List.take_length, List.take_length]
     exact congrArg (fun l => lv (.string (strOfNums l))) e
   · trivial

def hd0 (l : List Int) : Int := l.getD 0 0

def revA (l : List Int) (i : Nat) : List Int := (List.range l.length).map fun k => if k < i ∨ l.length ≤ k + i then l.getD (l.length - 1 - k) 0 else l.getD k 0
theorem revA_len (l : List Int) (i : Nat) : (revA l i).length = l.length := by simp [revA]
theorem revA_get (l : List Int) (i k : Nat) (h : k < l.length) : (revA l i).getD k 0 = if k < i ∨ l.length ≤ k + i then l.getD (l.length - 1 - k) 0 else l.getD k 0 := by
 simp [revA, h]
theorem revA_zero (l : List Int) : revA l 0 = l := by
 apply List.ext_getElem?
 intro k
 by_cases h : k < l.length
 · simp [revA, h]; intro; omega
 · simp [revA, h]
theorem revA_all (l : List Int) (i : Nat) (h : l.length ≤ 2 * i + 1) : revA l i = l.reverse := by
 apply List.ext_getElem?
 intro k
 by_cases hk : k < l.length
 · rw [List.getElem?_reverse hk]
   simp only [revA, List.getElem?_map, List.getElem?_range hk, Option.map_some]
   have h1 : l.length - 1 - k < l.length := by omega
   rw [List.getElem?_eq_getElem h1]
   split
   · simp [h1]
   · have : l.length - 1 - k = k := by omega
     simp [this, hk]
 · simp [revA, hk]
theorem revA_set (l : List Int) (i : Nat) (h : 2 * i + 1 < l.length) : ((revA l i).set i (l.getD (l.length - 1 - i) 0)).set (l.length - 1 - i) (l.getD i 0) = revA l (i + 1) := by
 apply List.ext_getElem?
 intro k
 by_cases hk : k < l.length
 · simp only [List.getElem?_set, revA, List.getElem?_map, List.getElem?_range hk, Option.map_some, List.length_set, List.length_map, List.length_range]
   by_cases h1 : l.length - 1 - i = k
   · subst h1
     have e : l.length - 1 - (l.length - 1 - i) = i := by omega
     rw [if_pos rfl, if_pos (by omega), e, if_pos (by omega)]
   · rw [if_neg h1]
     by_cases h2 : i = k
     · subst h2
       rw [if_pos rfl, if_pos (by omega), if_pos (by omega)]
     · rw [if_neg h2]
       congr 1
       by_cases h3 : k < i ∨ l.length ≤ k + i
       · rw [if_pos h3, if_pos (by omega)]
       · rw [if_neg h3, if_neg (by omega)]
 · simp [revA, hk]
theorem reverse_ok (l : List Int) (hl : l.length ≤ 1000000) : Ct Tryd.prog 28 [.c (.own 0 1 0 l.length)] [.row (.ints .u8 l)] (.tup []) [.row (.ints .u8 l.reverse)] [] := by
 refine Ct_intro Tryd.func28 rfl rfl rfl rfl rfl (fun E hn hb => ?_)
 repeat (refine nst ?_)
 have ez := revA_zero l
 refine W_weaken (St.le_of (l := [(0, .c (.own 0 1 0 l.length)), (2, lv (.int .i64 0)), (3, lv (.int .i64 ((l.length : Int) - 1)))]) (h := [(0, .row (.ints .u8 l))]) (by refine ⟨?_, ?_⟩ <;> (repeat' (first | exact trivial | exact rfl | refine ⟨?_, ?_⟩)) <;> first | exact rfl | (simp; done) | skip)) ?_
 refine W_weaken (τ := St.of [(0, .c (.own 0 1 0 l.length)), (2, lv (.int .i64 ((0 : Nat) : Int))), (3, lv (.int .i64 ((l.length : Int) - 1 - (0 : Nat))))] [(0, .row (.ints .u8 (revA l 0)))]) ?_ ?_
 · rw [ez]; simp only [Int.natCast_zero, Int.sub_zero]; exact ⟨fun _ => .inl rfl, fun _ => .inl rfl⟩
 refine W_loop (ι := {i : Nat // 2 * i ≤ l.length + 1}) (fun i => St.of [(0, .c (.own 0 1 0 l.length)), (2, lv (.int .i64 (i.1 : Int))), (3, lv (.int .i64 ((l.length : Int) - 1 - i.1)))] [(0, .row (.ints .u8 (revA l i.1)))]) (fun i => l.length + 1 - 2 * i.1) (fun i => ?_) ⟨0, by omega⟩
 obtain ⟨i, hi⟩ := i
 dsimp only
 have hL := revA_len l i
 repeat (refine nst ?_)
 refine W_cond rfl (by simp) (fun hc => ?_) (fun hc => ?_)
 · have h2 : 2 * i + 1 < l.length := by simp at hc; omega
   repeat (refine nst ?_)
   refine W_drawX [2, 3] (by kernel_rfl) (by kernel_rfl) (by rw [hn]; rfl) ?_
   repeat (refine nsx ?_)
   refine DrawX_storeI rfl rfl rfl rfl (by exact vcs) rfl (by rw [cellsOf5]) (by first | (simp; done) | (simp; omega) | (simp at *; omega)) ?_
   repeat (refine nsx ?_)
   refine DrawX_storeI rfl rfl rfl rfl (by exact vcs) rfl (by rw [cellsOf5]) (by first | (simp; done) | (simp; omega) | (simp at *; omega)) ?_
   repeat (refine nsx ?_)
   repeat (refine nst ?_)
   have e1 : ((l.length : Int) - 1 - i).toNat = l.length - 1 - i := by omega
   have g1 : (revA l i).getD (0 + ((l.length : Int) - 1 - i).toNat) 0 = l.getD (l.length - 1 - i) 0 := by
     rw [e1, Nat.zero_add, revA_get l i _ (by omega), if_neg (by omega)]
   have g2 : (revA l i).getD (0 + (i : Int).toNat) 0 = l.getD i 0 := by
     rw [Int.toNat_natCast, Nat.zero_add, revA_get l i _ (by omega), if_neg (by omega)]
   rw [g1, g2]
   refine N_round ⟨i + 1, by omega⟩ (by dsimp only; omega) (St.le_of ⟨⟨rfl, rfl, ?_⟩, ?_⟩)
   · show lv (.int .i64 ((l.length : Int) - 1 - i - 1)) = lv (.int .i64 ((l.length : Int) - 1 - (i + 1 : Nat)))
     have : (l.length : Int) - 1 - i - 1 = (l.length : Int) - 1 - (i + 1 : Nat) := by omega
     rw [this]
   · show Blk.row (.ints .u8 (((revA l i).set (0 + (i : Int).toNat) (l.getD (l.length - 1 - i) 0)).set (0 + ((l.length : Int) - 1 - i).toNat) (l.getD i 0))) = Blk.row (.ints .u8 (revA l (i + 1)))
     rw [e1, Int.toNat_natCast, Nat.zero_add, Nat.zero_add, revA_set l i h2]
 · have h2 : l.length ≤ 2 * i + 1 := by simp at hc; omega
   repeat (refine nst ?_)
   refine N_endN [] rfl trivial ⟨rfl, ?_, trivial, rfl⟩ hb rfl (by simp [ordL])
   exact congrArg (fun l => Blk.row (.ints .u8 l)) (revA_all l i h2)
end Go.Proofs.YtohfhephkjihfaaDoor

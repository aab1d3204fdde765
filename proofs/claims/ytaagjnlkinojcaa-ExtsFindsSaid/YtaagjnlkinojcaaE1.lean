/-
  Rows of structs of one's own: an element loaded, stored, a field of it loaded; the latter part cleared. No condition.
-/
import Derived.Test.YtaagjnlkinojcaaSxI
import Derived.Test.YtaagjnlkinojcaaSxX
import Derived.Test.YtaagjnlkinojcaaSxQ
namespace Go.Proofs.Ytaagjnlkinojcaa
set_option linter.unusedSimpArgs false
set_option linter.unusedVariables false
open Go.Sx
set_option maxRecDepth 10000
def hexV (c : Int) : Int := if 48 ≤ c ∧ c ≤ 57 then c - 48 else if 97 ≤ c ∧ c ≤ 102 then c - 97 + 10 else 16
theorem value_ok (c : Int) (hc : 0 ≤ c ∧ c < 256) : Ct Try.prog 45 [lv (.int .u8 c)] [] (lv (.int .u8 (hexV c))) [] [] := by
 unfold hexV
 by_cases h1 : 48 ≤ c ∧ c ≤ 57
 · rw [if_pos h1]
   refine Ct_intro Try.func45 rfl rfl rfl rfl rfl (fun E hn hb => ?_)
   repeat refine nx ?_
   exact rt1 []
 · rw [if_neg h1]
   by_cases h2 : 97 ≤ c ∧ c ≤ 102
   · rw [if_pos h2]
     refine Ct_intro Try.func45 rfl rfl rfl rfl rfl (fun E hn hb => ?_)
     repeat refine nx ?_
     exact rt1 []
   · rw [if_neg h2]
     refine Ct_intro Try.func45 rfl rfl rfl rfl rfl (fun E hn hb => ?_)
     repeat refine nx ?_
     exact rt1 []
def unhL (l : List Int) (k : Nat) : List Int := (List.range k).map fun j => 16 * hexV (l.getD (2 * j) 0) + hexV (l.getD (2 * j + 1) 0)
theorem unh_next (l : List Int) (k : Nat) : unhL l (k + 1) = unhL l k ++ [16 * hexV (l.getD (2 * k) 0) + hexV (l.getD (2 * k + 1) 0)] := by
 unfold unhL
 rw [List.range_succ, List.map_append]
 rfl
theorem orHx : ∀ x : Fin 16, ∀ y : Fin 16, IntKind.u8.wrap (BitVec.ofInt IntKind.u8.bits (((x.val : Nat) : Int) * 2 ^ min (Int.toNat 4) IntKind.u8.bits) ||| BitVec.ofInt IntKind.u8.bits ((y.val : Nat) : Int)).toNat = 16 * ((x.val : Nat) : Int) + ((y.val : Nat) : Int) := by decide +kernel
theorem orH {X Y : Int} (hx : X ≤ 15 ∧ 0 ≤ X) (hy : Y ≤ 15 ∧ 0 ≤ Y) : IntKind.u8.wrap (BitVec.ofInt IntKind.u8.bits (X * 2 ^ min (Int.toNat 4) IntKind.u8.bits) ||| BitVec.ofInt IntKind.u8.bits Y).toNat = 16 * X + Y := by
 obtain ⟨x, rfl⟩ : ∃ x : Nat, X = x := ⟨X.toNat, by omega⟩
 obtain ⟨y, rfl⟩ : ∃ y : Nat, Y = y := ⟨Y.toNat, by omega⟩
 exact orHx ⟨x, by omega⟩ ⟨y, by omega⟩
theorem unhex_ok (l : List Int) (n : Nat) (hn2 : l.length = 2 * n) (hl : l.length ≤ 1000) (hw : ∀ x ∈ l, 0 ≤ x ∧ x < 256) (hx : ∀ i, i < l.length → hexV (l.getD i 0) ≤ 15 ∧ 0 ≤ hexV (l.getD i 0)) :
   Ct Try.prog 25 [lv (.string (strOfNums l))] [] (.tup [B8 (unhL l n), lv (.int .i64 0)]) [] [] := by
 have hs : (strOfNums l).size = l.length := strOfNums_size l
 refine Ct_intro Try.func25 rfl rfl rfl rfl rfl (fun E hn hb => ?_)
 repeat refine nx ?_
 refine s_makeI (by_ := 1) rfl rfl rfl (by rw [hn]; rfl) (elt_mk Try.underlying24 rfl rfl) rfl rfl rfl (by exact vcs) 0 (by first | rfl | (simp; done) | omega) (by first | (simp; done) | omega | (simp at *; omega)) ?_
 repeat refine nx ?_
 refine W_weaken (St.le_of (l := [(0, lv (.string (strOfNums l))), (4, .c (.own 79 1 0 (unhL l 0).length)), (5, lv (.int .i64 ((2 * 0 : Nat) : Int)))]) (h := [(79, .row (.ints .u8 (unhL l 0)))]) (by refine ⟨?_, ?_⟩ <;> (repeat' (first | exact trivial | exact rfl | refine ⟨?_, ?_⟩)) <;> first | exact rfl | (simp; done) | skip)) ?_
 refine W_loop (ι := {k : Nat // k ≤ n}) (fun k => St.of [(0, lv (.string (strOfNums l))), (4, .c (.own 79 1 0 (unhL l k.1).length)), (5, lv (.int .i64 ((2 * k.1 : Nat) : Int)))] [(79, .row (.ints .u8 (unhL l k.1)))]) (fun k => n - k.1) (fun k => ?_) ⟨0, Nat.zero_le _⟩
 obtain ⟨k, hk⟩ := k
 dsimp only
 by_cases hk2 : k < n
 · have h1 := hx (2 * k) (by omega)
   have h2 := hx (2 * k + 1) (by omega)
   have ul : (unhL l k).length = k := by simp [unhL]
   repeat refine nx ?_
   have e1 : (bs (strOfNums l)).getD ((2 * k : Nat) : Int).toNat 0 = l.getD (2 * k) 0 := by rw [bsN hw, Int.toNat_natCast]
   have e2 : (bs (strOfNums l)).getD (((2 * k : Nat) : Int) + 1).toNat 0 = l.getD (2 * k + 1) 0 := by rw [bsN hw, show (((2 * k : Nat) : Int) + 1).toNat = 2 * k + 1 by omega]
   have b1 : 0 ≤ l.getD (2 * k) 0 ∧ l.getD (2 * k) 0 < 256 := wf_at hw _
   have b2 : 0 ≤ l.getD (2 * k + 1) 0 ∧ l.getD (2 * k + 1) 0 < 256 := wf_at hw _
   refine duc1 (hF := value_ok _ ?c1) ?k1
   case c1 => rw [e1]; exact b1
   repeat refine nx ?_
   refine duc1 (hF := value_ok _ ?c2) ?k2
   case c2 => rw [e2]; exact b2
   repeat refine nx ?_
   rw [e1, e2]
   have hnx := unh_next l k
   generalize hexV (l.getD (2 * k) 0) = X at *
   generalize hexV (l.getD (2 * k + 1) 0) = Y at *
   repeat refine nx ?_
   rw [orH h1 h2, ← hnx]
   have e3 : ((2 * k : Nat) : Int) + 2 = ((2 * (k + 1) : Nat) : Int) := by omega
   rw [e3]
   refine N_round ⟨k + 1, by omega⟩ (by dsimp only; omega) (St.le_of ⟨⟨rfl, rfl, rfl⟩, rfl⟩)
 · obtain rfl : k = n := by omega
   repeat refine nx ?_
   refine frzN 2 ?_
   exact rt1 []
end Go.Proofs.Ytaagjnlkinojcaa

namespace Go.Sx
open Go
set_option linter.unusedVariables false
set_option linter.unusedSimpArgs false
section
variable {P : Program} {E : Env} {ops : Array Oper} {Q : Exit → Act → World → Prop} {rest : List Oper} {o : Oper} {σ : St} {α : Type} {f : α → List Leaf}
theorem rowE_size {l : List α} {sz i : Nat} {cur : Array Value} {F : Nat → Prop} {w : World} {z0 : α} (h : ∀ i r k x, (l.map f)[i]? = some r → r[k]? = some x → ∃ v, cur[i * sz + k]? = some v ∧ LfR F w x v) (hs : Nat.beq sz 0 = false) (hf : ∀ a, (f a).length = sz) (hlt : i < l.length) : i * sz + sz ≤ cur.size := by
 have hs' : sz ≠ 0 := by rintro rfl; simp at hs
 have hfl := hf l[i]
 obtain ⟨v, e1, _⟩ := h i (f l[i]) (sz - 1) (f l[i])[sz - 1] (by simp [hlt]) (by simp)
 have := (Array.getElem?_eq_some_iff.1 e1).1
 omega
theorem opy_loadE {t : TypeId} {y : Operand} {p : List Prop} {j sz i : Nat} {rs : List α} {z0 : α} (hop : o.op = .load t y) (ht : tagg P t = true) (hc : P.cellsOf t = sz) (hs : Nat.beq sz 0 = false) (hy : ox σ y = (p, .c (.pel j sz i 0))) (hb : σ.hp j = .row (.recs sz (rs.map f))) (hf : ∀ a, (f a).length = sz)
   (hp : AllP p) (hlt : i < rs.length) : OpY P E o σ (.agg ((f (rs.getD i z0)).map Cell.lf)) := by
 refine opy_val fun β F a w hS => ?_
 have hv := oxR hS y
 rw [hy] at hv
 have hv := hv hp
 generalize he1 : a.eval y = v1 at hv
 dsimp only at hv
 cases hv with | c hv => cases hv with | pel _ _ _ _ g hgj =>
 have hB := hS.hp j
 rw [hb] at hB
 have hi : (P.info? t).isSome = true := info_of_cells (by rw [hc]; rintro rfl; simp at hs)
 obtain ⟨hall, ⟨h0, _⟩ | ⟨g', cur, hg', hrow, hcc⟩⟩ := hB
 · simp at h0; subst h0; simp at hlt
 · rw [hgj] at hg'
   obtain rfl := Option.some.inj hg'
   have hlen := rowE_size (z0 := z0) hcc hs hf hlt
   have hl := loadCells_row (P := P) (w := w) (b := g) (o := i * sz) (cs := (cur.toList.drop (i * sz)).take sz) (n := sz) (fun k u hu => by
     rw [hrow.cell]
     rw [List.getElem?_take] at hu
     split at hu
     · simpa using hu
     · cases hu) (by simp; omega)
   refine ⟨.agg ((cur.toList.drop (i * sz)).take sz).toArray, w, F, ?_, .refl w, fun _ h => h, fun _ h => .inl h, ?_⟩
   · simp only [execOp, hop, he1]
     refine run_v ?_
     simp only [Instr.loadAt, Instr.sureAddr, loadVar, Sem.run_bind, Sem.run_pure, Result.andThen_ok, run_isAgg' (tagg_some ht), ht, if_true, Sem.run_ite, run_sizeOf' hi, hc, Nat.add_zero, hl]
   · refine .agg _ _ (by simp [hf]; omega) fun k x u hxi hui => ?_
     rw [List.getElem?_map, Option.map_eq_some_iff] at hxi
     obtain ⟨z, hz, rfl⟩ := hxi
     have hk : k < sz := by rw [← hf (rs.getD i z0)]; exact (List.getElem?_eq_some_iff.1 hz).1
     obtain ⟨v, e1, e2⟩ := hcc i (f (rs.getD i z0)) k z (by simp [hlt]) hz
     simp only [List.getElem?_toArray, List.getElem?_take, hk, if_true, List.getElem?_drop] at hui
     have : cur[i * sz + k]? = some u := by simpa using hui
     rw [this] at e1
     cases e1
     exact .lf e2
theorem stb_storeE {t : TypeId} {x y : Operand} {px py : List Prop} {j sz i : Nat} {rs : List α} {v : Av} {c : α} (hop : o.op = .store t x y) (hdn : o.dst = none) (hx : ox σ x = (px, .c (.pel j sz i 0))) (hy : ox σ y = (py, v)) (hxs : cellsA v = some ((f c).map Cell.lf)) (hu : isUn v = false) (hp : AllP (px ++ py))
   (hb : σ.hp j = .row (.recs sz (rs.map f))) (hf : ∀ a, (f a).length = sz) (hs : Nat.beq sz 0 = false) (hsz : P.cellsOf t = sz) (hlt : i < rs.length) : StepB P E o σ (σ.seth j (.row (.recs sz ((rs.set i c).map f)))) := by
 intro β F a w hS
 have hv1 := oxR hS x
 rw [hx] at hv1
 have hv1 := hv1 hp.left
 have hv2 := oxR hS y
 rw [hy] at hv2
 have hv2 := hv2 hp.right
 generalize he1 : a.eval x = v1 at hv1
 generalize he2 : a.eval y = v2 at hv2
 dsimp only at hv1 hv2
 cases hv1 with | c hv1 => cases hv1 with | pel _ _ _ _ g hgj =>
 obtain ⟨k1, k2⟩ := cellsA_R hv2 hxs (by intro h; subst h; simp [isUn] at hu)
 have hs' : sz ≠ 0 := by rintro rfl; simp at hs
 have k1' : v2.cells.size = sz := by rw [k1, List.length_map, hf]
 have hB := hS.hp j
 rw [hb] at hB
 have hgone : σ.hp j ≠ .gone := by rw [hb]; intro h; cases h
 obtain ⟨_, _, hnF⟩ := hS.own j g hgone hgj
 obtain ⟨hall, ⟨h0, _⟩ | ⟨g', cur, hg', hrow, hcc⟩⟩ := hB
 · simp at h0; subst h0; simp at hlt
 · rw [hgj] at hg'
   obtain rfl := Option.some.inj hg'
   have hlen := rowE_size (z0 := c) hcc hs hf hlt
   have hi : (P.info? t).isSome = true := info_of_cells (by rw [hsz]; exact hs')
   obtain ⟨w', r1, r2⟩ := run_storeCells' (P := P) (g := g) (off := i * sz) v2.cells.toList 0 w cur (fun u hu => by
     obtain ⟨n, hn, rfl⟩ := List.mem_iff_getElem.1 hu
     have hlt2 : n < ((f c).map Cell.lf).length := by rw [List.length_map, hf]; simpa [k1'] using hn
     exact (k2 n ((f c).map Cell.lf)[n] _ (by simp only [List.getElem?_eq_getElem hlt2]) (by simp at hn; simp [hn])).one) hrow (by simp [k1']; omega)
   simp only [Nat.add_zero] at r2
   have hfit : i * sz + v2.cells.toList.length ≤ cur.size := by simp [k1']; omega
   have hls := size_lay hfit
   refine ⟨w', ?_, ?_⟩
   · simp only [execOp, hop, he1, he2, Instr.storeAt, Instr.sureAddr, storeVar, Sem.run_bind, Sem.run_pure, Result.andThen_ok, run_sizeOf' hi, hsz, k1', ne_eq, not_true_eq_false, if_false, Nat.add_zero, r1, Sem.run_ite]
   · have hlf : ∀ {y : Leaf} {v : Value}, LfR F w y v → LfR F w' y v := fun hl => hl.mono fun b hb => ⟨hb, r2.other b (fun e => hnF (e ▸ hb))⟩
     have hfin := hS.written hgone hgj hrow r2 hls (blk := .row (.recs sz ((rs.set i c).map f))) ⟨fun r hr => by
       obtain ⟨q, _, rfl⟩ := List.mem_map.1 hr
       exact hf q, .inr ⟨g, _, hgj, r2.row, fun i' r k y hr hk => ?_⟩⟩
     · rw [hdn]; exact hfin.1
     · rw [List.getElem?_map, Option.map_eq_some_iff] at hr
       obtain ⟨q, hq, rfl⟩ := hr
       have hk2 : k < sz := by rw [← hf q]; exact (List.getElem?_eq_some_iff.1 hk).1
       rw [get_lay hfit]
       simp only [Array.length_toList, k1']
       rw [List.getElem?_set] at hq
       by_cases h2 : i = i'
       · subst h2
         rw [if_pos rfl, if_pos hlt] at hq
         obtain rfl := Option.some.inj hq
         rw [if_neg (by omega), if_pos (by omega), Nat.add_sub_cancel_left]
         have hkk : k < v2.cells.size := by omega
         refine ⟨v2.cells[k], by simp [hkk], ?_⟩
         have := k2 k (.lf y) v2.cells[k] (by rw [List.getElem?_map, hk]; rfl) (by simp [hkk])
         cases this with | lf hl => exact hlf hl
       · rw [if_neg h2] at hq
         obtain ⟨v, e1, e2⟩ := hcc i' (f q) k y (by simp [hq]) hk
         refine ⟨v, ?_, hlf e2⟩
         rcases Nat.lt_or_gt_of_ne h2 with h3 | h3
         · have h4 : (i + 1) * sz ≤ i' * sz := Nat.mul_le_mul_right sz h3
           rw [Nat.add_mul, Nat.one_mul] at h4
           rw [if_neg (by omega), if_neg (by omega)]; exact e1
         · have h4 : (i' + 1) * sz ≤ i * sz := Nat.mul_le_mul_right sz h3
           rw [Nat.add_mul, Nat.one_mul] at h4
           rw [if_pos (by omega)]; exact e1
theorem SRb.reblk {β : Nat → Option Nat} {F : Nat → Prop} {a : Act} {w : World} (h : SRb E β F σ a w) {j : Nat} {b : Blk} (hj : σ.hp j ≠ .gone) (hb : BlkR β F w j b) : SRb E β F (σ.seth j b) a w := by
 have hne : ∀ i, (σ.seth j b).hp i ≠ .gone → σ.hp i ≠ .gone := fun i hi => by
   by_cases e : i = j
   · subst e; exact hj
   · simpa [St.seth, e] using hi
 refine ⟨h.tm, h.sz, h.df, fun i => ?_, fun i k g h1 h2 h3 h4 => h.inj i k g (hne i h1) (hne k h2) h3 h4, fun i g h1 h2 => h.own i g (hne i h1) h2, h.lt, h.fr, h.keep, h.bb, h.nbl⟩
 by_cases e : i = j
 · subst e; simpa [St.seth] using hb
 · simpa [St.seth, e] using h.hp i
theorem run_clear {w : World} {g o n c : Nat} {cur : Array Value} {t e : TypeId} {sz by_ : Nat} (hE : Elt P t e sz by_) (h1c : ((P.info? e).bind (·.zero)).map (fun z => z.cells.toList.all (·.oneCell')) = some true) (hr : Row w g cur) (hn : n ≠ 0) (hs : o + n * sz ≤ cur.size) (ty : TypeId) :
   ∃ w' vs, vs.length = n * sz ∧ (Builtin.clear_ #[t] ty #[.slice (some ⟨g, o, none⟩) n c]).run P w = .ok (.tuple #[]) w' ∧ Wr w w' g (lay cur o vs) := by
 obtain ⟨ht, i, z, hi, hz, hsz, hby, hzs⟩ := hE
 have hall : ∀ u ∈ z.cells.toList, u.oneCell' = true := by
   rw [hi] at h1c
   simp only [Option.bind_some, hz, Option.map_some, Option.some.injEq] at h1c
   exact List.all_eq_true.1 h1c
 have hlz : (Builtin.zeroCells z.cells n).size = n * sz := by simp [Builtin.zeroCells, hzs]
 obtain ⟨w', r1, r2⟩ := run_storeCells' (P := P) (g := g) (off := o) (Builtin.zeroCells z.cells n).toList 0 w cur (fun u hu => by
   simp only [Builtin.zeroCells, Array.toList_map, Array.toList_range, List.mem_map, List.mem_range] at hu
   obtain ⟨k, hk, rfl⟩ := hu
   have hz0 : 0 < z.cells.size := by
     rcases Nat.eq_zero_or_pos z.cells.size with h | h
     · rw [h] at hk; omega
     · exact h
   have hlt := Nat.mod_lt k hz0
   rw [getElem!_pos z.cells _ hlt]
   exact hall _ (by simp)) hr (by simp [hlz]; omega)
 refine ⟨w', (Builtin.zeroCells z.cells n).toList, by simpa using hlz, ?_, by simpa using r2⟩
 match n, hn with
 | n + 1, _ =>
   simp [Builtin.clear_, run_underlying ht, zeroValue, typeInfo, hi, hz, r1]
theorem s_clear {t e : TypeId} {sz by_ i n : Nat} {c : Call} {x : Operand} {px : List Prop} {j : Nat} {l : List (List Leaf)} (hop : o.op = .call c) (hc : c.callee = .builtin .clear) (ha : c.args.toList = [x]) (hty : c.argTypes.toList = [t]) (hg : o.guard = none) (hdn : o.dst = none)
   (hE : Elt P t e sz by_) (h1c : ((P.info? e).bind (·.zero)).map (fun z => z.cells.toList.all (·.oneCell')) = some true) (hs : Nat.beq sz 0 = false) (hx : ox σ x = (px, .c (.own j sz (i * sz) n))) (hb : σ.hp j = .row (.recs sz l)) (hp : AllP px) (hil : i ≤ l.length)
   (hk : WL P E ops Q rest (σ.seth j (.row (.recs sz (l.take i))))) : WL P E ops Q (o :: rest) σ := by
 refine WL_step hg _ (fun a w hS => ?_) hk
 obtain ⟨β, F, hS⟩ := hS
 have hv1 := oxR hS x
 rw [hx] at hv1
 have hv1 := hv1 hp
 have hca : c.args = #[x] := by apply Array.toList_inj.1; simpa using ha
 have hct : c.argTypes = #[t] := by apply Array.toList_inj.1; simpa using hty
 generalize he1 : a.eval x = v1 at hv1
 dsimp only at hv1
 cases hv1 with | c hv1 => cases hv1 with | own _ _ _ _ ao cap hlc hmx hh =>
 have hgone : σ.hp j ≠ .gone := by rw [hb]; intro h; cases h
 have hB := hS.hp j
 rw [hb] at hB
 have hrun : ∀ w', (Builtin.clear_ #[t] o.type #[.slice ao n cap]).run P w = .ok (.tuple #[]) w' → (execOp a.eval o).run P w = .ok (.value (.tuple #[])) w' := fun w' h => by
   simp only [execOp, hop, resolve, hc, hca, hct, Sem.run_bind, Sem.run_pure, Result.andThen_ok, invoke, builtin]
   simp only [List.map_toArray, List.map_cons, List.map_nil, he1, h, Result.andThen_ok]
 have hput : ∀ σ' w', SRb E β F σ' a w' → SR E σ' (a.put o.dst (.tuple #[])) w' := fun σ' w' h => by rw [hdn]; exact ⟨β, F, h⟩
 have hless : BlkR β F w j (.row (.recs sz (l.take i))) := by
   obtain ⟨h1, h2⟩ := hB
   refine ⟨fun r hr => h1 r (List.mem_of_mem_take hr), ?_⟩
   rcases h2 with ⟨rfl, h2⟩ | ⟨g, cur, h3, h4, h5⟩
   · exact .inl ⟨by simp, h2⟩
   · exact .inr ⟨g, cur, h3, h4, fun i' r k x hr hk => by
       rw [List.getElem?_take] at hr
       split at hr
       · exact h5 i' r k x hr hk
       · cases hr⟩
 by_cases hn0 : n = 0
 · subst hn0
   refine ⟨_, w, hrun w ?_, hput _ _ (hS.reblk hgone hless)⟩
   obtain ⟨ht, _⟩ := hE
   cases ao <;> simp [Builtin.clear_, run_underlying ht]
 · rcases hh with hc0 | ⟨g, hgj, rfl, hcap⟩
   · omega
   · obtain ⟨cur, hrow, hcs⟩ := hcap
     have hnc : n * sz ≤ cap * sz := Nat.mul_le_mul_right sz hlc
     obtain ⟨w', vs, hvl, r1, r2⟩ := run_clear (P := P) (c := cap) (o := i * sz) hE h1c hrow hn0 (by omega) o.type
     have hfit : i * sz + vs.length ≤ cur.size := by omega
     have hls := size_lay hfit
     obtain ⟨_, _, hnF⟩ := hS.own j g hgone hgj
     refine ⟨_, w', hrun w' r1, hput _ _ (hS.written hgone hgj hrow r2 hls (blk := .row (.recs sz (l.take i))) ?_).1⟩
     obtain ⟨h1, h2⟩ := hB
     refine ⟨fun r hr => h1 r (List.mem_of_mem_take hr), .inr ⟨g, _, hgj, r2.row, fun i' r k x hr hk => ?_⟩⟩
     rw [List.getElem?_take] at hr
     split at hr
     · rename_i hlt
       rcases h2 with ⟨rfl, _⟩ | ⟨g', cur', h3, h4, h5⟩
       · simp at hr
       · rw [hgj] at h3
         obtain rfl := Option.some.inj h3
         obtain rfl : cur = cur' := by
           obtain ⟨_, _, q1, _⟩ := hrow
           obtain ⟨_, _, q2, _⟩ := h4
           rw [q1] at q2
           simp only [Option.some.injEq, Obj.cells.injEq] at q2
           exact q2.1
         obtain ⟨v, e1, e2⟩ := h5 i' r k x hr hk
         have hks : k < sz := by
           rw [← h1 r (List.mem_of_getElem? hr)]
           exact (List.getElem?_eq_some_iff.1 hk).1
         have h6 : (i' + 1) * sz ≤ i * sz := Nat.mul_le_mul_right sz hlt
         rw [Nat.add_mul, Nat.one_mul] at h6
         refine ⟨v, by rw [get_lay hfit, if_pos (by omega)]; exact e1, e2.mono fun b hb => ⟨hb, r2.other b (fun e => hnF (e ▸ hb))⟩⟩
     · cases hr
theorem opy_bnd {fu : Fn} {x : Operand} {ps : List Prop} {xs : List Leaf} {ys : List Cell} (hop : o.op = .makeFunc fu #[x] #[]) (hx : ox σ x = (ps, .agg ys)) (hy : ys = xs.map Cell.lf) (hp : AllP ps) : OpY P E o σ (.c (.bnd fu xs)) := by
 subst hy
 refine opy_val fun β F a w hS => ?_
 have hv := oxR hS x
 rw [hx] at hv
 have hv := hv hp
 generalize he1 : a.eval x = v1 at hv
 dsimp only at hv
 cases hv with | agg _ cs h1 h =>
 refine ⟨.func fu #[.agg cs] #[], w, F, by simp [execOp, hop, Instr.makeFunc, he1], .refl w, fun _ h => h, fun _ h => .inl h, .c (.bnd _ _ cs (by simpa using h1) fun i x v hx hv => ?_)⟩
 have := h i (.lf x) v (by rw [List.getElem?_map, hx]; rfl) hv
 cases this with | lf hl => exact hl
theorem opy_callB {c : Call} {fo : Operand} {fi : FuncId} {xl : List Leaf} {pf : List Prop} {xs : List Av} {res : Av} (hF : Ct P fi xs [] res [] [])
   (hop : o.op = .call c) (hcv : c.callee = .value fo) (hfo : ox σ fo = (pf, .c (.bnd (.func fi) xl)))
   (hp : AllP (pf ++ (oxs σ c.args.toList).1)) (hxs : .agg (xl.map Cell.lf) :: (oxs σ c.args.toList).2 = xs) (hok : (xs.all (Av.ok 0) && res.ok 0) = true) : OpY P E o σ res := by
 intro β F a w hS K Q hK
 simp only [Bool.and_eq_true, List.all_eq_true] at hok
 have hfv := oxR hS fo
 rw [hfo] at hfv
 have hfv := hfv hp.left
 generalize hv : a.eval fo = fv at hfv
 cases hfv with | c hfv => cases hfv with | bnd _ _ cs n1 r1 =>
 obtain ⟨l1, l2⟩ := oxs_R hS c.args.toList hp.right
 have hrun : (execOp a.eval o).run P w = .ok (.enter fi (#[Value.agg cs] ++ c.args.map a.eval ++ #[])) w := by
   simp only [execOp, hop, resolve, hcv, hv, Deferred.ofValue, Sem.run_bind, Sem.run_pure, Result.andThen_ok, invoke]
   exact run_callFunc hF.2.1
 unfold Oper.wp
 rw [hrun, Oper.upon_enter]
 have hargs : ∀ (i : Nat) (x : Av) (v : Value), xs[i]? = some x → (#[Value.agg cs] ++ c.args.map a.eval ++ #[]).toList[i]? = some v → AvR (fun _ => none) F w x v := by
   intro i y v hy hv
   have hy0 := hy
   rw [← hxs] at hy
   have key : AvR β F w y v := by
     simp only [Array.toList_append, List.append_nil] at hv
     cases i with
     | zero =>
       simp at hy hv
       subst hy; subst hv
       refine .agg _ _ (by simpa using n1) fun i x v hx hv => ?_
       rw [List.getElem?_map, Option.map_eq_some_iff] at hx
       obtain ⟨z, hz, rfl⟩ := hx
       exact .lf (r1 i z v hz hv)
     | succ i =>
       simp only [List.getElem?_cons_succ] at hy
       refine l2 i y v hy ?_
       simpa using hv
   have := AvR.ren (β := fun _ => none) (ρ := id) (n := 0) (fun i h => absurd h (Nat.not_lt_zero _)) key (hok.1 y (List.mem_of_getElem? hy0))
   rwa [Av.ren_id] at this
 have hlen : (#[Value.agg cs] ++ c.args.map a.eval ++ #[]).toList.length = xs.length := by
   rw [← hxs]
   simp [l1]
 have hcall := hF.2.2 w (fun _ => none) F (#[Value.agg cs] ++ c.args.map a.eval ++ #[]).toList hlen hargs (fun i b h => by simp at h) (fun i j g h => absurd h (Nat.not_lt_zero _)) (fun j g h => absurd h (Nat.not_lt_zero _)) (fun _ _ => rfl) (fun b hb => (hS.fr b hb).1)
 rw [Array.toArray_toList] at hcall
 refine hcall.mono fun e w' hq => ?_
 obtain ⟨v, β', F', rfl, hres, _, _, hout⟩ := hq
 have hg : Grow w w' := ⟨hout.keep.os, hout.keep.tape, hout.keep.output, hout.keep.size, fun k hk => hout.keep.block k hk (by rintro ⟨i, hi, _⟩; exact absurd hi (Nat.not_lt_zero _))⟩
 refine hK v w' (fun b => F b ∨ F' b) hg (fun b h => .inl h) (fun b hb => ?_) ?_
 · rcases hb with hb | hb
   · exact .inl hb
   · obtain ⟨a1, a2⟩ := hout.fr b hb
     rcases a2 with a2 | a2
     · exact .inl a2
     · exact .inr ⟨a2, a1⟩
 · have := AvR.ren (β := β) (ρ := id) (n := 0) (fun i h => absurd h (Nat.not_lt_zero _)) hres hok.2
   rw [Av.ren_id] at this
   exact this.mono (fun _ _ h => h) (fun b hb => ⟨.inr hb, rfl⟩) (fun _ _ h => h)
theorem bn1 {nt : Nat} {dd : Option Nat} {fu : Fn} {x : Operand} {ps : List Prop} {ys : List Cell} (xs : List Leaf) (hn : E.n = nt) (hk : WL P E ops Q rest (σ.put dd (.c (.bnd fu xs)))) (hop : o.op = .makeFunc fu #[x] #[] := by exact rfl) (hg : o.guard = none := by exact rfl) (hdf : forceO o.dst some = some dd := by exact rfl) (hd : dstOk nt dd = true := by exact rfl)
   (hx : ox σ x = (ps, .agg ys) := by exact rfl) (hy : ys = xs.map Cell.lf := by exact rfl) (hp : AllP ps := by first | trivial | (simp; done) | (simp at *; done)) : WL P E ops Q (o :: rest) σ := by
 simp only [forceO_eq, Option.some.injEq] at hdf
 subst hdf
 exact WL_q (opq_of (opy_bnd hop hx hy hp) hg) (by rw [hn]; exact hd) hk
theorem cbn1 {nt : Nat} {dd : Option Nat} {c : Call} {fo : Operand} {fi : FuncId} {xl : List Leaf} {pf : List Prop} {xs : List Av} {res r : Av} (hn : E.n = nt) (hk : WL P E ops Q rest (σ.put dd r)) (hop : o.op = .call c := by exact rfl) (hg : o.guard = none := by exact rfl) (hdf : forceO o.dst some = some dd := by exact rfl) (hd : dstOk nt dd = true := by exact rfl) (hcv : c.callee = .value fo := by exact rfl) (hfo : ox σ fo = (pf, .c (.bnd (.func fi) xl)) := by exact rfl)
   (hxs : .agg (xl.map Cell.lf) :: (oxs σ c.args.toList).2 = xs := by exact rfl) (hF : Ct P fi xs [] res [] [] := by assumption) (hok : (xs.all (Av.ok 0) && res.ok 0) = true := by exact rfl) (hr : forceA res some = some r := by exact rfl)
   (hp : AllP (pf ++ (oxs σ c.args.toList).1) := by exact vcs) : WL P E ops Q (o :: rest) σ := by
 simp only [forceA_eq, Option.some.injEq] at hr
 subst hr
 simp only [forceO_eq, Option.some.injEq] at hdf
 subst hdf
 exact WL_q (opq_of (opy_callB hF hop hcv hfo hp hxs hok) hg) (by rw [hn]; exact hd) hk
theorem wgF {nt : Nat} {dd : Option Nat} {i : Nat} {b : Bool} (x : Av) (hn : E.n = nt) (hk : WL P E ops Q rest (σ.put dd (.cnd false x))) (hg : o.guard = some (i, b) := by exact rfl) (hG : guardC ops σ i b = some false := by exact rfl) (hdf : forceO o.dst some = some dd := by exact rfl) (hd : dstOk nt dd = true := by exact rfl) : WL P E ops Q (o :: rest) σ := by
 simp only [forceO_eq, Option.some.injEq] at hdf
 subst hdf
 exact WL_q (opq_ofG hg hG fun h => by cases h) (by rw [hn]; exact hd) hk
theorem le1 {nt : Nat} {dd : Option Nat} {t : TypeId} {y : Operand} {p : List Prop} {j sz i : Nat} {rs : List α} {z0 : α} {xs : List Cell} (hn : E.n = nt) (hk : WL P E ops Q rest (σ.put dd (.agg xs))) (hop : o.op = .load t y := by exact rfl) (hg : o.guard = none := by exact rfl) (hdf : forceO o.dst some = some dd := by exact rfl) (hd : dstOk nt dd = true := by exact rfl) (ht : tagg P t = true := by exact rfl)
   (hy : ox σ y = (p, .c (.pel j sz i 0)) := by exact rfl) (hb : σ.hp j = .row (.recs sz (rs.map f)) := by exact rfl) (hs : Nat.beq sz 0 = false := by exact rfl) (hx : forceOL (some ((f (rs.getD i z0)).map Cell.lf)) some = some xs := by exact rfl) (hz0 : Df z0 := by first | exact Df.nil | exact Df.dflt) (hf : ∀ a, (f a).length = sz := by exact fun _ => rfl) (hc : P.cellsOf t = sz := by first | (simp; done) | fail)
   (hp : AllP p := by exact vcs) (hlt : i < rs.length := by first | omega | (simp; done) | (simp; omega) | (simp at *; omega)) : WL P E ops Q (o :: rest) σ := by
 simp only [forceO_eq, Option.some.injEq] at hdf
 subst hdf
 obtain rfl := Option.some.inj (forceOL_some hx)
 exact WL_q (opq_of (opy_loadE (f := f) (rs := rs) (z0 := z0) hop ht hc hs hy hb hf hp hlt) hg) (by rw [hn]; exact hd) hk
theorem se1 {t : TypeId} {x y : Operand} {px py : List Prop} {j sz i : Nat} {rs : List α} {v : Av} (c : α) (hk : WL P E ops Q rest (σ.seth j (.row (.recs sz ((rs.set i c).map f))))) (hop : o.op = .store t x y := by exact rfl) (hg : o.guard = none := by exact rfl) (hdn : o.dst = none := by exact rfl) (hx : ox σ x = (px, .c (.pel j sz i 0)) := by exact rfl) (hb : σ.hp j = .row (.recs sz (rs.map f)) := by exact rfl)
   (hy : ox σ y = (py, v) := by exact rfl) (hxs : cellsA v = some ((f c).map Cell.lf) := by exact rfl) (hu : isUn v = false := by exact rfl) (hs : Nat.beq sz 0 = false := by exact rfl) (hf : ∀ a, (f a).length = sz := by exact fun _ => rfl) (hsz : P.cellsOf t = sz := by first | (simp; done) | fail)
   (hp : AllP (px ++ py) := by exact vcs) (hlt : i < rs.length := by first | omega | (simp; done) | (simp; omega) | (simp at *; omega)) : WL P E ops Q (o :: rest) σ := WL_skip hg _ (stb_storeE hop hdn hx hy hxs hu hp hb hf hs hsz hlt).k hk
theorem clr1 {t e : TypeId} {sz by_ i n : Nat} {c : Call} {x : Operand} {px : List Prop} {j : Nat} {l : List (List Leaf)} (hk : WL P E ops Q rest (σ.seth j (.row (.recs sz (l.take i))))) (hop : o.op = .call c := by exact rfl) (hc : c.callee = .builtin .clear := by exact rfl) (ha : c.args.toList = [x] := by exact rfl) (hty : c.argTypes.toList = [t] := by exact rfl) (hg : o.guard = none := by exact rfl) (hdn : o.dst = none := by exact rfl)
   (hE : Elt P t e sz by_ := by exact elt_mk rfl rfl rfl) (h1c : ((P.info? e).bind (·.zero)).map (fun z => z.cells.toList.all (·.oneCell')) = some true := by exact rfl) (hs : Nat.beq sz 0 = false := by exact rfl) (hx : ox σ x = (px, .c (.own j sz (i * sz) n)) := by exact rfl) (hb : σ.hp j = .row (.recs sz l) := by exact rfl)
   (hp : AllP px := by exact vcs) (hil : i ≤ l.length := by first | omega | (simp; done) | (simp; omega) | (simp at *; omega)) : WL P E ops Q (o :: rest) σ := s_clear hop hc ha hty hg hdn hE h1c hs hx hb hp hil hk
end
end Go.Sx

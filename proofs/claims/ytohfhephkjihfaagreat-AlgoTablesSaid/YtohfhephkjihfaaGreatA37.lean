/-
  Tables of keys, the program's and the document's, filled alike. The conditions: rows that a machine can hold.
-/
import Derived.Test.YtohfhephkjihfaaGreatM7
import Derived.Test.YtohfhephkjihfaaGreatW16
import Derived.Test.YtohfhephkjihfaaGreatSxR
import Derived.Test.YtohfhephkjihfaaGreatM10
import Derived.Test.YtohfhephkjihfaaGreatA12
import Derived.Test.YtohfhephkjihfaaGreatA17
import Derived.Test.YtohfhephkjihfaaGreatB15
import Derived.Test.YtohfhephkjihfaaGreatD8
import Derived.Test.YtohfhephkjihfaaGreatSxI
import Derived.Test.YtohfhephkjihfaaGreatSxP
import Derived.Test.YtohfhephkjihfaaGreatO11
import Derived.Test.YtohfhephkjihfaaGreatO3
import Derived.Test.YtohfhephkjihfaaGreatC4
namespace Go.Proofs.YtohfhephkjihfaaGreat
set_option linter.unusedSimpArgs false
set_option linter.unusedVariables false
open Go.Sx
set_option maxRecDepth 10000
def hx1 : List Int := [101, 51, 98, 48, 99, 52, 52, 50, 57, 56, 102, 99, 49, 99, 49, 52, 57, 97, 102, 98, 102, 52, 99, 56, 57, 57, 54, 102, 98, 57, 50, 52, 50, 55, 97, 101, 52, 49, 101, 52, 54, 52, 57, 98, 57, 51, 52, 99, 97, 52, 57, 53, 57, 57, 49, 98, 55, 56, 53, 50, 98, 56, 53, 53]
def hx2 : List Int := [98, 48, 51, 52, 52, 99, 54, 49, 100, 56, 100, 98, 51, 56, 53, 51, 53, 99, 97, 56, 97, 102, 99, 101, 97, 102, 48, 98, 102, 49, 50, 98, 56, 56, 49, 100, 99, 50, 48, 48, 99, 57, 56, 51, 51, 100, 97, 55, 50, 54, 101, 57, 51, 55, 54, 99, 50, 101, 51, 50, 99, 102, 102, 55]

def n0 : Nat := 0

theorem ne32 {l : List Int} (h : l.length = 32) : l ≠ [] := fun h2 => by rw [h2] at h; simp at h

theorem tget_no (es : MapL) (n : List Int) (hn1 : n.length ≤ 1000000) (hf : findM es (strOfNums n) = none) :
   Ct Tryz.prog 10 [.c (.ptr 0 0), B8 n] [tabB, .map es] (.tup [B8 [], lv (.int .i64 14)]) [tabB, .map es] [] := by
 refine Ct_intro Tryz.func10 rfl rfl rfl rfl rfl (fun E hn hb => ?_)
 repeat refine nxm ?_
 exact rtU []
end Go.Proofs.YtohfhephkjihfaaGreat

namespace Go.Proofs.YtohfhephkjihfaaGreat
set_option linter.unusedSimpArgs false
set_option linter.unusedVariables false
open Go Go.Sx
set_option maxRecDepth 10000
abbrev PairT : Type := List Int × List Int
abbrev prL (p : PairT) : List Leaf := [.ints .u8 p.1, .ints .u8 p.2]
section
variable {P : Program} {E : Env} {ops : Array Oper} {Q : Exit → Act → World → Prop} {rest : List Oper} {o : Oper} {σ : St}
theorem opy_loadP {t : TypeId} {y : Operand} {p : List Prop} {j i k : Nat} {h : PairT → Leaf} {rs : List PairT} (hop : o.op = .load t y) (ht : tagg P t = false) (ht2 : (P.underlying t).isSome = true) (hy : ox σ y = (p, .c (.pel j 2 i k))) (hb : σ.hp j = .row (.recs 2 (rs.map prL))) (hf : ∀ a, (prL a)[k]? = some (h a))
   (hp : AllP p) (hlt : i < rs.length) : OpY P E o σ (.c (.lf (h (rs.getD i ([], []))))) := by
 refine opy_val fun β F a w hS => ?_
 have hv := oxR hS y
 rw [hy] at hv
 have hv := hv hp
 generalize he1 : a.eval y = v1 at hv
 dsimp only at hv
 cases hv with | c hv => cases hv with | pel _ _ _ _ g hgj =>
 have hB := hS.hp j
 rw [hb] at hB
 obtain ⟨hall, ⟨h0, _⟩ | ⟨g', cur, hg', hrow, hcc⟩⟩ := hB
 · simp at h0; subst h0; simp at hlt
 · rw [hgj] at hg'
   obtain rfl := Option.some.inj hg'
   obtain ⟨v, e1, e2⟩ := hcc i (prL (rs.getD i ([], []))) k (h (rs.getD i ([], []))) (by simp [hlt]) (hf _)
   refine ⟨v, w, F, ?_, .refl w, fun _ h => h, fun _ h => .inl h, .c (.lf e2)⟩
   simp only [execOp, hop, he1]
   refine run_v ?_
   have hc : w.cell? ⟨g, i * 2 + k, none⟩ = some v := by rw [hrow.cell]; exact e1
   simp [Instr.loadAt, Instr.sureAddr, loadVar, Sem.run_bind, run_isAgg' ht2, ht, hc]
theorem stb_storeP {t : TypeId} {x y : Operand} {px py : List Prop} {j i k : Nat} {rs : List PairT} {s : List Int} (hop : o.op = .store t x y) (hdn : o.dst = none) (hx : ox σ x = (px, .c (.pel j 2 i k))) (hk : k = 1) (hy : ox σ y = (py, .c (.lf (.ints .u8 s)))) (hp : AllP (px ++ py))
   (hb : σ.hp j = .row (.recs 2 (rs.map prL))) (hsz : P.cellsOf t = 1) (hlt : i < rs.length) : StepB P E o σ (σ.seth j (.row (.recs 2 ((rs.set i ((rs.getD i ([], [])).1, s)).map prL)))) := by
 subst hk
 intro β F a w hS
 have hv1 := oxR hS x
 rw [hx] at hv1
 have hv1 := hv1 hp.left
 have hv2 := oxR hS y
 rw [hy] at hv2
 have hv2 := hv2 hp.right
 generalize he1 : a.eval x = v1 at hv1
 generalize he2 : a.eval y = v2 at hv2
 dsimp only at hv1 hv2
 cases hv1 with | c hv1 => cases hv1 with | pel _ _ _ _ g hgj =>
 cases hv2 with | c hv2 => cases hv2 with | lf hv2 =>
 have hone := cells_one hv2.one
 have hB := hS.hp j
 rw [hb] at hB
 have hgone : σ.hp j ≠ .gone := by rw [hb]; intro h; cases h
 obtain ⟨_, _, hnF⟩ := hS.own j g hgone hgj
 obtain ⟨hall, ⟨h0, _⟩ | ⟨g', cur, hg', hrow, hcc⟩⟩ := hB
 · simp at h0; subst h0; simp at hlt
 · rw [hgj] at hg'
   obtain rfl := Option.some.inj hg'
   have hgd : rs[i]? = some (rs.getD i ([], [])) := by simp [hlt]
   have hlc : i * 2 + 1 < cur.size := by
     obtain ⟨v, e1, _⟩ := hcc i (prL (rs.getD i ([], []))) 1 (.ints .u8 (rs.getD i ([], [])).2) (by simp [hlt]) rfl
     exact (Array.getElem?_eq_some_iff.1 e1).1
   have hi : (P.info? t).isSome = true := info_of_cells (by rw [hsz]; decide)
   obtain ⟨w', r1, r2⟩ := run_storeCells' (P := P) (g := g) (off := i * 2 + 1) [v2] 0 w cur (fun u hu => by rw [List.mem_singleton.1 hu]; exact hv2.one) hrow (by simp; omega)
   simp only [Nat.add_zero] at r2
   have hfit : i * 2 + 1 + [v2].length ≤ cur.size := by simp; omega
   have hls := size_lay hfit
   refine ⟨w', ?_, ?_⟩
   · simp only [execOp, hop, he1, he2, Instr.storeAt, Instr.sureAddr, storeVar, Sem.run_bind, Sem.run_pure, Result.andThen_ok, run_sizeOf' hi, hsz, hone, List.size_toArray, List.length_cons, List.length_nil, Nat.zero_add, ne_eq, not_true_eq_false, if_false, r1, Sem.run_ite]
   · have hlf : ∀ {y : Leaf} {v : Value}, LfR F w y v → LfR F w' y v := fun hl => hl.mono fun b hb => ⟨hb, r2.other b (fun e => hnF (e ▸ hb))⟩
     have hfin := hS.written hgone hgj hrow r2 hls (blk := .row (.recs 2 ((rs.set i ((rs.getD i ([], [])).1, s)).map prL))) ⟨fun r hr => by
       obtain ⟨q, _, rfl⟩ := List.mem_map.1 hr
       rfl, .inr ⟨g, _, hgj, r2.row, fun i' r k y hr hk => ?_⟩⟩
     · rw [hdn]; exact hfin.1
     · rw [List.getElem?_map, Option.map_eq_some_iff] at hr
       obtain ⟨q, hq, rfl⟩ := hr
       have hk2 : k < 2 := by
         have := (List.getElem?_eq_some_iff.1 hk).1
         simpa using this
       rw [get_lay hfit]
       simp only [List.length_cons, List.length_nil, Nat.zero_add]
       rw [List.getElem?_set] at hq
       by_cases h2 : i = i'
       · subst h2
         rw [if_pos rfl, if_pos hlt] at hq
         obtain rfl := Option.some.inj hq
         by_cases h3 : k = 1
         · subst h3
           simp only [prL, List.getElem?_cons_succ, List.getElem?_cons_zero, Option.some.injEq] at hk
           subst hk
           rw [if_neg (by omega), if_pos (by omega)]
           exact ⟨v2, by simp, hlf hv2⟩
         · obtain rfl : k = 0 := by omega
           simp only [prL, List.getElem?_cons_zero, Option.some.injEq] at hk
           subst hk
           obtain ⟨v, e1, e2⟩ := hcc i (prL (rs.getD i ([], []))) 0 (.ints .u8 (rs.getD i ([], [])).1) (by simp [hlt]) rfl
           rw [if_pos (by omega)]
           exact ⟨v, e1, hlf e2⟩
       · rw [if_neg h2] at hq
         obtain ⟨v, e1, e2⟩ := hcc i' (prL q) k y (by simp [hq]) hk
         refine ⟨v, ?_, hlf e2⟩
         by_cases h1 : i' * 2 + k < i * 2 + 1
         · rw [if_pos h1]; exact e1
         · rw [if_neg h1, if_neg (by omega)]; exact e1
theorem lp1 {nt : Nat} {dd : Option Nat} {t : TypeId} {y : Operand} {p : List Prop} {j i k : Nat} {h : PairT → Leaf} {rs : List PairT} (hn : E.n = nt) (hk : WL P E ops Q rest (σ.put dd (.c (.lf (h (rs.getD i ([], []))))))) (hop : o.op = .load t y := by exact rfl) (hg : o.guard = none := by exact rfl) (hdf : forceO o.dst some = some dd := by exact rfl) (hd : dstOk nt dd = true := by exact rfl) (ht : tagg P t = false := by exact rfl) (ht2 : (P.underlying t).isSome = true := by exact rfl) (hy : ox σ y = (p, .c (.pel j 2 i k)) := by exact rfl) (hb : σ.hp j = .row (.recs 2 (rs.map prL)) := by exact rfl) (hf : ∀ a, (prL a)[k]? = some (h a) := by exact fun _ => rfl) (hp : AllP p := by exact vcs) (hlt : i < rs.length := by first | omega | (simp; done) | (simp; omega) | (simp at *; omega)) : WL P E ops Q (o :: rest) σ := by
 simp only [forceO_eq, Option.some.injEq] at hdf
 subst hdf
 exact WL_q (opq_of (opy_loadP (h := h) (rs := rs) hop ht ht2 hy hb hf hp hlt) hg) (by rw [hn]; exact hd) hk
theorem smp1 {t : TypeId} {x y : Operand} {px py : List Prop} {j i k : Nat} {rs : List PairT} {s : List Int} (hk : WL P E ops Q rest (σ.seth j (.row (.recs 2 ((rs.set i ((rs.getD i ([], [])).1, s)).map prL))))) (hop : o.op = .store t x y := by exact rfl) (hg : o.guard = none := by exact rfl) (hdn : o.dst = none := by exact rfl) (hx : ox σ x = (px, .c (.pel j 2 i k)) := by exact rfl) (hk1 : k = 1 := by exact rfl) (hb : σ.hp j = .row (.recs 2 (rs.map prL)) := by exact rfl)
   (hy : ox σ y = (py, .c (.lf (.ints .u8 s))) := by exact rfl) (hsz : P.cellsOf t = 1 := by first | (simp; done) | fail) (hp : AllP (px ++ py) := by exact vcs) (hlt : i < rs.length := by first | omega | (simp; done) | (simp; omega) | (simp at *; omega)) : WL P E ops Q (o :: rest) σ := WL_skip hg _ (stb_storeP hop hdn hx hk1 hy hp hb hsz hlt).k hk
end
abbrev rtB (L : List PairT) : Blk := .cells [.own 1 2 0 L.length]
abbrev rowP (L : List PairT) : Blk := .row (.recs 2 (L.map prL))
def plP : List PairT → List Int → Nat × Bool
 | [], _ => (0, false)
 | p :: L, n => if 0 ≤ cmpL p.1 n then (0, decide (cmpL p.1 n = 0)) else ((plP L n).1 + 1, (plP L n).2)
theorem plP_le : ∀ (L : List PairT) (n : List Int), (plP L n).1 ≤ L.length ∧ ((plP L n).2 = true → (plP L n).1 < L.length)
 | [], _ => by simp [plP]
 | p :: L, n => by
   have ih := plP_le L n
   unfold plP
   split
   · simp
   · simp only [List.length_cons]; exact ⟨by omega, fun h => by have := ih.2 h; omega⟩
theorem plP_drop : ∀ (L : List PairT) (i : Nat) (n : List Int), i ≤ L.length → (∀ j, j < i → cmpL (L.getD j ([], [])).1 n < 0) → plP L n = ((plP (L.drop i) n).1 + i, (plP (L.drop i) n).2)
 | L, 0, n, _, _ => by simp
 | [], i + 1, n, h, _ => by simp at h
 | p :: L, i + 1, n, h, hj => by
   have h0 := hj 0 (by omega)
   have ih := plP_drop L i n (by simpa using h) (fun j hj2 => by have := hj (j + 1) (by omega); simpa using this)
   simp only [List.getD_cons_zero] at h0
   rw [plP, if_neg (by omega), List.drop_succ_cons, ih]
   simp only [Prod.mk.injEq, and_true]
   omega
set_option maxHeartbeats 8000000 in
theorem rplace_ok (L : List PairT) (n : List Int) (hL : L.length ≤ 100000) (hls : ∀ p ∈ L, p.1.length ≤ 1000000) (hn1 : n.length ≤ 1000000) :
   Ct Tryz.prog 20 [.c (.ptr 0 0), B8 n] [rtB L, rowP L] (.tup [lv (.int .i64 ((plP L n).1 : Int)), lv (.bool (plP L n).2)]) [rtB L, rowP L] [] := by
 refine Ct_intro Tryz.func20 rfl rfl rfl rfl rfl (fun E hn hb => ?_)
 repeat refine nx ?_
 refine W_weaken (St.le_of (l := [(0, .c (.ptr 0 0)), (1, B8 n), (6, lv (.int .i64 ((0 : Nat) : Int)))]) (h := [(0, rtB L), (1, rowP L)]) (by refine ⟨?_, ?_⟩ <;> (repeat' (first | exact trivial | exact rfl | refine ⟨?_, ?_⟩)) <;> first | exact rfl | (simp; done) | skip)) ?_
 refine W_loop (ι := {i : Nat // i ≤ L.length ∧ ∀ j, j < i → cmpL (L.getD j ([], [])).1 n < 0}) (fun i => St.of [(0, .c (.ptr 0 0)), (1, B8 n), (6, lv (.int .i64 (i.1 : Int)))] [(0, rtB L), (1, rowP L)]) (fun i => L.length - i.1) (fun i => ?_) ⟨0, by omega, fun j h => by omega⟩
 obtain ⟨i, hi, hj⟩ := i
 dsimp only
 by_cases hi2 : i < L.length
 · have hm : L.getD i ([], []) ∈ L := by
     rw [List.getD_eq_getElem?_getD, List.getElem?_eq_getElem hi2]
     exact List.getElem_mem hi2
   have hc := compare_ok (L.getD i ([], [])).1 n (hls _ hm) hn1
   have hd : L.drop i = L.getD i ([], []) :: L.drop (i + 1) := by
     rw [List.drop_eq_getElem_cons hi2, List.getD_eq_getElem?_getD, List.getElem?_eq_getElem hi2]
     rfl
   have hpl := plP_drop L i n hi hj
   rw [hd] at hpl
   by_cases hq : 0 ≤ cmpL (L.getD i ([], [])).1 n
   · rw [plP, if_pos hq] at hpl
     rw [hpl]
     generalize hcc : cmpL (L.getD i ([], [])).1 n = c at *
     repeat (first | refine nx ?_ | refine lp1 hn ?_)
     simp only [Nat.zero_add]
     exact rt1 []
   · have hj2 : ∀ j, j < i + 1 → cmpL (L.getD j ([], [])).1 n < 0 := fun j h => by
       by_cases h2 : j = i
       · subst h2; omega
       · exact hj j (by omega)
     clear hpl
     generalize hcc : cmpL (L.getD i ([], [])).1 n = c at *
     repeat (first | refine nx ?_ | refine lp1 hn ?_)
     refine N_round ⟨i + 1, by omega, hj2⟩ (by dsimp only; omega) (St.le_of ⟨⟨rfl, rfl, rfl⟩, ⟨rfl, rfl⟩⟩)
 · obtain rfl : i = L.length := by omega
   have hpl := plP_drop L L.length n (Nat.le_refl _) hj
   rw [List.drop_length] at hpl
   simp only [plP, Nat.zero_add] at hpl
   rw [hpl]
   repeat refine nx ?_
   exact rt1 []
abbrev rtD (L : List PairT) : Blk := .cells [.lf (.recs 2 (L.map prL))]
set_option maxHeartbeats 8000000 in
theorem rplace_okD (L : List PairT) (n : List Int) (hL : L.length ≤ 100000) (hls : ∀ p ∈ L, p.1.length ≤ 1000000) (hn1 : n.length ≤ 1000000) :
   Ct Tryz.prog 20 [.c (.ptr 0 0), B8 n] [rtD L] (.tup [lv (.int .i64 ((plP L n).1 : Int)), lv (.bool (plP L n).2)]) [rtD L] [] := by
 refine Ct_intro Tryz.func20 rfl rfl rfl rfl rfl (fun E hn hb => ?_)
 repeat refine nx ?_
 refine W_weaken (St.le_of (l := [(0, .c (.ptr 0 0)), (1, B8 n), (6, lv (.int .i64 ((0 : Nat) : Int)))]) (h := [(0, rtD L)]) (by refine ⟨?_, ?_⟩ <;> (repeat' (first | exact trivial | exact rfl | refine ⟨?_, ?_⟩)) <;> first | exact rfl | (simp; done) | skip)) ?_
 refine W_loop (ι := {i : Nat // i ≤ L.length ∧ ∀ j, j < i → cmpL (L.getD j ([], [])).1 n < 0}) (fun i => St.of [(0, .c (.ptr 0 0)), (1, B8 n), (6, lv (.int .i64 (i.1 : Int)))] [(0, rtD L)]) (fun i => L.length - i.1) (fun i => ?_) ⟨0, by omega, fun j h => by omega⟩
 obtain ⟨i, hi, hj⟩ := i
 dsimp only
 by_cases hi2 : i < L.length
 · have hm : L.getD i ([], []) ∈ L := by
     rw [List.getD_eq_getElem?_getD, List.getElem?_eq_getElem hi2]
     exact List.getElem_mem hi2
   have hc := compare_ok (L.getD i ([], [])).1 n (hls _ hm) hn1
   have hd : L.drop i = L.getD i ([], []) :: L.drop (i + 1) := by
     rw [List.drop_eq_getElem_cons hi2, List.getD_eq_getElem?_getD, List.getElem?_eq_getElem hi2]
     rfl
   have hpl := plP_drop L i n hi hj
   rw [hd] at hpl
   by_cases hq : 0 ≤ cmpL (L.getD i ([], [])).1 n
   · rw [plP, if_pos hq] at hpl
     rw [hpl]
     generalize hcc : cmpL (L.getD i ([], [])).1 n = c at *
     repeat (first | refine nx ?_ | refine lp1 hn ?_)
     simp only [Nat.zero_add]
     exact rt1 []
   · have hj2 : ∀ j, j < i + 1 → cmpL (L.getD j ([], [])).1 n < 0 := fun j h => by
       by_cases h2 : j = i
       · subst h2; omega
       · exact hj j (by omega)
     clear hpl
     generalize hcc : cmpL (L.getD i ([], [])).1 n = c at *
     repeat (first | refine nx ?_ | refine lp1 hn ?_)
     refine N_round ⟨i + 1, by omega, hj2⟩ (by dsimp only; omega) (St.le_of ⟨⟨rfl, rfl, rfl⟩, rfl⟩)
 · obtain rfl : i = L.length := by omega
   have hpl := plP_drop L L.length n (Nat.le_refl _) hj
   rw [List.drop_length] at hpl
   simp only [plP, Nat.zero_add] at hpl
   rw [hpl]
   repeat refine nx ?_
   simp only [List.length_map]
   exact rt1 []
def gtP (L : List PairT) (n : List Int) : Option (List Int) := if (plP L n).2 = true then some (L.getD (plP L n).1 ([], [])).2 else none
theorem rget_ok (L : List PairT) (n s : List Int) (hL : L.length ≤ 100000) (hls : ∀ p ∈ L, p.1.length ≤ 1000000) (hn1 : n.length ≤ 1000000) (hf : gtP L n = some s) :
   Ct Tryz.prog 11 [.c (.ptr 0 0), B8 n] [rtB L, rowP L] (.tup [B8 s, lv (.int .i64 0)]) [rtB L, rowP L] [] := by
 have h1 := rplace_ok L n hL hls hn1
 have hle := plP_le L n
 unfold gtP at hf
 generalize plP L n = A at *
 obtain ⟨i, f⟩ := A
 dsimp only at *
 cases f with
 | false => simp at hf
 | true =>
   have hlt := hle.2 rfl
   rw [if_pos rfl] at hf
   have hf := Option.some.inj hf
   subst hf
   refine Ct_intro Tryz.func11 rfl rfl rfl rfl rfl (fun E hn hb => ?_)
   repeat (first | refine nx ?_ | refine lp1 hn ?_)
   exact rt1 []
theorem rget_no (L : List PairT) (n : List Int) (hL : L.length ≤ 100000) (hls : ∀ p ∈ L, p.1.length ≤ 1000000) (hn1 : n.length ≤ 1000000) (hf : gtP L n = none) :
   Ct Tryz.prog 11 [.c (.ptr 0 0), B8 n] [rtB L, rowP L] (.tup [B8 [], lv (.int .i64 14)]) [rtB L, rowP L] [] := by
 have h1 := rplace_ok L n hL hls hn1
 unfold gtP at hf
 generalize plP L n = A at *
 obtain ⟨i, f⟩ := A
 dsimp only at *
 cases f with
 | true => simp at hf
 | false =>
   refine Ct_intro Tryz.func11 rfl rfl rfl rfl rfl (fun E hn hb => ?_)
   repeat (first | refine nx ?_ | refine lp1 hn ?_)
   exact rtU []
theorem rput_err (L : List PairT) (n s : List Int) (hb2 : ¬ (1 ≤ n.length ∧ n.length ≤ 64 ∧ 1 ≤ s.length ∧ s.length ≤ 256)) (hn1 : n.length ≤ 1000000) (hs1 : s.length ≤ 1000000) :
   Ct Tryz.prog 7 [.c (.ptr 0 0), B8 n, B8 s] [rtB L, rowP L] (lv (.int .i64 1)) [rtB L, rowP L] [] := by
 refine Ct_intro Tryz.func7 rfl rfl rfl rfl rfl (fun E hn hb => ?_)
 by_cases h1 : n.length < 1
 · repeat refine nx ?_
   exact rt1 []
 · by_cases h2 : 64 < n.length
   · repeat refine nx ?_
     exact rt1 []
   · by_cases h3 : s.length < 1
     · repeat refine nx ?_
       exact rt1 []
     · have h4 : 256 < s.length := by omega
       repeat refine nx ?_
       exact rt1 []
theorem rput_upd (L : List PairT) (n s : List Int) (hL : L.length ≤ 100000) (hls : ∀ p ∈ L, p.1.length ≤ 1000000) (hn1 : 1 ≤ n.length ∧ n.length ≤ 64) (hs1 : 1 ≤ s.length ∧ s.length ≤ 256) (hf : (plP L n).2 = true) :
   Ct Tryz.prog 7 [.c (.ptr 0 0), B8 n, B8 s] [rtB L, rowP L] (lv (.int .i64 0)) [rtB L, rowP (L.set (plP L n).1 ((L.getD (plP L n).1 ([], [])).1, s))] [] := by
 have h1 := rplace_ok L n hL hls (by omega)
 have hle := plP_le L n
 have hlt := hle.2 hf
 rw [hf] at h1
 generalize (plP L n).1 = i at *
 refine Ct_intro Tryz.func7 rfl rfl rfl rfl rfl (fun E hn hb => ?_)
 repeat (first | refine nx ?_ | refine smp1 ?_ | refine lp1 hn ?_)
 exact rt1 []
set_option maxHeartbeats 8000000 in
theorem rput_new (L : List PairT) (n s : List Int) (hL : L.length ≤ 100) (hls : ∀ p ∈ L, p.1.length ≤ 1000000) (hn1 : 1 ≤ n.length ∧ n.length ≤ 64) (hs1 : 1 ≤ s.length ∧ s.length ≤ 256) (hf : (plP L n).2 = false) :
   Ct Tryz.prog 7 [.c (.ptr 0 0), B8 n, B8 s] [rtD L] (lv (.int .i64 0)) [.cells [.own 1 2 0 (L.take (plP L n).1 ++ (n, s) :: L.drop (plP L n).1).length]] [rowP (L.take (plP L n).1 ++ (n, s) :: L.drop (plP L n).1)] := by
 have h1 := rplace_okD L n (by omega) hls (by omega)
 have hle := plP_le L n
 rw [hf] at h1
 generalize (plP L n).1 = i at *
 have e : [] ++ (L.map prL).take (i : Int).toNat ++ [[Leaf.ints .u8 n, Leaf.ints .u8 s]] ++ (L.map prL).drop (i : Int).toNat = (L.take i ++ (n, s) :: L.drop i).map prL := by
   simp [List.map_take, List.map_drop]
 refine Ct_intro Tryz.func7 rfl rfl rfl rfl rfl (fun E hn hb => ?_)
 repeat refine nx ?_
 rw [e]
 simp only [List.length_map]
 exact rt1 [113]
end Go.Proofs.YtohfhephkjihfaaGreat

namespace Go.Proofs.YtohfhephkjihfaaGreat
set_option linter.unusedSimpArgs false
set_option linter.unusedVariables false
open Go.Sx
set_option maxRecDepth 10000
theorem strN_inj {a b : List Int} (ha : WfB a) (hb : WfB b) (h : strOfNums a = strOfNums b) : a = b := by
 rw [← bsN ha, ← bsN hb, h]
def gtR : List PairT → List Int → Option (List Int)
 | [], _ => none
 | p :: L, n => if cmpL p.1 n < 0 then gtR L n else if cmpL p.1 n = 0 then some p.2 else none
def insP : List PairT → List Int → List Int → List PairT
 | [], n, s => [(n, s)]
 | p :: L, n, s => if cmpL p.1 n < 0 then p :: insP L n s else if cmpL p.1 n = 0 then (p.1, s) :: L else (n, s) :: p :: L
theorem plP_cons (p : PairT) (L : List PairT) (n : List Int) : plP (p :: L) n = if 0 ≤ cmpL p.1 n then (0, decide (cmpL p.1 n = 0)) else ((plP L n).1 + 1, (plP L n).2) := rfl
theorem gtP_R : ∀ (L : List PairT) (n : List Int), gtP L n = gtR L n
 | [], n => by simp [gtP, plP, gtR]
 | p :: L, n => by
   have ih := gtP_R L n
   unfold gtP at ih ⊢
   unfold gtR
   by_cases h : cmpL p.1 n < 0
   · rw [plP_cons, if_neg (show ¬ 0 ≤ cmpL p.1 n by omega), if_pos h, ← ih]
     dsimp only
     rw [List.getD_cons_succ]
   · rw [plP_cons, if_pos (show 0 ≤ cmpL p.1 n by omega), if_neg h]
     dsimp only
     by_cases h2 : cmpL p.1 n = 0
     · rw [decide_eq_true h2, if_pos rfl, if_pos h2]
       rfl
     · rw [decide_eq_false h2, if_neg (by decide), if_neg h2]
theorem ins_new : ∀ (L : List PairT) (n s : List Int), (plP L n).2 = false → L.take (plP L n).1 ++ (n, s) :: L.drop (plP L n).1 = insP L n s
 | [], n, s, _ => by simp [plP, insP]
 | p :: L, n, s, h => by
   unfold plP at h ⊢
   unfold insP
   by_cases hc : cmpL p.1 n < 0
   · rw [if_neg (by omega)] at h
     rw [if_neg (by omega), if_pos hc, ← ins_new L n s h]
     simp
   · rw [if_pos (by omega)] at h
     rw [if_pos (by omega), if_neg hc, if_neg (by simpa using h)]
     simp
theorem ins_upd : ∀ (L : List PairT) (n s : List Int), (plP L n).2 = true → L.set (plP L n).1 ((L.getD (plP L n).1 ([], [])).1, s) = insP L n s
 | [], n, s, h => by simp [plP] at h
 | p :: L, n, s, h => by
   unfold plP at h ⊢
   unfold insP
   by_cases hc : cmpL p.1 n < 0
   · rw [if_neg (by omega)] at h
     rw [if_neg (by omega), if_pos hc, ← ins_upd L n s h]
     simp
   · rw [if_pos (by omega)] at h
     rw [if_pos (by omega), if_neg hc, if_pos (by simpa using h)]
     simp
theorem pl_none (L : List PairT) (n : List Int) : (plP L n).2 = false ↔ gtR L n = none := by
 rw [← gtP_R]
 unfold gtP
 cases (plP L n).2 <;> simp
theorem insP_len : ∀ (L : List PairT) (n s : List Int), (insP L n s).length ≤ L.length + 1
 | [], n, s => by simp [insP]
 | p :: L, n, s => by
   have ih := insP_len L n s
   unfold insP
   split
   · simp only [List.length_cons]; omega
   · split <;> simp only [List.length_cons] <;> omega
theorem ins_mem {n s : List Int} {q : PairT} : ∀ {L : List PairT}, q ∈ insP L n s → (q.1 = n ∨ ∃ r ∈ L, q.1 = r.1) ∧ (q.2 = s ∨ ∃ r ∈ L, q.2 = r.2)
 | [], h => by
   simp only [insP, List.mem_singleton] at h
   subst h
   exact ⟨.inl rfl, .inl rfl⟩
 | p :: L, h => by
   unfold insP at h
   split at h
   · rcases List.mem_cons.1 h with rfl | h
     · exact ⟨.inr ⟨_, List.mem_cons_self .., rfl⟩, .inr ⟨_, List.mem_cons_self .., rfl⟩⟩
     · obtain ⟨a, b⟩ := ins_mem h
       exact ⟨a.imp id fun ⟨r, h1, h2⟩ => ⟨r, List.mem_cons_of_mem _ h1, h2⟩, b.imp id fun ⟨r, h1, h2⟩ => ⟨r, List.mem_cons_of_mem _ h1, h2⟩⟩
   · split at h
     · rcases List.mem_cons.1 h with rfl | h
       · exact ⟨.inr ⟨_, List.mem_cons_self .., rfl⟩, .inl rfl⟩
       · exact ⟨.inr ⟨_, List.mem_cons_of_mem _ h, rfl⟩, .inr ⟨_, List.mem_cons_of_mem _ h, rfl⟩⟩
     · rcases List.mem_cons.1 h with rfl | h
       · exact ⟨.inl rfl, .inl rfl⟩
       · exact ⟨.inr ⟨_, h, rfl⟩, .inr ⟨_, h, rfl⟩⟩
def okN (n s : List Int) : Bool := decide (1 ≤ n.length) && (decide (n.length ≤ 64) && (decide (1 ≤ s.length) && decide (s.length ≤ 256)))
end Go.Proofs.YtohfhephkjihfaaGreat

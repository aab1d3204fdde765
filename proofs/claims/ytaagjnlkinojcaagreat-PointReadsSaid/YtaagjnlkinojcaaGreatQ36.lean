/-
  Chapter 16's law PointReads, walked: it returns true. The conditions: rows that a machine can hold.
-/
import Derived.Test.YtaagjnlkinojcaaGreatSxN
import Derived.Test.YtaagjnlkinojcaaGreatSxQ
import Derived.Test.YtaagjnlkinojcaaGreatQ25
import Derived.Test.YtaagjnlkinojcaaGreatQ29
import Derived.Test.YtaagjnlkinojcaaGreatP3
import Derived.Test.YtaagjnlkinojcaaGreatQ33
namespace Go.Sx
open Go
set_option linter.unusedVariables false
set_option linter.unusedSimpArgs false
section
variable {E : Env} {σ : St} {a : Act} {w : World} {β : Nat → Option Nat} {F : Nat → Prop}
end
theorem SR.cell_nilS {E : Env} {σ : St} {a : Act} {w : World} (sz j i K : Nat) {cs cs' : List Cell} (hj : σ.hp j = .cells cs) (hi : cs[i]? = some (.lf (.v (.slice none 0 0)))) (hK : Nat.ble 64 K = true) (hne : Nat.beq j K = false) (hcs : ((cs.map (Cell.kill K)).set i (.own K sz 0 0)) = cs') (h : SR E σ a w) :
   SR E (((σ.kill K).seth K (.row (.recs sz []))).seth j (.cells cs')) a w := by
 subst hcs
 have hjK : j ≠ K := by intro e; subst e; simp at hne
 obtain ⟨β, F, h⟩ := h
 have hK64 : 64 ≤ K := by simpa using hK
 have hk := h.kill K (by have := h.nbl; omega)
 have hB := hk.hp j
 have hjk : (σ.kill K).hp j = .cells (cs.map (Cell.kill K)) := by simp [St.kill, hjK, hj, Blk.kill]
 rw [hjk] at hB
 obtain ⟨g, cur, e1, e2, e3, e4⟩ := hB
 have h2 : SRb E (fun i => if i = K then none else β i) F ((σ.kill K).seth K (.row (.recs sz []))) a w := by
   refine ⟨hk.tm, hk.sz, hk.df, fun i => ?_, fun i l g h1 h2 e1 e2 => ?_, fun i g h1 e => ?_, hk.lt, hk.fr, hk.keep, hk.bb, hk.nbl⟩
   · by_cases e : i = K
     · subst e
       simp only [St.seth, if_true]
       exact ⟨fun r hr => by simp at hr, .inl ⟨rfl, fun g hg => by simp at hg⟩⟩
     · simpa [St.seth, e] using hk.hp i
   · by_cases ek : i = K
     · subst ek; simp at e1
     · by_cases el : l = K
       · subst el; simp at e2
       · exact hk.inj i l g (by simpa [St.seth, ek] using h1) (by simpa [St.seth, el] using h2) e1 e2
   · by_cases ek : i = K
     · subst ek; simp at e
     · exact hk.own i g (by simpa [St.seth, ek] using h1) e
 refine ⟨_, F, h2.setBlk (j := j) (by simp [St.seth, hjK, hjk]) ⟨g, cur, e1, e2, by simpa using e3, fun m x v hx hv => ?_⟩⟩
 rw [List.getElem?_set] at hx
 split at hx
 · rename_i him
   subst him
   split at hx
   · simp only [Option.some.injEq] at hx
     subst hx
     have h5 : (cs.map (Cell.kill K))[i]? = some (.lf (.v (.slice none 0 0))) := by rw [List.getElem?_map, hi]; rfl
     have := e4 i _ v h5 hv
     cases this with | lf h => cases h with | v _ _ => exact .own _ _ _ _ _ _ (Nat.le_refl _) (by decide) (.inl rfl)
   · cases hx
 · exact e4 m x v hx hv
section
variable {P : Program} {E : Env} {ops : Array Oper} {Q : Exit → Act → World → Prop} {rest : List Oper} {o : Oper} {σ : St}
section
variable {ns b own : List Nat} {bs : List (List Nat × List Nat)} {l : List Oper} {K : St → Prop}
theorem duF {id : Nat} {l : List Oper} (ns : List Nat) (ws : List (Nat × Nat)) (h : z0e P E l.toArray ns bs l (σ.kills ns) (fun τ => WL P E l.toArray Q [] τ)) (hm : P.follows .mixedOrders = true := by kernel_rfl)
   (hbs : z3V (z66 l.toArray ws 0 l) some = some bs := by exact rfl) (hB : z67 l.toArray l ns ws = true := by kernel_rfl) (h64 : ns.all (Nat.ble 64) = true := by exact rfl) : W P E (.region id l.toArray true) Q σ := z9d ns ws hm hB hbs h64 h
end
end
theorem Ct.m {P : Program} {f : FuncId} {args : List Av} {bor : List Blk} {res : Av} {bor' news : List Blk} (h : Ct P f args bor res bor' news) : CtM P f args bor res bor' news := by
 obtain ⟨h1, h2, h3⟩ := h
 refine ⟨h1, h2, fun w β F vs a1 a2 a3 a4 a5 a6 a7 a8 => (h3 w β F vs a1 a2 a3 a4 a5 a6 a7 a8).mono fun e w' hq => ?_⟩
 obtain ⟨v, β', F', q1, q2, q3, q4, q5⟩ := hq
 exact ⟨v, β', F', q1, q2, q3, q4, ⟨q5.hb, fun i j g hi hj _ _ => q5.inj i j g hi hj, fun j g hj _ => q5.own j g hj, fun j g hj e => (q5.own j g hj e).1, fun i g hi e => .inl (q5.new i g hi e), q5.fr, q5.keep⟩⟩
section
variable {P : Program} {E : Env} {ops : Array Oper} {Q : Exit → Act → World → Prop} {rest : List Oper} {o : Oper} {σ : St}
end
theorem ztY {E : Env} {Q : Exit → Act → World → Prop} {σ : St} {d : Leaf} {cs cs' : List Cell} {m : Nat} {e : Exit} (j K : Nat) (h : N E Q e ((σ.kill j).seth K (.cells cs'))) (hj : σ.hp j = .row d := by exact rfl) (hK : σ.hp K = .cells cs := by exact rfl) (hne : Nat.beq K j = false := by exact rfl) (hnb : E.nb = m := by exact hb) (hjn : Nat.ble m j = true := by exact rfl) (hl : (List.range m).all (fun i => match σ.hp i with | .gone => false | _ => true) = true := by exact rfl) (hc : cs.all (z8x j d) = true := by exact rfl)
   (hf : z2p (cs.map (z7V j d)) some = some cs' := by exact rfl) (hp : z03 (z2E j d cs) := by first | trivial | exact rfl | (simp [z2E, z03, z0c]; done)) : N E Q e σ := fun a w hS => h a w (SR.frzc j K hj hK hne hnb hjn hl hc hp hf hS)
end Go.Sx

namespace Go.Proofs.YtaagjnlkinojcaaGreat
set_option linter.unusedSimpArgs false
set_option linter.unusedVariables false
open Go.Sx
set_option maxRecDepth 10000
theorem z5u {α : Type} {l : List α} {i : Nat} {d : α} (h : i < l.length) : l.take (i + 1) = l.take i ++ [l.getD i d] := by
 rw [List.take_add_one, List.getD_eq_getElem?_getD, List.getElem?_eq_getElem h]
 rfl
theorem z6n (l : List AtT) (a : AtT) : (l ++ [a]).map atL = l.map atL ++ [atL a] := List.map_append
theorem za6 (l : List (List AtT)) (r : List AtT) : nmR (l ++ [r]) = nmR l ++ [[z1t r]] := List.map_append
set_option maxHeartbeats 8000000 in
theorem zhU (n : List (List AtT)) (hb1 : NmB n) : Ct Tryz.prog 26 [nmV n] [] (nmV n) [] [] := by
 have hml : (n.map fun r => [z1t r]).length = n.length := List.length_map ..
 refine z00 Tryz.func26 rfl rfl rfl rfl rfl (fun E hn hb => ?_)
 repeat refine nx ?_
 refine z10 3 900 1 (.recs 1 []) rfl rfl (.inr (.inr ⟨_, rfl⟩)) ?_
 refine z0a (St.le_of (l := [(0, nmV n), (3, .c (.own 900 1 0 (nmR (n.take 0)).length)), (4, lv (.int .i64 ((0 : Nat) : Int)))]) (h := [(900, .row (.recs 1 (nmR (n.take 0))))]) (by refine ⟨?_, ?_⟩ <;> (repeat' (first | exact trivial | exact rfl | refine ⟨?_, ?_⟩)) <;> first | exact rfl | (simp; done) | skip)) ?_
 refine z0j (ι := {i : Nat // i ≤ n.length}) (fun i => St.of [(0, nmV n), (3, .c (.own 900 1 0 (nmR (n.take i.1)).length)), (4, lv (.int .i64 (i.1 : Int)))] [(900, .row (.recs 1 (nmR (n.take i.1))))]) (fun i => n.length - i.1) (fun i => ?_) ⟨0, Nat.zero_le _⟩
 obtain ⟨i, hi⟩ := i
 dsimp only
 have hmt : (nmR (n.take i)).length = i := by rw [List.length_map, List.length_take]; omega
 have hlb := hb1.1
 by_cases hi2 : i < n.length
 · have hq : n.getD (i : Int).toNat [] = n.getD i [] := rfl
   have hbr := hb1.2 _ (z2Z (d := []) hi2)
   have hsn := z5u (d := []) hi2
   generalize hA : n.getD i [] = r at *
   have hmr : (r.map atL).length = r.length := List.length_map ..
   repeat refine nx ?_
   refine z10 5 901 2 (.recs 2 []) rfl rfl (.inr (.inr ⟨_, rfl⟩)) ?_
   refine z0a (St.le_of (l := [(0, nmV n), (3, .c (.own 900 1 0 (nmR (n.take i)).length)), (4, lv (.int .i64 (i : Int))), (5, .c (.own 901 2 0 ((r.take 0).map atL).length)), (6, lv (.int .i64 ((0 : Nat) : Int)))]) (h := [(900, .row (.recs 1 (nmR (n.take i)))), (901, .row (.recs 2 ((r.take 0).map atL)))]) (by refine ⟨?_, ?_⟩ <;> (repeat' (first | exact trivial | exact rfl | refine ⟨?_, ?_⟩)) <;> first | exact rfl | (simp; done) | skip)) ?_
   refine z0j (ι := {j : Nat // j ≤ r.length}) (fun j => St.of [(0, nmV n), (3, .c (.own 900 1 0 (nmR (n.take i)).length)), (4, lv (.int .i64 (i : Int))), (5, .c (.own 901 2 0 ((r.take j.1).map atL).length)), (6, lv (.int .i64 (j.1 : Int)))] [(900, .row (.recs 1 (nmR (n.take i)))), (901, .row (.recs 2 ((r.take j.1).map atL)))]) (fun j => r.length - j.1) (fun j => ?_) ⟨0, Nat.zero_le _⟩
   obtain ⟨j, hj⟩ := j
   dsimp only
   have hrt : ((r.take j).map atL).length = j := by rw [List.length_map, List.length_take]; omega
   by_cases hj2 : j < r.length
   · have hq2 : r.getD (j : Int).toNat default = r.getD j atD := rfl
     have hsr := z5u (d := atD) hj2
     generalize hB : r.getD j atD = a at *
     obtain ⟨o, v⟩ := a
     repeat (first | refine nxw ?_ | rw [hq])
     refine duF [105] [(19, 105), (19, 901)] ?_
     repeat (first | refine nx ?_ | rw [hq] | rw [hq2])
     refine z54 (fun a w h => SR.mv 105 901 rfl rfl rfl rfl rfl h) ?_
     refine z06 ⟨j + 1, by omega⟩ (by dsimp only; omega) (St.le_of ⟨⟨rfl, rfl, rfl, ?_, rfl⟩, ⟨rfl, ?_⟩⟩)
     · dsimp only; rw [hsr, z6n]; rfl
     · dsimp only; rw [hsr, z6n]; rfl
   · obtain rfl : j = r.length := by omega
     repeat (first | refine nx ?_ | rw [hq])
     rw [List.take_length]
     refine ztI 43 ?_
     repeat refine nx ?_
     refine z06 ⟨i + 1, by omega⟩ (by dsimp only; omega) (St.le_of ⟨⟨rfl, ?_, rfl⟩, ?_⟩)
     · dsimp only; rw [hsn, za6]; rfl
     · dsimp only; rw [hsn, za6]; rfl
 · obtain rfl : i = n.length := by omega
   rw [List.take_length]
   repeat refine nx ?_
   refine z2O 2 ?_
   exact rt1 []
theorem zhV (g : GnT) (h : GnB g) : Ct Tryz.prog 77 [gnA g] [] (gnA g) [] [] := by
 have hn14 := zhU g.2.2 h.n
 obtain ⟨k, b, n⟩ := g
 dsimp only at hn14
 refine z00 Tryz.func77 rfl rfl rfl rfl rfl (fun E hn hb => ?_)
 repeat refine nx ?_
 exact rt1 []
set_option maxHeartbeats 4000000 in
theorem zbv (l : List GnT) (hl : l.length ≤ 1000000) (h : ∀ g ∈ l, GnB g) : Ct Tryz.prog 28 [gnV l] [] (gnV l) [] [] := by
 have hml : (gnR l).length = l.length := List.length_map ..
 refine z00 Tryz.func28 rfl rfl rfl rfl rfl (fun E hn hb => ?_)
 repeat refine nx ?_
 refine z10 3 900 3 (.recs 3 []) rfl rfl (.inr (.inr ⟨_, rfl⟩)) ?_
 refine z0a (St.le_of (l := [(0, gnV l), (3, .c (.own 900 3 0 (gnR (l.take 0)).length)), (4, lv (.int .i64 ((0 : Nat) : Int)))]) (h := [(900, .row (.recs 3 (gnR (l.take 0))))]) (by refine ⟨?_, ?_⟩ <;> (repeat' (first | exact trivial | exact rfl | refine ⟨?_, ?_⟩)) <;> first | exact rfl | (simp; done) | skip)) ?_
 refine z0j (ι := {i : Nat // i ≤ l.length}) (fun i => St.of [(0, gnV l), (3, .c (.own 900 3 0 (gnR (l.take i.1)).length)), (4, lv (.int .i64 (i.1 : Int)))] [(900, .row (.recs 3 (gnR (l.take i.1))))]) (fun i => l.length - i.1) (fun i => ?_) ⟨0, Nat.zero_le _⟩
 obtain ⟨i, hi⟩ := i
 dsimp only
 have hmt : (gnR (l.take i)).length = i := by rw [List.length_map, List.length_take]; omega
 by_cases hi2 : i < l.length
 · have hq : l.getD (i : Int).toNat default = l.getD i gn0 := rfl
   have hof := zhV _ (h _ (z2Z (d := gn0) hi2))
   have hsn := z5u (d := gn0) hi2
   generalize l.getD i gn0 = g at *
   obtain ⟨k, b, n⟩ := g
   repeat (first | refine nx ?_ | rw [hq])
   refine z06 ⟨i + 1, by omega⟩ (by dsimp only; omega) (St.le_of ⟨⟨rfl, ?_, rfl⟩, ?_⟩)
   · dsimp only; rw [hsn, z4h]; rfl
   · dsimp only; rw [hsn, z4h]; rfl
 · obtain rfl : i = l.length := by omega
   rw [List.take_length]
   repeat refine nx ?_
   refine z2O 2 ?_
   exact rt1 []
theorem zf3 (l : List Int) (hl : l.length ≤ 1000000) : Ct Tryz.prog 67 [I64 l, I64 l] [] (lv (.bool true)) [] [] := by
 refine z00 Tryz.func67 rfl rfl rfl rfl rfl (fun E hn hb => ?_)
 repeat refine nx ?_
 refine z0a (St.le_of (l := [(0, I64 l), (1, I64 l), (4, lv (.bool false)), (5, lv (.int .i64 ((0 : Nat) : Int)))]) (h := []) (by refine ⟨?_, ?_⟩ <;> (repeat' (first | exact trivial | exact rfl | refine ⟨?_, ?_⟩)) <;> first | exact rfl | (simp; done) | skip)) ?_
 refine z0j (ι := {i : Nat // i ≤ l.length}) (fun i => St.of [(0, I64 l), (1, I64 l), (4, lv (.bool false)), (5, lv (.int .i64 (i.1 : Int)))] []) (fun i => l.length - i.1) (fun i => ?_) ⟨0, Nat.zero_le _⟩
 obtain ⟨i, hi⟩ := i
 dsimp only
 by_cases hi2 : i < l.length
 · repeat refine nx ?_
   refine z06 ⟨i + 1, by omega⟩ (by dsimp only; omega) (St.le_of ⟨⟨rfl, rfl, rfl, rfl⟩, trivial⟩)
 · repeat refine nx ?_
   exact rt1 []
set_option maxHeartbeats 8000000 in
theorem za7 (n : List (List AtT)) (hb1 : NmB n) : Ct Tryz.prog 76 [nmV n, nmV n] [] (lv (.bool true)) [] [] := by
 have hml : (n.map fun r => [z1t r]).length = n.length := List.length_map ..
 have hlb := hb1.1
 refine z00 Tryz.func76 rfl rfl rfl rfl rfl (fun E hn hb => ?_)
 repeat refine nx ?_
 refine z0a (St.le_of (l := [(0, nmV n), (1, nmV n), (4, lv (.bool false)), (5, lv (.int .i64 ((0 : Nat) : Int)))]) (h := []) (by refine ⟨?_, ?_⟩ <;> (repeat' (first | exact trivial | exact rfl | refine ⟨?_, ?_⟩)) <;> first | exact rfl | (simp; done) | skip)) ?_
 refine z0j (ι := {i : Nat // i ≤ n.length}) (fun i => St.of [(0, nmV n), (1, nmV n), (4, lv (.bool false)), (5, lv (.int .i64 (i.1 : Int)))] []) (fun i => n.length - i.1) (fun i => ?_) ⟨0, Nat.zero_le _⟩
 obtain ⟨i, hi⟩ := i
 dsimp only
 by_cases hi2 : i < n.length
 · have hq : n.getD (i : Int).toNat [] = n.getD i [] := rfl
   have hbr := hb1.2 _ (z2Z (d := []) hi2)
   generalize hA : n.getD i [] = r at *
   have hmr : (r.map atL).length = r.length := List.length_map ..
   have hrl := hbr.1
   repeat (first | refine nx ?_ | rw [hq])
   refine z0a (St.le_of (l := [(0, nmV n), (1, nmV n), (4, lv (.bool false)), (5, lv (.int .i64 (i : Int))), (6, lv (.int .i64 ((0 : Nat) : Int)))]) (h := []) (by refine ⟨?_, ?_⟩ <;> (repeat' (first | exact trivial | exact rfl | refine ⟨?_, ?_⟩)) <;> first | exact rfl | (simp; done) | skip)) ?_
   refine z0j (ι := {j : Nat // j ≤ r.length}) (fun j => St.of [(0, nmV n), (1, nmV n), (4, lv (.bool false)), (5, lv (.int .i64 (i : Int))), (6, lv (.int .i64 (j.1 : Int)))] []) (fun j => r.length - j.1) (fun j => ?_) ⟨0, Nat.zero_le _⟩
   obtain ⟨j, hj⟩ := j
   dsimp only
   by_cases hj2 : j < r.length
   · have hq2 : r.getD (j : Int).toNat default = r.getD j atD := rfl
     have hab := hbr.2 _ (z2Z (d := atD) hj2)
     generalize hB : r.getD j atD = a at *
     obtain ⟨o, v⟩ := a
     have h1 := zdC o o hab.o hab.o
     have h2 := zcC v v (by have := hab.l; dsimp only at this; omega) (by have := hab.l; dsimp only at this; omega)
     rw [decide_eq_true rfl] at h1 h2
     repeat (first | refine nx ?_ | rw [hq] | rw [hq2])
     refine z06 ⟨j + 1, by omega⟩ (by dsimp only; omega) (St.le_of ⟨⟨rfl, rfl, rfl, rfl, rfl⟩, trivial⟩)
   · obtain rfl : j = r.length := by omega
     repeat (first | refine nx ?_ | rw [hq])
     refine z06 ⟨i + 1, by omega⟩ (by dsimp only; omega) (St.le_of ⟨⟨rfl, rfl, rfl, rfl⟩, trivial⟩)
 · obtain rfl : i = n.length := by omega
   repeat refine nx ?_
   exact rt1 []
set_option maxHeartbeats 8000000 in
theorem za8 (l : List GnT) (hl : l.length ≤ 1000000) (h : ∀ g ∈ l, GnB g) : Ct Tryz.prog 27 [gnV l, gnV l] [] (lv (.bool true)) [] [] := by
 have hml : (gnR l).length = l.length := List.length_map ..
 refine z00 Tryz.func27 rfl rfl rfl rfl rfl (fun E hn hb => ?_)
 repeat refine nx ?_
 refine z0a (St.le_of (l := [(0, gnV l), (1, gnV l), (4, lv (.bool false)), (5, lv (.int .i64 ((0 : Nat) : Int)))]) (h := []) (by refine ⟨?_, ?_⟩ <;> (repeat' (first | exact trivial | exact rfl | refine ⟨?_, ?_⟩)) <;> first | exact rfl | (simp; done) | skip)) ?_
 refine z0j (ι := {i : Nat // i ≤ l.length}) (fun i => St.of [(0, gnV l), (1, gnV l), (4, lv (.bool false)), (5, lv (.int .i64 (i.1 : Int)))] []) (fun i => l.length - i.1) (fun i => ?_) ⟨0, Nat.zero_le _⟩
 obtain ⟨i, hi⟩ := i
 dsimp only
 by_cases hi2 : i < l.length
 · have hq : l.getD (i : Int).toNat default = l.getD i gn0 := rfl
   have hab := h _ (z2Z (d := gn0) hi2)
   generalize l.getD i gn0 = g at *
   obtain ⟨k, b, n⟩ := g
   have h1 := za7 n hab.n
   have h2 := zcC b b (by have := hab.l; dsimp only at this; omega) (by have := hab.l; dsimp only at this; omega)
   rw [decide_eq_true rfl] at h2
   repeat (first | refine nx ?_ | rw [hq])
   refine z06 ⟨i + 1, by omega⟩ (by dsimp only; omega) (St.le_of ⟨⟨rfl, rfl, rfl, rfl⟩, trivial⟩)
 · obtain rfl : i = l.length := by omega
   repeat refine nx ?_
   exact rt1 []

theorem zgv (t : Bool) (w : WhT) (h : WhB w) : Ct Tryz.prog 66 [rwA t w, rwA t w] [] (lv (.bool true)) [] [] := by
 obtain ⟨g, s⟩ := w
 have h1 := za8 g h.l h.g
 have h2 := za7 [s] ⟨Nat.le_of_ble_eq_true rfl, fun r hr => by rw [List.mem_singleton.1 hr]; exact ⟨h.s, h.a⟩⟩
 cases t
 · refine z00 Tryz.func66 rfl rfl rfl rfl rfl (fun E hn hb => ?_)
   repeat (first | refine nx ?_ | refine lgE hn ?_)
   exact rt1 []
 · refine z00 Tryz.func66 rfl rfl rfl rfl rfl (fun E hn hb => ?_)
   repeat (first | refine nx ?_ | refine lgE hn ?_)
   exact rt1 []
theorem za9 (p : PtT) (h : PtB p) : Ct Tryz.prog 18 [z5x p, z5x p] [] (lv (.bool true)) [] [] := by
 obtain ⟨o, r, g⟩ := p
 obtain ⟨h1, h2, h3, h4⟩ := h
 dsimp only at *
 have hw := zgv o.isSome (whD o) (by cases o with | none => exact ⟨Nat.zero_le _, fun _ h => absurd h List.not_mem_nil, Nat.zero_le _, fun _ h => absurd h List.not_mem_nil⟩ | some w => exact h1)
 have hi := zf3 r h2
 have hg := za8 g h3 h4
 refine z00 Tryz.func18 rfl rfl rfl rfl rfl (fun E hn hb => ?_)
 repeat refine nx ?_
 exact rt1 []
theorem zdJ (o : Option WhT) (h : z9k o) : Ct Tryz.prog 23 [wpV o] [] (rwA o.isSome (whD o)) [] [] := by
 rcases o with _ | ⟨g, s⟩
 · refine z00 Tryz.func23 rfl rfl rfl rfl rfl (fun E hn hb => ?_)
   repeat refine nx ?_
   refine rtU [] (hu := ?_)
   exact ⟨.inl rfl, .inr ⟨rfl, .inr ⟨_, rfl⟩⟩, .inr ⟨rfl, .inr ⟨_, rfl⟩⟩, trivial⟩
 · have ha := zbv g h.l h.g
   refine z00 Tryz.func23 rfl rfl rfl rfl rfl (fun E hn hb => ?_)
   repeat refine nx ?_
   refine zfx (fun a w h => SR.cell_nilS 2 67 2 901 rfl rfl rfl rfl rfl h) ?_
   refine z0a (St.le_of (l := [(0, wpV (some (g, s))), (3, .c (.ptr 67 0)), (2, .c (.ptr 66 0)), (4, lv (.int .i64 ((0 : Nat) : Int)))]) (h := [(66, .cells [.lf (.v (.bool false)), .lf (.v (.slice none 0 0)), .lf (.v (.slice none 0 0))]), (67, .cells [.lf (.v (.bool true)), .lf (.recs 3 (gnR g)), .own 901 2 0 ((s.take 0).map atL).length]), (901, .row (.recs 2 ((s.take 0).map atL)))]) (by refine ⟨?_, ?_⟩ <;> (repeat' (first | exact trivial | exact rfl | refine ⟨?_, ?_⟩)) <;> first | exact rfl | (simp; done) | skip)) ?_
   refine z0j (ι := {j : Nat // j ≤ s.length}) (fun j => St.of [(0, wpV (some (g, s))), (3, .c (.ptr 67 0)), (2, .c (.ptr 66 0)), (4, lv (.int .i64 (j.1 : Int)))] [(66, .cells [.lf (.v (.bool false)), .lf (.v (.slice none 0 0)), .lf (.v (.slice none 0 0))]), (67, .cells [.lf (.v (.bool true)), .lf (.recs 3 (gnR g)), .own 901 2 0 ((s.take j.1).map atL).length]), (901, .row (.recs 2 ((s.take j.1).map atL)))]) (fun j => s.length - j.1) (fun j => ?_) ⟨0, Nat.zero_le _⟩
   obtain ⟨j, hj⟩ := j
   dsimp only
   have hms : (s.map atL).length = s.length := List.length_map ..
   have hrt : ((s.take j).map atL).length = j := by rw [List.length_map, List.length_take]; omega
   have hsl := h.s
   dsimp only at hsl
   by_cases hj2 : j < s.length
   · have hq2 : s.getD (j : Int).toNat default = s.getD j atD := rfl
     have hsr := z5u (d := atD) hj2
     generalize hB : s.getD j atD = a at *
     obtain ⟨o, v⟩ := a
     repeat (first | refine nxw ?_)
     refine duF [107] [(20, 107), (20, 901), (22, 67)] ?_
     repeat (first | refine nx ?_ | rw [hq2])
     refine z54 (fun a w h => SR.mv 107 901 rfl rfl rfl rfl rfl h) ?_
     refine z06 ⟨j + 1, by omega⟩ (by dsimp only; omega) (St.le_of ⟨⟨rfl, rfl, rfl, rfl⟩, ⟨rfl, ?_, ?_⟩⟩)
     · dsimp only; rw [hsr, z6n]; rfl
     · dsimp only; rw [hsr, z6n]; rfl
   · obtain rfl : j = s.length := by omega
     rw [List.take_length]
     repeat refine nx ?_
     refine ztY 901 66 ?_
     exact rt1 []
theorem zcz (p : PtT) (h : PtB p) : Ct Tryz.prog 19 [ptA p] [] (z5x p) [] [] := by
 obtain ⟨o, r, g⟩ := p
 obtain ⟨h1, h2, h3, h4⟩ := h
 dsimp only at *
 have hw := zdJ o h1
 have hg := zbv g h3 h4
 rcases o with _ | ⟨g', s'⟩
 · refine z00 Tryz.func19 rfl rfl rfl rfl rfl (fun E hn hb => ?_)
   repeat refine nx ?_
   exact rt1 []
 · refine z00 Tryz.func19 rfl rfl rfl rfl rfl (fun E hn hb => ?_)
   repeat refine nx ?_
   exact rt1 []

theorem z8b : PtB (none, [], []) := ⟨trivial, Nat.zero_le _, Nat.zero_le _, fun _ h => absurd h List.not_mem_nil⟩
theorem zmo {x : List Int} (hw : WfB x) (hl : x.length ≤ 98000) : PtB (z6m x).1 := by
 have h1 := zgR hw hl 0 (2, 0, true)
 unfold z6m
 dsimp only
 generalize z0o none x 0 (2, 0, true) z41 = A at *
 obtain ⟨a, pa, ea⟩ := A
 dsimp only at *
 split
 · have h2 := zgS x pa (2, 1, false)
   generalize z0o [] x pa (2, 1, false) z1U = B at *
   obtain ⟨b, pb, eb⟩ := B
   dsimp only at *
   split
   · have h3 := z34 [] x pb (2, 2, true) z0y
     generalize z0o [] x pb (2, 2, true) z0y = C at *
     obtain ⟨c, pc, ec⟩ := C
     dsimp only at *
     have hc : (∀ g ∈ c, GnB g) ∧ c.length ≤ 10000 := by
       rcases h3 with h | ⟨y, q1, q2, q3, q4⟩
       · subst h; exact ⟨fun _ h => absurd h List.not_mem_nil, Nat.zero_le _⟩
       · subst q4; exact z9l (fun z hz => hw z (q2 z hz)) (by omega) q3
     split
     · split
       · exact z8b
       · split
         · exact ⟨h1, by dsimp only; omega, by have := hc.2; dsimp only; omega, hc.1⟩
         · exact z8b
     · exact z8b
   · exact z8b
 · exact z8b
theorem zf4 {l : List Int} (hw : WfB l) (hl : l.length ≤ 98000) (p : Nat) (hp : p ≤ l.length) : PtB (z1H l p).1 := by
 have hm := z0w l p (ofT 16)
 unfold z1H
 dsimp only
 generalize z0g l p (ofT 16) = X at *
 obtain ⟨y, q, e⟩ := X
 dsimp only at *
 split
 · split
   · exact zmo (fun z hz => hw z (hm.2 z hz)) (by omega)
   · exact z8b
 · exact z8b
theorem zcA {x : List Int} (hw : WfB x) (hl : x.length ≤ 98000) : ∀ (f p : Nat) (acc : List PtT), p ≤ x.length → (∀ g ∈ acc, PtB g) → acc.length ≤ 10000 → (∀ g ∈ (z36 x f p acc).1, PtB g) ∧ (z36 x f p acc).1.length ≤ 10000
 | 0, p, acc, _, _, _ => ⟨fun _ h => absurd h List.not_mem_nil, Nat.zero_le _⟩
 | f + 1, p, acc, hp, h1, h2 => by
   rw [z36]
   split
   · split
     · exact ⟨fun _ h => absurd h List.not_mem_nil, Nat.zero_le _⟩
     · dsimp only
       split
       · have hb := zf4 hw hl p hp
         refine zcA hw hl f _ _ (z9o x p hp).2 (fun g hg => ?_) (by rw [List.length_append, List.length_singleton]; omega)
         rcases List.mem_append.1 hg with hg | hg
         · exact h1 g hg
         · rw [List.mem_singleton.1 hg]; exact hb
       · exact ⟨fun _ h => absurd h List.not_mem_nil, Nat.zero_le _⟩
   · exact ⟨h1, h2⟩
theorem zhW {l : List Int} (hw : WfB l) (hl : l.length ≤ 98000) : (∀ g ∈ (z3F l 0).1, PtB g) ∧ (z3F l 0).1.length ≤ 10000 := by
 have hm := z0w l 0 (ofT 16)
 have hn : (∀ g ∈ ([] : List PtT), PtB g) ∧ ([] : List PtT).length ≤ 10000 := ⟨fun _ h => absurd h List.not_mem_nil, Nat.zero_le _⟩
 unfold z3F
 dsimp only
 generalize z0g l 0 (ofT 16) = X at *
 obtain ⟨y, q, e⟩ := X
 dsimp only at *
 split
 · split
   · exact hn
   · split
     · exact zcA (fun z hz => hw z (hm.2 z hz)) (by omega) _ 0 [] (Nat.zero_le _) (fun _ h => absurd h List.not_mem_nil) (Nat.zero_le _)
     · exact hn
 · exact hn
abbrev ptD : PtT := (none, [], [])
set_option maxHeartbeats 16000000 in
theorem zbW (b0 : List Int) (hl0 : b0.length ≤ 9223372036854775807) (hw0 : WfB b0) : Ct Tryz.prog 4 [B8 b0] [] (lv (.bool true)) [] [] := by
 have hkn := zdB
 have hlb : (b0.take (min (b0.length : Int) 2000).toNat).length ≤ 2000 := by simp; omega
 have hwb : WfB (b0.take (min (b0.length : Int) 2000).toNat) := fun x hx => hw0 x (List.mem_of_mem_take hx)
 refine z00 Tryz.func4 rfl rfl rfl rfl rfl (fun E hn hb => ?_)
 repeat refine nxw ?_
 generalize b0.take (min (b0.length : Int) 2000).toNat = b at *
 have hcn := z2M b (by omega)
 have h1 := z6K b 0 (Nat.zero_le _) (by omega) hwb
 have h2 := z6y b 0 (Nat.zero_le _) (by omega) hwb
 have h3 := zad b 0 (Nat.zero_le _) (by omega) hwb
 have h4 := z9m b 0 (Nat.zero_le _) (by omega) hwb
 have b1 := zf4 hwb (by omega) 0 (Nat.zero_le _)
 have b2 := zhW hwb (by omega)
 have hc1 := zcz _ b1
 have hc2 := za9 _ b1
 generalize z1H b 0 = R at *
 obtain ⟨p, q, e⟩ := R
 generalize z3F b 0 = R2 at *
 obtain ⟨m, q2, e2⟩ := R2
 dsimp only at *
 have hat1 := z1q b q
 have hat2 := z1q b q2
 obtain ⟨o, r, g⟩ := p
 have hmp : (ptR m).length = m.length := List.length_map ..
 have hmr : (z6f m).length = m.length := List.length_map ..
 have hloop : ∀ (i : Nat), i < m.length → Ct Tryz.prog 19 [ptA (m.getD i ptD)] [] (z5x (m.getD i ptD)) [] [] ∧ Ct Tryz.prog 18 [z5x (m.getD i ptD), z5x (m.getD i ptD)] [] (lv (.bool true)) [] [] := fun i hi => by
   have := b2.1 _ (z2Z (d := ptD) hi)
   exact ⟨zcz _ this, za9 _ this⟩
 rcases o with _ | ⟨g', s'⟩
 all_goals
   repeat refine nx ?_
   refine z0a (St.le_of (l := [(2, lv (.bool false)), (10, ptV m), (12, zgb m), (15, lv (.int .i64 ((0 : Nat) : Int)))]) (h := []) (by refine ⟨?_, ?_⟩ <;> (repeat' (first | exact trivial | exact rfl | refine ⟨?_, ?_⟩)) <;> first | exact rfl | (simp; done) | skip)) ?_
   refine z0j (ι := {i : Nat // i ≤ m.length}) (fun i => St.of [(2, lv (.bool false)), (10, ptV m), (12, zgb m), (15, lv (.int .i64 (i.1 : Int)))] []) (fun i => m.length - i.1) (fun i => ?_) ⟨0, Nat.zero_le _⟩
   obtain ⟨i, hi⟩ := i
   dsimp only
   by_cases hi2 : i < m.length
   · have hq : m.getD (i : Int).toNat default = m.getD i ptD := rfl
     obtain ⟨d1, d2⟩ := hloop i hi2
     generalize m.getD i ptD = z at *
     repeat (first | refine nx ?_ | rw [hq])
     refine z06 ⟨i + 1, by omega⟩ (by dsimp only; omega) (St.le_of ⟨⟨rfl, rfl, rfl, rfl⟩, trivial⟩)
   · obtain rfl : i = m.length := by omega
     repeat refine nx ?_
     exact rt1 []
end Go.Proofs.YtaagjnlkinojcaaGreat

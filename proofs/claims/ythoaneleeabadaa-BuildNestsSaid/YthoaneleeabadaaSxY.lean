/-
  Rows of rows and of structs that came in, as data. No condition.
-/
import Derived.Test.YthoaneleeabadaaB21
import Derived.Test.YthoaneleeabadaaD8
namespace Go.Proofs.Ythoaneleeabadaa
set_option linter.unusedSimpArgs false
set_option linter.unusedVariables false
open Go.Sx

set_option maxRecDepth 10000

theorem frcN {E : Env} {Q : Exit → Act → World → Prop} {σ : St} {d : Leaf} {cs cs' : List Cell} {m : Nat} {e : Exit} (j K : Nat) (h : N E Q e ((σ.kill j).seth K (.cells cs'))) (hj : σ.hp j = .row d := by exact rfl) (hK : σ.hp K = .cells cs := by exact rfl) (hne : Nat.beq K j = false := by exact rfl) (hnb : E.nb = m := by exact hb) (hjn : Nat.ble m j = true := by exact rfl) (hl : (List.range m).all (fun i => match σ.hp i with | .gone => false | _ => true) = true := by exact rfl) (hc : cs.all (condK j d) = true := by exact rfl)
    (hf : forceCL (cs.map (frzK j d)) some = some cs' := by exact rfl) (hp : AllP (lensK j d cs) := by first | trivial | exact rfl | (simp [lensK, AllP, lenD]; done)) : N E Q e σ := fun a w hS => h a w (SR.frzc j K hj hK hne hnb hjn hl hc hp hf hS)
abbrev tagLf (t : TagP) : List Leaf := [.v (.int .i64 t.1), .v (.int .i64 t.2.1), .v (.bool t.2.2)]
abbrev tagsA (l : List TagP) : Av := .c (.lf (.recs 3 (l.map tagLf)))
theorem lawto2_ok (t : TagP) : Ct Try.prog 14 [tagA t] [] (tagA t) [] [] := by
  refine Ct_intro Try.func14 rfl rfl rfl rfl rfl (fun E hn hb => ?_)
  repeat refine nx ?_
  exact rt1 []
/-- The right ones. -/
def okT (l : List TagP) : List TagP := l.filter rightT
theorem okT_next (l : List TagP) (i : Nat) (h : i < l.length) : okT (l.take (i + 1)) = okT (l.take i) ++ (if rightT (l.getD i default) = true then [l.getD i default] else []) := by
  unfold okT
  rw [List.take_succ_eq_append_getElem h, List.filter_append, List.getD_eq_getElem?_getD, List.getElem?_eq_getElem h]
  cases hr : rightT l[i] <;> simp [List.filter, hr]
/-- The frames around, and the innermost one's tag. -/
def frs (ts : List TagP) : List TagP := (tag0 :: ts).dropLast
def curT (ts : List TagP) : TagP := (tag0 :: ts).getLastD tag0
theorem frs_cur (ts : List TagP) : frs ts ++ [curT ts] = tag0 :: ts := by
  unfold frs curT
  rw [List.getLastD_eq_getLast?, List.getLast?_eq_some_getLast (by simp)]
  exact List.dropLast_concat_getLast (by simp)
theorem frs_next (ts : List TagP) (x : TagP) : frs (ts ++ [x]) = frs ts ++ [curT ts] := by
  rw [frs_cur]
  unfold frs
  rw [← List.cons_append, List.dropLast_concat]
theorem cur_next (ts : List TagP) (x : TagP) : curT (ts ++ [x]) = x := by
  unfold curT
  rw [← List.cons_append, List.getLastD_eq_getLast?, List.getLast?_append]
  rfl
theorem frs_len (ts : List TagP) : (frs ts).length = ts.length := by simp [frs]
/-- Wholes within wholes. -/
def nestL : List TagP → List Int → List Int
  | [], b => b
  | t :: ts, b => wrapL t (nestL ts b)
theorem nest_len (b : List Int) : ∀ ts : List TagP, (nestL ts b).length ≤ b.length + 20 * ts.length
  | [] => by simp [nestL]
  | t :: ts => by
    have h1 := wrap_len t (nestL ts b)
    have h2 := nest_len b ts
    simp only [nestL, List.length_cons] at *
    omega
theorem nest_wf {b : List Int} (hb : WfB b) : ∀ ts : List TagP, (∀ t ∈ ts, rightT t = true) → WfB (nestL ts b)
  | [], _ => hb
  | t :: ts, h => wrap_wf t _ (h t (List.mem_cons_self ..)) (nest_wf hb ts fun x hx => h x (List.mem_cons_of_mem _ hx))
theorem nest_drop (b : List Int) (ts : List TagP) (m : Nat) (h : m < ts.length) : nestL (ts.drop m) b = wrapL (ts.getD m default) (nestL (ts.drop (m + 1)) b) := by
  rw [List.drop_eq_getElem_cons h, List.getD_eq_getElem?_getD, List.getElem?_eq_getElem h]
  rfl
theorem okT_right {l : List TagP} : ∀ t ∈ okT l, rightT t = true := fun t h => (List.mem_filter.1 h).2
set_option maxHeartbeats 4000000 in
theorem nests8_ok (L : List TagP) (b0 : List Int) (hl0 : L.length ≤ 9223372036854775807) (hl1 : b0.length ≤ 9223372036854775807) (hw1 : WfB b0) : Ct Try.prog 5 [tagsA L, B8 b0] [] (lv (.bool true)) [] [] := by
  have hkn := known8_ok
  have hnew := bnew_ok
  have hlw : (b0.take (min (b0.length : Int) 100).toNat).length ≤ 100 := by simp; omega
  have hwf : WfB (b0.take (min (b0.length : Int) 100).toNat) := fun x hx => hw1 x (List.mem_of_mem_take hx)
  refine Ct_intro Try.func5 rfl rfl rfl rfl rfl (fun E hn hb => ?_)
  repeat refine nx ?_
  generalize b0.take (min (b0.length : Int) 100).toNat = b at *
  refine W_own_nil 6 900 3 (.recs 3 []) rfl rfl (.inr (.inr ⟨_, rfl⟩)) ?_
  refine W_sr (fun a w h => cell_nilR 5 83 5 901 rfl rfl rfl rfl rfl h) ?_
  refine W_weaken (St.le_of (l := [(0, tagsA L), (1, B8 b), (5, .c (.ptr 83 0)), (6, .c (.own 900 3 0 (okT (L.take 0)).length)), (7, lv (.int .i64 ((0 : Nat) : Int)))]) (h := [(900, .row (.recs 3 ((okT (L.take 0)).map tagLf))), (83, shF false (curT (okT (L.take 0))) nilC (.own 901 5 0 (frs (okT (L.take 0))).length) 0), (901, r5 (frs (okT (L.take 0))))]) (by refine ⟨?_, ?_⟩ <;> (repeat' (first | exact trivial | exact rfl | refine ⟨?_, ?_⟩)) <;> first | exact rfl | (simp; done) | skip)) ?_
  refine W_loop (ι := {i : Nat // i ≤ L.length ∧ i ≤ 20}) (fun i => St.of [(0, tagsA L), (1, B8 b), (5, .c (.ptr 83 0)), (6, .c (.own 900 3 0 (okT (L.take i.1)).length)), (7, lv (.int .i64 (i.1 : Int)))] [(900, .row (.recs 3 ((okT (L.take i.1)).map tagLf))), (83, shF false (curT (okT (L.take i.1))) nilC (.own 901 5 0 (frs (okT (L.take i.1))).length) 0), (901, r5 (frs (okT (L.take i.1))))]) (fun i => L.length - i.1) (fun i => ?_) ⟨0, Nat.zero_le _, Nat.zero_le _⟩
  obtain ⟨i, hi, hi20⟩ := i
  dsimp only
  have hml : (okT (L.take i)).length ≤ i := Nat.le_trans (List.length_filter_le _ _) (by simp; omega)
  have hrt : ∀ t ∈ okT (L.take i), rightT t = true := okT_right
  by_cases hc : i < L.length ∧ i < 20
  · obtain ⟨hc1, hc2⟩ := hc
    have n1 := okT_next L i hc1
    have c1 := refright2_ok (L.getD i default)
    have hto := lawto2_ok (L.getD i default)
    generalize okT (L.take i) = ts at *
    have hfl := frs_len ts
    have ho := bOpenN_ok (curT ts) (L.getD i default) (frs ts) (by omega)
    cases hr : rightT (L.getD i default) with
    | true =>
      rw [hr] at c1 n1
      rw [if_pos rfl] at n1
      repeat refine nx ?_
      refine s_callM [83, 901] ho rfl rfl (by rw [hn]; rfl) rfl rfl (by trivial) ⟨rfl, ⟨rfl, rfl⟩, (by simp [ordL]), rfl⟩ ?_
      repeat refine nx ?_
      refine N_sr (fun a w h => SR.mv 112 901 rfl rfl rfl rfl rfl h) ?_
      refine N_round ⟨i + 1, by omega, by omega⟩ (by dsimp only; omega) (St.le_of ⟨⟨rfl, rfl, rfl, ?_, rfl⟩, ⟨?_, ?_, ?_⟩⟩)
      · have e : (ts ++ [L.getD i default]).length = (ts.map tagLf ++ [tagLf (L.getD i default)]).length := by simp
        dsimp only; rw [n1, e]; rfl
      · dsimp only; rw [n1, List.map_append]; rfl
      · dsimp only; rw [n1, cur_next, frs_next]; rfl
      · dsimp only; rw [n1, frs_next]; rfl
    | false =>
      rw [hr] at c1 n1
      rw [if_neg (by simp), List.append_nil] at n1
      repeat refine nx ?_
      refine N_round ⟨i + 1, by omega, by omega⟩ (by dsimp only; omega) (St.le_of ⟨⟨rfl, rfl, rfl, ?_, rfl⟩, ⟨?_, ?_, ?_⟩⟩)
      · dsimp only; rw [n1]; rfl
      · dsimp only; rw [n1]; rfl
      · dsimp only; rw [n1]; rfl
      · dsimp only; rw [n1]; rfl
  · generalize okT (L.take i) = ts at *
    have hfl := frs_len ts
    have hdp := depthN_ok (curT ts) ((frs ts).map frL)
    have hpt := bputN_ok (curT ts) b ((frs ts).map frL) (by omega)
    repeat refine nx ?_
    refine frcL 901 83 ?_
    refine frzL 6 ?_
    repeat refine nx ?_
    refine frcW 121 83 ?_
    have hts : ts.length ≤ 20 := by omega
    have hall : (frs ts).map frL = ((tag0 :: ts).take ts.length).map frL := by
      rw [← frs_cur ts, ← hfl, List.take_left']
      rfl
    have hcur : curT ts = (tag0 :: ts).getD ts.length tag0 := by
      rw [← frs_cur ts, ← hfl, List.getD_eq_getElem?_getD, List.getElem?_append_right (Nat.le_refl _), Nat.sub_self]
      rfl
    rw [hall, hcur]
    have hd0 : b = nestL (ts.drop ts.length) b := by rw [List.drop_length]; rfl
    have hz : lv (.int .i64 0) = lv (.int .i64 ((ts.length - ts.length : Nat) : Int)) := by simp
    have hz2 : shE false ((tag0 :: ts).getD ts.length tag0) b (.recs 5 (((tag0 :: ts).take ts.length).map frL)) 0 = shE false ((tag0 :: ts).getD ts.length tag0) (nestL (ts.drop ts.length) b) (.recs 5 (((tag0 :: ts).take ts.length).map frL)) 0 := by rw [← hd0]
    refine W_weaken (St.le_of (l := [(1, B8 b), (5, .c (.ptr 83 0)), (6, tagsA ts), (8, lv (.int .i64 0))]) (h := [(83, shE false ((tag0 :: ts).getD ts.length tag0) b (.recs 5 (((tag0 :: ts).take ts.length).map frL)) 0)]) (by refine ⟨?_, ?_⟩ <;> (repeat' (first | exact trivial | exact rfl | refine ⟨?_, ?_⟩)) <;> first | exact rfl | (simp; done) | skip)) ?_
    rw [hz, hz2]
    refine W_loop (ι := {m : Nat // m ≤ ts.length}) (fun m => St.of [(1, B8 b), (5, .c (.ptr 83 0)), (6, tagsA ts), (8, lv (.int .i64 ((ts.length - m.1 : Nat) : Int)))] [(83, shE false ((tag0 :: ts).getD m.1 tag0) (nestL (ts.drop m.1) b) (.recs 5 (((tag0 :: ts).take m.1).map frL)) 0)]) (fun m => m.1) (fun m => ?_) ⟨ts.length, Nat.le_refl _⟩
    obtain ⟨m, hm⟩ := m
    dsimp only
    rcases m with _ | m
    · have hnl0 := nest_len b ts
      have hby := bbytes_ok (nestL ts b) (by omega)
      repeat refine nx ?_
      have hnw := nest_wf hwf ts hrt
      have hab := same_ok b b (by omega) (by omega)
      rw [decide_eq_true rfl] at hab
      refine W_weaken (St.le_of (l := [(1, B8 b), (6, tagsA ts), (9, B8 (nestL (ts.drop 0) b)), (11, lv (.int .i64 ((0 : Nat) : Int)))]) (h := []) (by refine ⟨?_, ?_⟩ <;> (repeat' (first | exact trivial | exact rfl | refine ⟨?_, ?_⟩)) <;> first | exact rfl | (simp; done) | skip)) ?_
      refine W_loop (ι := {k : Nat // k ≤ ts.length}) (fun k => St.of [(1, B8 b), (6, tagsA ts), (9, B8 (nestL (ts.drop k.1) b)), (11, lv (.int .i64 (k.1 : Int)))] []) (fun k => ts.length - k.1) (fun k => ?_) ⟨0, Nat.zero_le _⟩
      obtain ⟨k, hk⟩ := k
      dsimp only
      by_cases hk2 : k < ts.length
      · have hkt : ts.getD k default ∈ ts := by rw [List.getD_eq_getElem?_getD, List.getElem?_eq_getElem hk2]; exact List.getElem_mem _
        have hr := hrt _ hkt
        have hnl : (nestL (ts.drop (k + 1)) b).length ≤ 900000 := by
          have h1 := nest_len b (ts.drop (k + 1))
          have h2 : (ts.drop (k + 1)).length ≤ ts.length := by simp
          omega
        have hw2 := nest_wf hwf (ts.drop (k + 1)) fun t h => hrt t (List.mem_of_mem_drop h)
        rw [nest_drop b ts k hk2]
        have hto := lawto2_ok (ts.getD k default)
        have hal := alone_ok (ts.getD k default) (nestL (ts.drop (k + 1)) b) hr hnl (wrap_wf _ _ hr hw2)
        have hre := rest_ok (nestL (ts.drop (k + 1)) b) 0 (Nat.zero_le _) (by omega)
        rw [List.drop_zero] at hre
        generalize hX : nestL (ts.drop (k + 1)) b = X at *
        repeat refine nx ?_
        refine N_round ⟨k + 1, by omega⟩ (by dsimp only; omega) (St.le_of ⟨⟨rfl, rfl, ?_, rfl⟩, trivial⟩)
        dsimp only; rw [hX]; rfl
      · obtain rfl : k = ts.length := by omega
        rw [← hd0]
        repeat refine nx ?_
        refine rt2 [] (congrArg (fun x => lv (.bool x)) ?_) trivial; (simp [eqCs, Cell.kill, Cell.kill1])
    · have hmt : ts.getD m default ∈ ts := by rw [List.getD_eq_getElem?_getD, List.getElem?_eq_getElem (by omega)]; exact List.getElem_mem _
      have hnl : (nestL (ts.drop (m + 1)) b).length ≤ 900000 := by
        have h1 := nest_len b (ts.drop (m + 1))
        have h2 : (ts.drop (m + 1)).length ≤ ts.length := by simp
        omega
      have hsh := bshutN_ok (ts.getD m default) ((tag0 :: ts).getD m tag0) ((tag0 :: ts).take m) (nestL (ts.drop (m + 1)) b) (hrt _ hmt) hnl (by simp; omega)
      rw [← nest_drop b ts m (by omega)] at hsh
      have e1 : (tag0 :: ts).take m ++ [(tag0 :: ts).getD m tag0] = (tag0 :: ts).take (m + 1) := by
        rw [List.take_succ_eq_append_getElem (by simp; omega), List.getD_eq_getElem?_getD, List.getElem?_eq_getElem (by simp; omega)]
        rfl
      rw [e1] at hsh
      have e2 : (((tag0 :: ts).take (m + 1)).map frL).take ((tag0 :: ts).take m).length = ((tag0 :: ts).take m).map frL := by
        rw [← e1, List.map_append, List.take_left' (by simp)]
      rw [e2] at hsh
      have e3 : (tag0 :: ts).getD (m + 1) tag0 = ts.getD m default := by
        rw [List.getD_eq_getElem?_getD, List.getD_eq_getElem?_getD, List.getElem?_cons_succ, List.getElem?_eq_getElem (by omega)]
        rfl
      rw [e3]
      repeat refine nx ?_
      refine frcN 129 83 ?_
      refine N_round ⟨m, by omega⟩ (by dsimp only; omega) (St.le_of ⟨⟨rfl, rfl, rfl, ?_⟩, rfl⟩)
      dsimp only
      have e4 : ((ts.length - m : Nat) : Int) = ((ts.length - (m + 1) : Nat) : Int) + 1 := by omega
      rw [e4]; rfl
end Go.Proofs.Ythoaneleeabadaa

namespace Go.Sx
open Go
open Go.ChangeShapes Go.WideShapes Go.ChangeAt Go.RowKit Go.Joins Go.Deep
set_option linter.unusedVariables false
section
variable {H : Type} {enc : TypeId × Value → H} {P : Program} {w : World} {base : Nat} {spare : Nat → Bool} {held : Bool} {fuel : Nat}

/-- Cells that are read as the leaves of a thing. -/
def LeavesR (w : World) (cs : List Value) (ls : List Leaf) : Prop := cs.length = ls.length ∧ ∀ (j : Nat) (z : Leaf), ls[j]? = some z → ∃ u, cs[j]? = some u ∧ LfR (Was w) w z u

theorem open_recs {α : Type} {t e : TypeId} {sz : Nat} {f : α → List Leaf} {Φ : α → Prop} {v : Value} {x : DataW H × List MemPlace} (ht : P.underlying t = some (.slice e)) (hc : P.cellsOf e = sz) (hsz : sz ≠ 0)
    (hel : ∀ n cs y, cs.length = sz → DataW.trod enc P w base spare held n e cs = some y → ∃ a, Φ a ∧ (f a).length = sz ∧ LeavesR w cs (f a)) (h : DataW.trod enc P w base spare held fuel t [v] = some x) :
    ∃ l : List α, l.length ≤ 9223372036854775807 ∧ (∀ a ∈ l, Φ a) ∧ LfR (Was w) w (.recs sz (l.map f)) v := by
  rcases DataW.trod_slice ht h with ⟨hcs, _⟩ | ⟨a, len, cap, elems, rest, n, _, hcs, _, hb, hl, hm, hlen, hel2, hsp, hns⟩
  · simp at hcs
    subst hcs
    exact ⟨[], by simp, fun a h => (by cases h), LfR.recs _ _ _ _ _ (fun _ _ => undef) rfl (Nat.le_refl _) (Nat.zero_le _) (fun r h => by cases h) (fun h => absurd rfl h) (fun i r j x h => by simp at h)⟩
  · simp at hcs
    subst hcs
    have each : ∀ i : _root_.Fin len, ∃ a' : α, Φ a' ∧ (f a').length = sz ∧ ∀ (j : Nat) (z : Leaf), (f a')[j]? = some z → ∃ u, w.cell? ((a.add (i.val * sz)).add j) = some u ∧ LfR (Was w) w z u := by
      intro i
      have h1 := hel2 i.val i.isLt
      rw [hc] at h1
      have h2 : elems[i.val]? = some elems[i.val] := by simp [hlen]
      rw [h2] at h1
      obtain ⟨cs, e1, e2⟩ := Option.bind_eq_some_iff.1 h1
      obtain ⟨q1, q2, q3⟩ := World.cells?_some e1
      obtain ⟨a', p1, p2, p3, p4⟩ := hel n cs _ q2 e2
      refine ⟨a', p1, p2, fun j z hz => ?_⟩
      obtain ⟨u, u1, u2⟩ := p4 j z hz
      have hj : j < sz := by
        have := (List.getElem?_eq_some_iff.1 hz).1
        omega
      refine ⟨u, ?_, u2⟩
      rw [q3 j hj]
      exact u1
    obtain ⟨g, hg⟩ := Classical.axiomOfChoice each
    have hm' : cap ≤ 9223372036854775807 := hm
    refine ⟨List.ofFn g, by simp; omega, fun a' ha => ?_, ?_⟩
    · obtain ⟨i, rfl⟩ := (List.mem_ofFn).1 ha
      exact (hg i).1
    · have hget : ∀ (i : Nat) (r : List Leaf), ((List.ofFn g).map f)[i]? = some r → ∃ hi : i < len, r = f (g ⟨i, hi⟩) := by
        intro i r hr
        rw [List.getElem?_map, Option.map_eq_some_iff] at hr
        obtain ⟨q, hq, rfl⟩ := hr
        rw [List.getElem?_ofFn] at hq
        split at hq
        · rename_i hi
          exact ⟨hi, by rw [← Option.some.inj hq]⟩
        · cases hq
      obtain ⟨b, o, sp⟩ := a
      have hone : 0 < len → sp = none ∧ b < w.heap.size := by
        intro h0
        obtain ⟨_, p2, p3⟩ := hg ⟨0, h0⟩
        obtain ⟨z, hz⟩ : ∃ z, (f (g ⟨0, h0⟩))[0]? = some z := ⟨(f (g ⟨0, h0⟩))[0]'(by omega), by simp⟩
        obtain ⟨u, u1, _⟩ := p3 0 z hz
        have := cell_in u1
        simp [Addr.add] at this
        exact ⟨this.2, this.1⟩
      refine LfR.recs _ _ _ _ _ (fun i j => (w.cell? ⟨b, o + i * sz + j, none⟩).getD undef) (by simp) hl hm (fun r hr => ?_) (fun hne => ?_) (fun i r j x hi hj => ?_)
      · obtain ⟨a', ha, rfl⟩ := List.mem_map.1 hr
        obtain ⟨i, rfl⟩ := (List.mem_ofFn).1 ha
        exact (hg i).2.1
      · have h0 : 0 < len := by
          rcases Nat.eq_zero_or_pos len with h | h
          · subst h; simp at hne
          · exact h
        obtain ⟨rfl, hb1⟩ := hone h0
        refine ⟨b, o, rfl, hb1, fun i r j x hi hj => ?_⟩
        obtain ⟨hi', rfl⟩ := hget i r hi
        obtain ⟨u, u1, _⟩ := (hg ⟨i, hi'⟩).2.2 j x hj
        rw [add_none, add_none] at u1
        rw [u1]; rfl
      · obtain ⟨hi', rfl⟩ := hget i r hi
        obtain ⟨rfl, hb1⟩ := hone (by omega)
        obtain ⟨u, u1, u2⟩ := (hg ⟨i, hi'⟩).2.2 j x hj
        rw [add_none, add_none] at u1
        rw [u1]; exact u2
/-- Rows of structs of three one-cell fields that came in. -/
theorem open_rows3 {A B C : Type} {t e : TypeId} {f0 f1 f2 : Field} {g0 : A → Leaf} {g1 : B → Leaf} {g2 : C → Leaf} {Φ0 : A → Prop} {Φ1 : B → Prop} {Φ2 : C → Prop} {v : Value} {d : DataW H} {p : List MemPlace} (ht : P.underlying t = some (.slice e)) (hs : P.underlying e = some (.struct #[f0, f1, f2])) (hone : oneCellFields P #[f0, f1, f2] = true) (hC : P.cellsOf e = 3)
    (h0 : ∀ n c y, DataW.trod enc P w base spare held n f0.type [c] = some y → ∃ x, Φ0 x ∧ LfR (Was w) w (g0 x) c) (h1 : ∀ n c y, DataW.trod enc P w base spare held n f1.type [c] = some y → ∃ x, Φ1 x ∧ LfR (Was w) w (g1 x) c) (h2 : ∀ n c y, DataW.trod enc P w base spare held n f2.type [c] = some y → ∃ x, Φ2 x ∧ LfR (Was w) w (g2 x) c)
    {r : Reach} {b0 : Nat} (hv : Value.okWide P w r b0 t v) (h : DataW.Trod enc P w base spare held t v d p) : ∃ l : List (A × B × C), l.length ≤ 9223372036854775807 ∧ (∀ x ∈ l, Φ0 x.1 ∧ Φ1 x.2.1 ∧ Φ2 x.2.2) ∧ ∀ β, AvR β (Was w) w (.c (.lf (.recs 3 (l.map fun x => [g0 x.1, g1 x.2.1, g2 x.2.2])))) v := by
  obtain ⟨a, n, c, rfl⟩ := okWide_slice ht hv
  obtain ⟨fuel, h⟩ := h
  simp only [Value.cells] at h
  obtain ⟨l, k1, k2, k3⟩ := open_recs (f := fun x : A × B × C => [g0 x.1, g1 x.2.1, g2 x.2.2]) (Φ := fun x => Φ0 x.1 ∧ Φ1 x.2.1 ∧ Φ2 x.2.2) ht hC (by decide) (fun n cs y hcs hy => by
    match cs, hcs with
    | [c0, c1, c2], _ =>
      obtain ⟨y0, y1, y2, m, _, _, z0, z1, z2⟩ := trod_struct3 hs hy
      obtain ⟨o0, q0⟩ := hone_of hone 0 f0 rfl
      obtain ⟨o1, q1⟩ := hone_of hone 1 f1 rfl
      obtain ⟨o2, q2⟩ := hone_of hone 2 f2 rfl
      obtain ⟨x0, a0, b0⟩ := h0 m c0 y0 (by simpa [o0, q0] using z0)
      obtain ⟨x1, a1, b1⟩ := h1 m c1 y1 (by simpa [o1, q1] using z1)
      obtain ⟨x2, a2, b2⟩ := h2 m c2 y2 (by simpa [o2, q2] using z2)
      refine ⟨(x0, x1, x2), ⟨a0, a1, a2⟩, rfl, rfl, fun j z hz => ?_⟩
      match j, hz with
      | 0, hz => simp at hz; subst hz; exact ⟨_, rfl, b0⟩
      | 1, hz => simp at hz; subst hz; exact ⟨_, rfl, b1⟩
      | 2, hz => simp at hz; subst hz; exact ⟨_, rfl, b2⟩
      | j + 3, hz => simp at hz) h
  exact ⟨l, k1, k2, fun β => .c (.lf k3)⟩
theorem cell_int {k : IntKind} {ty : TypeId} (ht : P.underlying ty = some (.int k)) : ∀ n c y, DataW.trod enc P w base spare held n ty [c] = some y → ∃ x : Int, (Lit.int k x).wf = true ∧ LfR (Was w) w (.v (.int k x)) c := by
  intro n c y h
  obtain ⟨a, e0, _, w0⟩ := DataW.trod_int ht h
  simp at e0
  subst e0
  exact ⟨_, w0, .v _ rfl⟩
theorem cell_bool {ty : TypeId} (ht : P.underlying ty = some .bool) : ∀ n c y, DataW.trod enc P w base spare held n ty [c] = some y → ∃ x : Bool, True ∧ LfR (Was w) w (.v (.bool x)) c := by
  intro n c y h
  obtain ⟨b, e0, _⟩ := DataW.trod_bool ht h
  simp at e0
  subst e0
  exact ⟨_, trivial, .v _ rfl⟩
end
end Go.Sx

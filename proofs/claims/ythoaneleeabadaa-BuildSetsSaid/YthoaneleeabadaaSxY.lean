/-
  Rows of rows and of structs that came in, as data. No condition.
-/
import Derived.Test.YthoaneleeabadaaB19
import Derived.Test.YthoaneleeabadaaB13
import Derived.Test.YthoaneleeabadaaSxZ
namespace Go.Proofs.Ythoaneleeabadaa
set_option linter.unusedSimpArgs false
set_option linter.unusedVariables false
open Go.Sx

set_option maxRecDepth 10000

theorem fewR_wf {rs : List (List Int)} (h : ∀ b ∈ rs, WfB b) : ∀ r ∈ fewR rs, WfB r := by
  intro r hr
  obtain ⟨q, hq, rfl⟩ := List.mem_map.1 hr
  exact fun x hx => h q (List.mem_of_mem_take hq) x (List.mem_of_mem_take hx)
/-- The wholes that are put. -/
def octR (L : List (List Int)) : List (List Int) := L.map (wrapL (ofT 4))
theorem oct_next (L : List (List Int)) (i : Nat) (h : i < L.length) : octR (L.take (i + 1)) = octR (L.take i) ++ [wrapL (ofT 4) (L.getD i [])] := by
  unfold octR
  rw [List.take_succ_eq_append_getElem h, List.map_append, List.map_cons, List.map_nil, List.getD_eq_getElem?_getD, List.getElem?_eq_getElem h]; rfl
theorem wf_flat {rs : List (List Int)} (h : ∀ r ∈ rs, WfB r) : WfB rs.flatten := by
  intro x hx
  obtain ⟨r, hr, hx⟩ := List.mem_flatten.1 hx
  exact h r hr x hx
/-- How often a row is among others. -/
def cntE (q : List Int) (l : List (List Int)) : Nat := l.countP (fun r => decide (q = r))
theorem cnt_next (q : List Int) (l : List (List Int)) (y : Nat) (h : y < l.length) : cntE q (l.take (y + 1)) = cntE q (l.take y) + (if q = l.getD y [] then 1 else 0) := by
  unfold cntE
  rw [List.take_succ_eq_append_getElem h, List.countP_append, List.getD_eq_getElem?_getD, List.getElem?_eq_getElem h]
  by_cases e : q = l[y] <;> simp [e]
theorem cnt_le (q : List Int) (l : List (List Int)) (y : Nat) : cntE q (l.take y) ≤ l.length := by
  unfold cntE
  exact Nat.le_trans List.countP_le_length (by simp; omega)
theorem cnt_perm (q : List Int) {l m : List (List Int)} (h : l.Perm m) : cntE q l = cntE q m := h.countP_eq _
/-- No rows put. -/
theorem bputs0_ok (s : Bool) (t : TagP) (l : List Int) : Ct Try.prog 12 [.c (.ptr 0 0), rowsA []] [shF s t (.own 1 1 0 l.length) arC 0, r8 l] (.tup []) [shF s t (.own 1 1 0 l.length) arC 0, r8 l] [] := by
  have h := boffs_ok s t l 0
  refine Ct_intro Try.func12 rfl rfl rfl rfl rfl (fun E hn hb => ?_)
  repeat refine nx ?_
  refine W_once ?_
  repeat refine nx ?_
  exact rt1 []
set_option maxHeartbeats 4000000 in
theorem sets8_ok (rs : List (List Int)) (n : Int) (hl0 : rs.length ≤ 9223372036854775807) (hw0 : ∀ b ∈ rs, b.length ≤ 9223372036854775807 ∧ WfB b) (hn0 : (Lit.int .i64 n).wf = true) : Ct Try.prog 6 [rowsA rs, lv (.int .i64 n)] [] (lv (.bool true)) [] [] := by
  have hkn := known8_ok
  have hfew := few8_ok rs hl0
  have hfl := fewR_len rs
  have hfr := fewR_rows rs
  have hfw := fewR_wf (rs := rs) fun b hb => (hw0 b hb).2
  change Ct Try.prog 11 [rowsA rs] [] (rowsA (fewR rs)) [] [] at hfew
  generalize fewR rs = L at *
  have hof := refoft_ok 4
  refine Ct_intro Try.func6 rfl rfl rfl rfl rfl (fun E hn hb => ?_)
  repeat refine nx ?_
  refine W_own_nil 5 900 1 (.recs 1 []) rfl rfl (.inr (.inr ⟨_, rfl⟩)) ?_
  refine W_weaken (St.le_of (l := [(0, rowsA L), (1, lv (.int .i64 n)), (5, .c (.own 900 1 0 0)), (6, lv (.int .i64 ((0 : Nat) : Int)))]) (h := [(900, .row (.recs 1 []))]) (by refine ⟨?_, ?_⟩ <;> (repeat' (first | exact trivial | exact rfl | refine ⟨?_, ?_⟩)) <;> first | exact rfl | (simp; done) | skip)) ?_
  refine W_loop (ι := {i : Nat // i ≤ L.length}) (fun i => St.of [(0, rowsA L), (1, lv (.int .i64 n)), (5, .c (.own 900 1 0 (recB (octR (L.take i.1))).length)), (6, lv (.int .i64 (i.1 : Int)))] [(900, .row (.recs 1 (recB (octR (L.take i.1)))))]) (fun i => L.length - i.1) (fun i => ?_) ⟨0, Nat.zero_le _⟩
  obtain ⟨i, hi⟩ := i
  dsimp only
  by_cases hi2 : i < L.length
  · have h1 := oct_next L i hi2
    have hx : (L.getD i []).length ≤ 100 := by
      rw [List.getD_eq_getElem?_getD, List.getElem?_eq_getElem hi2]
      exact hfr _ (List.getElem_mem hi2)
    have hrw := refwrap_ok (ofT 4) (L.getD i []) (by decide) (by omega)
    have hacl : (octR (L.take i)).length ≤ 10 := by simp [octR]; omega
    generalize octR (L.take i) = acc at *
    have hrec : recB (acc ++ [wrapL (ofT 4) (L.getD i [])]) = recB acc ++ [[.ints .u8 (wrapL (ofT 4) (L.getD i []))]] := by simp [recB]
    repeat refine nxw ?_
    refine W_drawW 8 (by kernel_rfl) (by kernel_rfl) (by kernel_rfl) (by rw [hn]; rfl) rfl rfl ?_
    repeat refine nx ?_
    refine N_round ⟨i + 1, by omega⟩ (by dsimp only; omega) (St.le_of ⟨⟨rfl, rfl, ?_, rfl⟩, ?_⟩)
    · dsimp only; rw [h1, hrec]; rfl
    · dsimp only; rw [h1, hrec]; rfl
  · obtain rfl : i = L.length := by omega
    rw [List.take_length]
    refine frzW 5 ?_
    have hml : (octR L).length = L.length := by simp [octR]
    have hmr : ∀ r ∈ octR L, r.length ≤ 120 := fun r hr => by
      obtain ⟨q, hq, rfl⟩ := List.mem_map.1 hr
      have := wrap_len (ofT 4) q
      have := hfr q hq
      omega
    have hmw : ∀ r ∈ octR L, WfB r := fun r hr => by
      obtain ⟨q, hq, rfl⟩ := List.mem_map.1 hr
      exact wrap_wf _ _ (by decide) (hfw q hq)
    have hms : ∀ r ∈ octR L, IsWhole r := fun r hr => by
      obtain ⟨q, hq, rfl⟩ := List.mem_map.1 hr
      exact ⟨_, _, by decide, by have := hfr q hq; omega, rfl⟩
    generalize octR L = ms at *
    have hff := flat_le ms 120 hmr
    have hf : ms.flatten.length ≤ 1200 := by omega
    have hrb : RowsB ms := fun r hr => by have := hmr r hr; omega
    have hord := isortL_order ms
    have hofl := orderL_flat ms []
    rw [List.flatten_nil, List.length_nil, Nat.zero_add] at hofl
    have s2 := setOf_ok ms (by omega) hrb (by rw [hord]; omega)
    by_cases hm0 : ms.length = 0
    · obtain rfl : ms = [] := List.eq_nil_of_length_eq_zero hm0
      have hi0 : isortL [] = [] := by rw [hord]; rfl
      rw [hi0] at s2
      have hA : (wrapL (ofT 17) ([] : List (List Int)).flatten).length ≤ 20 := by have := wrap_len (ofT 17) ([] : List (List Int)).flatten; simpa using this
      have hAw := wrap_wf (ofT 17) ([] : List (List Int)).flatten (by decide) (by intro x hx; simp at hx)
      have hnew := bnew_ok
      have hos := openset_ok
      have hput := bputs0_ok true (ofT 17) []
      have hsh := bshuts_ok (ofT 17) [] [] (by simp) (by intro x hx; simp at hx) (by rfl) (by simp) (by intro x hx; simp at hx) (by rw [hi0]; simp)
      rw [hi0] at hsh
      have hby := bbytes_ok (wrapL (ofT 17) ([] : List (List Int)).flatten) (by omega)
      have hal := alone_ok (ofT 17) ([] : List (List Int)).flatten (by decide) (by simp) hAw
      have hho := headof_ok 17
      have hso := sorted_ok ([] : List (List Int)).flatten 0 (Nat.zero_le _) (by simp) (by intro x hx; simp at hx)
      have hwh := wholes_ok ([] : List (List Int)).flatten 0 (Nat.zero_le _) (by simp) (by intro x hx; simp at hx)
      have hS2 : wholesP ([] : List (List Int)).flatten 0 = ([], 0) := by rfl
      rw [hS2] at hso hwh
      dsimp only at hso hwh
      rw [if_pos rfl] at hso hwh
      have hS3 : sortedA [] (([] : List (List Int)).length - 1) = true := by rfl
      rw [hS3] at hso
      have hab := same_ok (wrapL (ofT 17) ([] : List (List Int)).flatten) (wrapL (ofT 17) ([] : List (List Int)).flatten) (by omega) (by omega)
      rw [decide_eq_true rfl] at hab
      generalize wrapL (ofT 17) ([] : List (List Int)).flatten = A at *
      repeat refine nx ?_
      refine frcL 136 134 ?_
      repeat refine nx ?_
      refine frcL 141 134 ?_
      repeat refine nx ?_
      refine W_once ?_
      repeat refine nx ?_
      refine rt2 [] (congrArg (fun x => lv (.bool x)) ?_) trivial; (simp [eqCs, Cell.kill, Cell.kill1])
    · repeat refine nx ?_
      refine sp false rfl rfl (by rw [hn]; rfl) (by simp) ?_
      have hU : 0 ≤ IntKind.u64.wrap n ∧ IntKind.u64.wrap n < 18446744073709551616 := by simp only [IntKind.wrap, IntKind.signed, IntKind.bits]; simp; omega
      generalize IntKind.u64.wrap n = U at *
      repeat refine nx ?_
      refine sp true rfl rfl (by rw [hn]; rfl) (by simp; exact ⟨fun h => hm0 (by rw [h]; rfl), hU.1⟩) ?_
      have hR : 0 ≤ U % ((recB ms).length : Int) ∧ U % ((recB ms).length : Int) < (ms.length : Int) := by
        have e : ((recB ms).length : Int) = ms.length := by simp [recB]
        rw [e]
        exact ⟨Int.emod_nonneg _ (by omega), Int.emod_lt_of_pos _ (by omega)⟩
      generalize U % ((recB ms).length : Int) = R at *
      obtain ⟨p, rfl⟩ : ∃ p : Nat, R = p := ⟨R.toNat, by omega⟩
      have hrot : orderL (ms.drop p ++ ms.take p) [] = orderL ms [] := orderL_rot ms p
      have s3 := setOf_ok (ms.drop p ++ ms.take p) (by simp; omega) (fun r hr => (List.mem_append.1 hr).elim (fun h => hrb r (List.mem_of_mem_drop h)) (fun h => hrb r (List.mem_of_mem_take h))) (by rw [isortL_order, hrot]; omega)
      rw [isortL_order, hrot, ← hord] at s3
      have hrr : recB (ms.drop p ++ ms.take p) = ([] ++ (recB ms).drop p) ++ (recB ms).take p := by simp [recB, List.map_drop, List.map_take]
      change Ct Try.prog 36 [.c (.lf (.recs 1 (recB (ms.drop p ++ ms.take p))))] [] _ [] [] at s3
      rw [hrr] at s3
      have hnew := bnew_ok
      have hos := openset_ok
      have hput := bputs_ok true (ofT 17) [] ms (by omega) (by omega) (by rw [List.length_nil]; omega)
      rw [List.nil_append] at hput
      have hS0 : (isortL ms).Perm ms := by rw [hord]; have := orderL_same ms []; rwa [List.append_nil] at this
      have hS1 : ∀ r ∈ isortL ms, IsWhole r := fun r hr => hms r (hS0.mem_iff.1 hr)
      have hS2 := wholesP_ws _ hS1
      have hS3 : sortedA (isortL ms) ((isortL ms).length - 1) = true := by
        rw [hord]
        exact sorted_of_ord (orderL_ord ms [] (by trivial)) _ (by omega)
      have hS4 : (isortL ms).flatten.length ≤ 1200 := by rw [hord, hofl]; exact hf
      have hS5 : RowsB (isortL ms) := fun r hr => hrb r (hS0.mem_iff.1 hr)
      have hS6 : WfB (isortL ms).flatten := wf_flat fun r hr => hmw r (hS0.mem_iff.1 hr)
      have hS7 : (isortL ms).length = ms.length := hS0.length_eq
      have hA := wrap_len (ofT 17) (isortL ms).flatten
      have hAw := wrap_wf (ofT 17) (isortL ms).flatten (by decide) hS6
      have hsh := bshuts_ok (ofT 17) ms.flatten ms (by omega) (wf_flat hmw) (wholesP_ws ms hms) (by omega) hrb (by omega)
      have hby := bbytes_ok (wrapL (ofT 17) (isortL ms).flatten) (by omega)
      have hal := alone_ok (ofT 17) (isortL ms).flatten (by decide) (by omega) hAw
      have hho := headof_ok 17
      have hso := sorted_ok (isortL ms).flatten 0 (Nat.zero_le _) (by omega) hS6
      have hwh := wholes_ok (isortL ms).flatten 0 (Nat.zero_le _) (by omega) hS6
      rw [hS2] at hso hwh
      dsimp only at hso hwh
      rw [if_pos rfl] at hso hwh
      rw [hS3] at hso
      have hab := same_ok (wrapL (ofT 17) (isortL ms).flatten) (wrapL (ofT 17) (isortL ms).flatten) (by omega) (by omega)
      rw [decide_eq_true rfl] at hab
      generalize isortL ms = S at *
      generalize wrapL (ofT 17) S.flatten = A at *
      repeat refine nx ?_
      refine s_callM [134, 136] hput rfl rfl (by rw [hn]; rfl) rfl rfl (by trivial) ⟨rfl, ⟨rfl, rfl⟩, (by simp [ordL]), rfl⟩ ?_
      repeat refine nx ?_
      refine frcL 139 134 ?_
      repeat refine nx ?_
      refine frcL 141 134 ?_
      repeat refine nx ?_
      refine W_weaken (St.le_of (l := [(5, rowsA ms), (8, B8 A), (10, B8 A), (13, B8 A), (19, rowsA S), (21, lv (.int .i64 ((0 : Nat) : Int)))]) (h := []) (by refine ⟨?_, ?_⟩ <;> (repeat' (first | exact trivial | exact rfl | refine ⟨?_, ?_⟩)) <;> first | exact rfl | (simp; done) | skip)) ?_
      refine W_loop (ι := {i : Nat // i ≤ ms.length}) (fun i => St.of [(5, rowsA ms), (8, B8 A), (10, B8 A), (13, B8 A), (19, rowsA S), (21, lv (.int .i64 (i.1 : Int)))] []) (fun i => ms.length - i.1) (fun i => ?_) ⟨0, Nat.zero_le _⟩
      obtain ⟨x, hx⟩ := i
      dsimp only
      by_cases hx2 : x < ms.length
      · repeat refine nx ?_
        refine W_weaken (St.le_of (l := [(5, rowsA ms), (8, B8 A), (10, B8 A), (13, B8 A), (19, rowsA S), (21, lv (.int .i64 (x : Int))), (22, lv (.int .i64 (cntE (ms.getD x []) (ms.take 0) : Int))), (23, lv (.int .i64 (cntE (ms.getD x []) (S.take 0) : Int))), (24, lv (.int .i64 ((0 : Nat) : Int)))]) (h := []) (by refine ⟨?_, ?_⟩ <;> (repeat' (first | exact trivial | exact rfl | refine ⟨?_, ?_⟩)) <;> first | exact rfl | (simp; done) | skip)) ?_
        refine W_loop (ι := {j : Nat // j ≤ ms.length}) (fun j => St.of [(5, rowsA ms), (8, B8 A), (10, B8 A), (13, B8 A), (19, rowsA S), (21, lv (.int .i64 (x : Int))), (22, lv (.int .i64 (cntE (ms.getD x []) (ms.take j.1) : Int))), (23, lv (.int .i64 (cntE (ms.getD x []) (S.take j.1) : Int))), (24, lv (.int .i64 (j.1 : Int)))] []) (fun j => ms.length - j.1) (fun j => ?_) ⟨0, Nat.zero_le _⟩
        obtain ⟨y, hy⟩ := j
        dsimp only
        by_cases hy2 : y < ms.length
        · have n1 := cnt_next (ms.getD x []) ms y hy2
          have n2 := cnt_next (ms.getD x []) S y (by omega)
          have b1 := cnt_le (ms.getD x []) ms y
          have b2 := cnt_le (ms.getD x []) S y
          have c1 := same_ok (ms.getD x []) (ms.getD y []) (getD_rows hrb _) (getD_rows hrb _)
          have c2 := same_ok (ms.getD x []) (S.getD y []) (getD_rows hrb _) (getD_rows hS5 _)
          generalize cntE (ms.getD x []) (ms.take y) = N at *
          generalize cntE (ms.getD x []) (S.take y) = O at *
          by_cases h1 : ms.getD x [] = ms.getD y [] <;> by_cases h2 : ms.getD x [] = S.getD y []
          · rw [decide_eq_true h1] at c1
            rw [decide_eq_true h2] at c2
            rw [if_pos h1] at n1
            rw [if_pos h2] at n2
            repeat refine nx ?_
            refine N_round ⟨y + 1, by omega⟩ (by dsimp only; omega) (St.le_of ⟨⟨rfl, rfl, rfl, rfl, rfl, rfl, ?_, ?_, rfl⟩, trivial⟩)
            · dsimp only; rw [n1]; rfl
            · dsimp only; rw [n2]; rfl
          · rw [decide_eq_true h1] at c1
            rw [decide_eq_false h2] at c2
            rw [if_pos h1] at n1
            rw [if_neg h2] at n2
            repeat refine nx ?_
            refine N_round ⟨y + 1, by omega⟩ (by dsimp only; omega) (St.le_of ⟨⟨rfl, rfl, rfl, rfl, rfl, rfl, ?_, ?_, rfl⟩, trivial⟩)
            · dsimp only; rw [n1]; rfl
            · dsimp only; rw [n2]; rfl
          · rw [decide_eq_false h1] at c1
            rw [decide_eq_true h2] at c2
            rw [if_neg h1] at n1
            rw [if_pos h2] at n2
            repeat refine nx ?_
            refine N_round ⟨y + 1, by omega⟩ (by dsimp only; omega) (St.le_of ⟨⟨rfl, rfl, rfl, rfl, rfl, rfl, ?_, ?_, rfl⟩, trivial⟩)
            · dsimp only; rw [n1]; rfl
            · dsimp only; rw [n2]; rfl
          · rw [decide_eq_false h1] at c1
            rw [decide_eq_false h2] at c2
            rw [if_neg h1] at n1
            rw [if_neg h2] at n2
            repeat refine nx ?_
            refine N_round ⟨y + 1, by omega⟩ (by dsimp only; omega) (St.le_of ⟨⟨rfl, rfl, rfl, rfl, rfl, rfl, ?_, ?_, rfl⟩, trivial⟩)
            · dsimp only; rw [n1]; rfl
            · dsimp only; rw [n2]; rfl
        · obtain rfl : y = ms.length := by omega
          rw [List.take_length, ← hS7, List.take_length, cnt_perm _ hS0]
          repeat refine nx ?_
          refine N_round ⟨x + 1, by omega⟩ (by dsimp only; omega) (St.le_of ⟨⟨rfl, rfl, rfl, rfl, rfl, rfl⟩, trivial⟩)
      · obtain rfl : x = ms.length := by omega
        repeat refine nx ?_
        refine rt2 [] (congrArg (fun x => lv (.bool x)) ?_) trivial; (simp [eqCs, Cell.kill, Cell.kill1])
end Go.Proofs.Ythoaneleeabadaa

namespace Go.Sx
open Go
open Go.ChangeShapes Go.WideShapes Go.ChangeAt Go.RowKit Go.Joins Go.Deep
set_option linter.unusedVariables false
section
variable {H : Type} {enc : TypeId × Value → H} {P : Program} {w : World} {base : Nat} {spare : Nat → Bool} {held : Bool} {fuel : Nat}

/-- Cells that are read as the leaves of a thing. -/
def LeavesR (w : World) (cs : List Value) (ls : List Leaf) : Prop := cs.length = ls.length ∧ ∀ (j : Nat) (z : Leaf), ls[j]? = some z → ∃ u, cs[j]? = some u ∧ LfR (Was w) w z u

theorem open_recs {α : Type} {t e : TypeId} {sz : Nat} {f : α → List Leaf} {Φ : α → Prop} {v : Value} {x : DataW H × List MemPlace} (ht : P.underlying t = some (.slice e)) (hc : P.cellsOf e = sz) (hsz : sz ≠ 0)
    (hel : ∀ n cs y, cs.length = sz → DataW.trod enc P w base spare held n e cs = some y → ∃ a, Φ a ∧ (f a).length = sz ∧ LeavesR w cs (f a)) (h : DataW.trod enc P w base spare held fuel t [v] = some x) :
    ∃ l : List α, l.length ≤ 9223372036854775807 ∧ (∀ a ∈ l, Φ a) ∧ LfR (Was w) w (.recs sz (l.map f)) v := by
  rcases DataW.trod_slice ht h with ⟨hcs, _⟩ | ⟨a, len, cap, elems, rest, n, _, hcs, _, hb, hl, hm, hlen, hel2, hsp, hns⟩
  · simp at hcs
    subst hcs
    exact ⟨[], by simp, fun a h => (by cases h), LfR.recs _ _ _ _ _ (fun _ _ => undef) rfl (Nat.le_refl _) (Nat.zero_le _) (fun r h => by cases h) (fun h => absurd rfl h) (fun i r j x h => by simp at h)⟩
  · simp at hcs
    subst hcs
    have each : ∀ i : _root_.Fin len, ∃ a' : α, Φ a' ∧ (f a').length = sz ∧ ∀ (j : Nat) (z : Leaf), (f a')[j]? = some z → ∃ u, w.cell? ((a.add (i.val * sz)).add j) = some u ∧ LfR (Was w) w z u := by
      intro i
      have h1 := hel2 i.val i.isLt
      rw [hc] at h1
      have h2 : elems[i.val]? = some elems[i.val] := by simp [hlen]
      rw [h2] at h1
      obtain ⟨cs, e1, e2⟩ := Option.bind_eq_some_iff.1 h1
      obtain ⟨q1, q2, q3⟩ := World.cells?_some e1
      obtain ⟨a', p1, p2, p3, p4⟩ := hel n cs _ q2 e2
      refine ⟨a', p1, p2, fun j z hz => ?_⟩
      obtain ⟨u, u1, u2⟩ := p4 j z hz
      have hj : j < sz := by
        have := (List.getElem?_eq_some_iff.1 hz).1
        omega
      refine ⟨u, ?_, u2⟩
      rw [q3 j hj]
      exact u1
    obtain ⟨g, hg⟩ := Classical.axiomOfChoice each
    have hm' : cap ≤ 9223372036854775807 := hm
    refine ⟨List.ofFn g, by simp; omega, fun a' ha => ?_, ?_⟩
    · obtain ⟨i, rfl⟩ := (List.mem_ofFn).1 ha
      exact (hg i).1
    · have hget : ∀ (i : Nat) (r : List Leaf), ((List.ofFn g).map f)[i]? = some r → ∃ hi : i < len, r = f (g ⟨i, hi⟩) := by
        intro i r hr
        rw [List.getElem?_map, Option.map_eq_some_iff] at hr
        obtain ⟨q, hq, rfl⟩ := hr
        rw [List.getElem?_ofFn] at hq
        split at hq
        · rename_i hi
          exact ⟨hi, by rw [← Option.some.inj hq]⟩
        · cases hq
      obtain ⟨b, o, sp⟩ := a
      have hone : 0 < len → sp = none ∧ b < w.heap.size := by
        intro h0
        obtain ⟨_, p2, p3⟩ := hg ⟨0, h0⟩
        obtain ⟨z, hz⟩ : ∃ z, (f (g ⟨0, h0⟩))[0]? = some z := ⟨(f (g ⟨0, h0⟩))[0]'(by omega), by simp⟩
        obtain ⟨u, u1, _⟩ := p3 0 z hz
        have := cell_in u1
        simp [Addr.add] at this
        exact ⟨this.2, this.1⟩
      refine LfR.recs _ _ _ _ _ (fun i j => (w.cell? ⟨b, o + i * sz + j, none⟩).getD undef) (by simp) hl hm (fun r hr => ?_) (fun hne => ?_) (fun i r j x hi hj => ?_)
      · obtain ⟨a', ha, rfl⟩ := List.mem_map.1 hr
        obtain ⟨i, rfl⟩ := (List.mem_ofFn).1 ha
        exact (hg i).2.1
      · have h0 : 0 < len := by
          rcases Nat.eq_zero_or_pos len with h | h
          · subst h; simp at hne
          · exact h
        obtain ⟨rfl, hb1⟩ := hone h0
        refine ⟨b, o, rfl, hb1, fun i r j x hi hj => ?_⟩
        obtain ⟨hi', rfl⟩ := hget i r hi
        obtain ⟨u, u1, _⟩ := (hg ⟨i, hi'⟩).2.2 j x hj
        rw [add_none, add_none] at u1
        rw [u1]; rfl
      · obtain ⟨hi', rfl⟩ := hget i r hi
        obtain ⟨rfl, hb1⟩ := hone (by omega)
        obtain ⟨u, u1, u2⟩ := (hg ⟨i, hi'⟩).2.2 j x hj
        rw [add_none, add_none] at u1
        rw [u1]; exact u2
/-- Rows of bytes that came in. -/
theorem open_rowsB {t e e2 : TypeId} {v : Value} {d : DataW H} {p : List MemPlace} (ht : P.underlying t = some (.slice e)) (he : P.underlying e = some (.slice e2)) (he2 : P.underlying e2 = some (.int .u8)) (hc : P.cellsOf e = 1) (hc2 : P.cellsOf e2 = 1) {r : Reach} {b0 : Nat} (hv : Value.okWide P w r b0 t v)
    (h : DataW.Trod enc P w base spare held t v d p) : ∃ l : List (List Int), l.length ≤ 9223372036854775807 ∧ (∀ b ∈ l, b.length ≤ 9223372036854775807 ∧ ∀ n ∈ b, 0 ≤ n ∧ n < 256) ∧ ∀ β, AvR β (Was w) w (.c (.lf (.recs 1 (l.map fun b => [.ints .u8 b])))) v := by
  obtain ⟨a, n, c, rfl⟩ := okWide_slice ht hv
  obtain ⟨fuel, h⟩ := h
  simp only [Value.cells] at h
  obtain ⟨l, h1, h2, h3⟩ := open_recs (f := fun b => [Leaf.ints .u8 b]) (Φ := fun b => b.length ≤ 9223372036854775807 ∧ ∀ n ∈ b, 0 ≤ n ∧ n < 256) ht hc (by decide) (fun n cs y hcs hy => by
    match cs, hcs with
    | [u], _ =>
      obtain ⟨b, q1, q2, q3⟩ := open_row he he2 hc2 hy
      refine ⟨b, ⟨q1, fun n hn => wf_u8 (q2 n hn)⟩, rfl, rfl, fun j z hz => ?_⟩
      cases j with
      | zero => simp at hz; subst hz; exact ⟨u, rfl, q3⟩
      | succ j => simp at hz) h
  exact ⟨l, h1, h2, fun β => .c (.lf h3)⟩
end
end Go.Sx

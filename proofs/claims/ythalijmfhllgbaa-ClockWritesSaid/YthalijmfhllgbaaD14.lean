/-
  Dates: a moment's text. The conditions: numbers of few digits.
-/
import Derived.Test.YthalijmfhllgbaaSxV
import Derived.Test.YthalijmfhllgbaaB1
namespace Go.Proofs.Ythalijmfhllgbaa
set_option linter.unusedSimpArgs false
set_option linter.unusedVariables false
open Go.Sx Dt

set_option maxRecDepth 10000

/-- The last so many digits of a number. -/
def digP : Nat → Int → List Int
  | 0, _ => []
  | k + 1, n => digP k (n / 10) ++ [48 + n % 10]
theorem digP_len : ∀ (k : Nat) (n : Int), (digP k n).length = k
  | 0, _ => rfl
  | k + 1, n => by simp [digP, digP_len k]
abbrev Pc := Int × Nat × ByteArray
abbrev pcR (p : Pc) : List Leaf := [.v (.int .i64 p.1), .v (.int .i64 (p.2.1 : Int)), .v (.string p.2.2)]
def pcL (p : Pc) : List Int := digP p.2.1 p.1 ++ strL p.2.2
def pcsL (l : List Pc) : List Int := l.flatMap pcL
/-- A builder's own address behind so many writings. -/
def adr (j : Nat) : Nat → Cell
  | 0 => nilC
  | _ + 1 => .ptr j 0
def pcOk (p : Pc) : Prop := 0 ≤ p.1 ∧ p.1 ≤ 100000 ∧ 1 ≤ p.2.1 ∧ p.2.1 ≤ 10 ∧ p.2.2.size ≤ 20
theorem pcL_len {p : Pc} (h : pcOk p) : (pcL p).length ≤ 30 := by
  obtain ⟨_, _, _, h1, h2⟩ := h
  unfold pcL
  rw [List.length_append, digP_len, strL_len]
  omega
theorem pcsL_len : ∀ l : List Pc, (∀ p ∈ l, pcOk p) → (pcsL l).length ≤ 30 * l.length
  | [], _ => by simp [pcsL]
  | p :: t, h => by
    have h1 := pcL_len (h p (List.mem_cons_self ..))
    have h2 := pcsL_len t fun q hq => h q (List.mem_cons_of_mem _ hq)
    have e : pcsL (p :: t) = pcL p ++ pcsL t := rfl
    rw [e, List.length_append, List.length_cons]
    omega
theorem pcsL_take {l : List Pc} {i : Nat} (h : i < l.length) : pcsL (l.take (i + 1)) = pcsL (l.take i) ++ pcL (l[i]) := by
  rw [List.take_add_one, List.getElem?_eq_getElem h]
  simp only [pcsL, Option.toList_some, List.flatMap_append, List.flatMap_singleton]
set_option maxHeartbeats 2000000 in
theorem written_ok (ps : List Pc) (hl : ps.length ≤ 1000) (hps : ∀ p ∈ ps, pcOk p) (h0 : pcsL ps ≠ []) (hw : ∀ x ∈ pcsL ps, 0 ≤ x ∧ x < 256) (hne : 0 < ps.length) :
    Ct Try.prog 133 [.c (.lf (.recs 3 (ps.map pcR)))] [] (lv (.string (strOfNums (pcsL ps)))) [] [] := by
  have hll : (ps.map pcR).length = ps.length := List.length_map ..
  refine Ct_intro Try.func133 rfl rfl rfl rfl rfl (fun E hn hb => ?_)
  repeat (first | refine stp ?_ | refine N_block_pass rfl ?_ | refine sp1 ?_ | refine sg1 ?_ | refine WL_nil ?_)
  refine s_allocT rfl rfl rfl (by rw [hn]; rfl) rfl zok232 ?_
  repeat (first | refine stp ?_ | refine N_block_pass rfl ?_ | refine sp1 ?_ | refine sg1 ?_ | refine WL_nil ?_)
  refine W_sr (fun a w h => SR.cell_nilT 5 (cs := [.lf (.v (.pointer none)), .lf (.v (.slice none 0 0))]) (cs' := [.lf (.v (.pointer none)), .town 900 0 0 5]) 67 1 900 rfl rfl rfl rfl rfl h) ?_
  rw [hll]
  refine W_weaken (St.le_of (l := [(3, .c (.tptr 67 232)), (8, .c (.lf (.recs 3 (ps.map pcR)))), (9, lv (.int .i64 (ps.length : Int))), (10, lv (.int .i64 ((0 : Nat) : Int)))]) (h := [(67, .cells [adr 67 0, .town 900 0 ([] : List Int).length 5]), (900, .row (.ints .u8 []))]) (by refine ⟨?_, ?_⟩ <;> (repeat' (first | exact trivial | exact rfl | refine ⟨?_, ?_⟩)) <;> first | exact rfl | (simp; done) | skip)) ?_
  refine W_loop (ι := {s : Nat × List Int // s.1 ≤ ps.length ∧ s.2 = pcsL (ps.take s.1)}) (fun s => St.of [(3, .c (.tptr 67 232)), (8, .c (.lf (.recs 3 (ps.map pcR)))), (9, lv (.int .i64 (ps.length : Int))), (10, lv (.int .i64 (s.1.1 : Int)))] [(67, .cells [adr 67 s.1.1, .town 900 0 s.1.2.length 5]), (900, .row (.ints .u8 s.1.2))]) (fun s => ps.length - s.1.1) (fun s => ?_) ⟨(0, []), by dsimp only; omega, rfl⟩
  obtain ⟨⟨i, acc⟩, hi, he⟩ := s
  dsimp only at hi he ⊢
  repeat (first | refine stp ?_ | refine N_block_pass rfl ?_ | refine sp1 ?_ | refine sg1 ?_ | refine WL_nil ?_)
  refine W_cond rfl (by simp) (fun hc => ?_) (fun hc => ?_)
  · have hi2 : i < ps.length := by simpa using hc
    have hal : acc.length ≤ 100000 := by
      have h1 := pcsL_len (ps.take i) fun p hp => hps p (List.mem_of_mem_take hp)
      have h2 : (ps.take i).length ≤ 1000 := by simp; omega
      rw [he]
      omega
    have hok := hps ps[i] (List.getElem_mem hi2)
    have hnext := pcsL_take hi2
    rw [← he] at hnext
    have hrow : (ps.map pcR).getD i [] = pcR ps[i] := by
      rw [List.getD_eq_getElem?_getD, List.getElem?_map, List.getElem?_eq_getElem hi2]
      rfl
    generalize hp : ps[i] = p at *
    obtain ⟨n, k, s⟩ := p
    obtain ⟨hn0, hn1, hk0, hk1, hss⟩ := hok
    dsimp only at hn0 hn1 hk0 hk1 hss
    repeat (first | refine stp ?_ | refine N_block_pass rfl ?_ | refine sp1 ?_ | refine sg1 ?_ | refine WL_nil ?_)
    refine WL_q (opq_of (opy_indexR rfl Try.underlying229 cellsOf191 (by decide) rfl rfl (by trivial) (by omega) (by rw [hll]; omega)) rfl) (by rw [hn]; rfl) ?_
    rw [show (ps.map pcR).getD (Int.toNat (i : Int)) [] = pcR (n, k, s) from hrow]
    repeat (first | refine stp ?_ | refine N_block_pass rfl ?_ | refine sp1 ?_ | refine sg1 ?_ | refine WL_nil ?_)
    try rw [cellsOf191]
    refine s_allocN rfl rfl rfl (by rw [hn]; rfl) rfl zok191 ?_
    refine s_storeN rfl rfl rfl rfl rfl (by first | trivial | (simp; done) | (simp; omega) | (simp at *; done) | (simp at *; omega)) rfl rfl rfl (by rw [cellsOf191]; rfl) (by rw [info191]; rfl) rfl rfl ?_
    repeat (first | refine stp ?_ | refine N_block_pass rfl ?_ | refine sp1 ?_ | refine sg1 ?_ | refine WL_nil ?_)
    refine s_makeI (by_ := 1) rfl rfl rfl (by rw [hn]; rfl) (elt_mk Try.underlying24 rfl rfl) rfl rfl rfl (by first | trivial | (simp; done) | (simp; omega) | (simp at *; done) | (simp at *; omega)) k (by first | rfl | (simp; done) | omega) (by first | (simp; done) | omega | (simp at *; omega)) ?_
    repeat (first | refine stp ?_ | refine N_block_pass rfl ?_ | refine sp1 ?_ | refine sg1 ?_ | refine WL_nil ?_)
    refine W_weaken (St.le_of (l := [(3, .c (.tptr 67 232)), (5, .c (.ptr 69 0)), (6, .c (.own 80 1 0 k)), (7, lv (.int .i64 ((k : Int) - 1))), (8, .c (.lf (.recs 3 (ps.map pcR)))), (9, lv (.int .i64 (ps.length : Int))), (10, lv (.int .i64 (i : Int)))]) (h := [(67, .cells [adr 67 i, .town 900 0 acc.length 5]), (69, .cells [.lf (.v (.int .i64 n)), .lf (.v (.int .i64 (k : Int))), .lf (.v (.string s))]), (80, .row (.ints .u8 (List.replicate k 0))), (900, .row (.ints .u8 acc))]) ⟨⟨?_, ?_, ?_, ?_, ?_, ?_, ?_⟩, ⟨?_, ?_, ?_, ?_⟩⟩) ?_
    · exact rfl
    · exact rfl
    · exact rfl
    · exact rfl
    · exact rfl
    · exact rfl
    · exact rfl
    · cases i <;> exact rfl
    · exact rfl
    · exact rfl
    · exact rfl
    rw [show (List.replicate k (0 : Int)) = List.replicate k 0 ++ [] from (List.append_nil _).symm]
    refine W_loop (ι := {q : Nat × Int × List Int // q.1 ≤ k ∧ 0 ≤ q.2.1 ∧ q.2.1 ≤ 100000 ∧ q.2.2.length = k - q.1 ∧ digP k n = digP q.1 q.2.1 ++ q.2.2}) (fun q => St.of [(3, .c (.tptr 67 232)), (5, .c (.ptr 69 0)), (6, .c (.own 80 1 0 k)), (7, lv (.int .i64 ((q.1.1 : Int) - 1))), (8, .c (.lf (.recs 3 (ps.map pcR)))), (9, lv (.int .i64 (ps.length : Int))), (10, lv (.int .i64 (i : Int)))] [(67, .cells [adr 67 i, .town 900 0 acc.length 5]), (69, .cells [.lf (.v (.int .i64 q.1.2.1)), .lf (.v (.int .i64 (k : Int))), .lf (.v (.string s))]), (80, .row (.ints .u8 (List.replicate q.1.1 0 ++ q.1.2.2))), (900, .row (.ints .u8 acc))]) (fun q => q.1.1) (fun q => ?_) ⟨(k, n, []), by dsimp only; exact ⟨by omega, hn0, hn1, by simp, by simp⟩⟩
    obtain ⟨⟨j, m, t⟩, hj, hm0, hm1, htl, hdg⟩ := q
    dsimp only at hj hm0 hm1 htl hdg ⊢
    repeat (first | refine stp ?_ | refine N_block_pass rfl ?_ | refine sp1 ?_ | refine sg1 ?_ | refine WL_nil ?_)
    refine W_cond rfl (by simp) (fun hc2 => ?_) (fun hc2 => ?_)
    · have hj0 : j ≠ 0 := by simp at hc2; omega
      obtain ⟨j, rfl⟩ : ∃ j', j = j' + 1 := ⟨j - 1, by omega⟩
      have hlen : (List.replicate (j + 1) (0 : Int) ++ t).length = k := by simp; omega
      have ej : ((j + 1 : Nat) : Int) - 1 = (j : Int) := by omega
      rw [ej]
      repeat (first | refine stp ?_ | refine N_block_pass rfl ?_ | refine sp1 ?_ | refine sg1 ?_ | refine WL_nil ?_)
      refine s_storeI rfl rfl rfl rfl rfl (by first | trivial | (simp; done) | (simp; omega) | (simp at *; done) | (simp at *; omega)) rfl (by rw [cellsOf5]) (by first | (simp; done) | (simp; omega) | (simp at *; omega)) ?_
      repeat (first | refine stp ?_ | refine N_block_pass rfl ?_ | refine sp1 ?_ | refine sg1 ?_ | refine WL_nil ?_)
      refine s_storeN rfl rfl rfl rfl rfl (by first | trivial | (simp; done) | (simp; omega) | (simp at *; done) | (simp at *; omega)) rfl rfl rfl (by rw [cellsOf3]; rfl) (by rw [info3]; rfl) rfl rfl ?_
      repeat (first | refine stp ?_ | refine N_block_pass rfl ?_ | refine sp1 ?_ | refine sg1 ?_ | refine WL_nil ?_)
      refine N_round ⟨(j, m / 10, (48 + m % 10) :: t), by dsimp only; refine ⟨by omega, by omega, by omega, by simp; omega, ?_⟩; rw [hdg, digP]; simp⟩ (by dsimp only; omega) (St.le_of ⟨⟨rfl, rfl, rfl, rfl, rfl, rfl, rfl⟩, ⟨rfl, rfl, ?_, rfl⟩⟩)
      show Blk.row (.ints .u8 ((List.replicate (j + 1) (0 : Int) ++ t).set (0 + (j : Int).toNat) (48 + m % 10))) = Blk.row (.ints .u8 (List.replicate j 0 ++ (48 + m % 10) :: t))
      rw [List.replicate_succ', List.append_assoc, List.singleton_append, set_mid _ _ _ _ _ (by simp)]
    · have hj0 : j = 0 := by simp at hc2; omega
      subst hj0
      have hdg : digP k n = t := hdg
      have htk : t.length = k := by omega
      have hpc : pcL (n, k, s) = t ++ strL s := by rw [← hdg]; rfl
      rw [hpc] at hnext
      have hw2 := writeString_ok (p := .ptr 0 0) (.inr rfl) (acc ++ t) s (by rw [List.length_append]; omega) (by omega)
      have e1 : acc.length + t.length = (acc ++ t).length := by simp
      have e2 : (acc ++ t).length + s.size = (acc ++ t ++ strL s).length := by simp [strL_len]; omega
      have e3 : acc ++ t ++ strL s = acc ++ (t ++ strL s) := by simp
      rw [e2, e3] at hw2
      rw [show List.replicate 0 (0 : Int) ++ t = t from rfl]
      match i, hi, hi2, hnext with
      | 0, hi, hi2, hnext =>
        have hw1 := write_ok (p := nilC) (.inl rfl) acc t (by omega) (by omega)
        rw [e1] at hw1
        repeat (first | refine stp ?_ | refine N_block_pass rfl ?_ | refine sp1 ?_ | refine sg1 ?_ | refine WL_nil ?_)
        refine WL_freeze 80 [(36, B8 t)] rfl hb ⟨⟨rfl, rfl, rfl, by omega, by rw [List.drop_zero, ← htk, List.take_length]⟩, rfl⟩ ?_
        refine s_callM [67, 900] hw1 rfl rfl (by rw [hn]; rfl) rfl rfl (by trivial) ⟨rfl, ⟨rfl, rfl⟩, (by simp [ordL]), rfl⟩ ?_
        repeat (first | refine stp ?_ | refine N_block_pass rfl ?_ | refine sp1 ?_ | refine sg1 ?_ | refine WL_nil ?_)
        refine WL_sr (fun a w h => SR.mv 101 900 rfl rfl rfl rfl rfl h) ?_
        refine s_callM [67, 900] hw2 rfl rfl (by rw [hn]; rfl) rfl rfl (by trivial) ⟨rfl, ⟨rfl, rfl⟩, (by simp [ordL]), rfl⟩ ?_
        repeat (first | refine stp ?_ | refine N_block_pass rfl ?_ | refine sp1 ?_ | refine sg1 ?_ | refine WL_nil ?_)
        refine N_sr (fun a w h => SR.mv 104 900 rfl rfl rfl rfl rfl h) ?_
        exact N_round ⟨(0 + 1, acc ++ (t ++ strL s)), by dsimp only; omega, hnext.symm⟩ (by dsimp only; omega) (St.le_of ⟨⟨rfl, rfl, rfl, rfl⟩, ⟨rfl, rfl⟩⟩)
      | i + 1, hi, hi2, hnext =>
        have hw1 := write_ok (p := .ptr 0 0) (.inr rfl) acc t (by omega) (by omega)
        rw [e1] at hw1
        repeat (first | refine stp ?_ | refine N_block_pass rfl ?_ | refine sp1 ?_ | refine sg1 ?_ | refine WL_nil ?_)
        refine WL_freeze 80 [(36, B8 t)] rfl hb ⟨⟨rfl, rfl, rfl, by omega, by rw [List.drop_zero, ← htk, List.take_length]⟩, rfl⟩ ?_
        refine s_callM [67, 900] hw1 rfl rfl (by rw [hn]; rfl) rfl rfl (by trivial) ⟨rfl, ⟨rfl, rfl⟩, (by simp [ordL]), rfl⟩ ?_
        repeat (first | refine stp ?_ | refine N_block_pass rfl ?_ | refine sp1 ?_ | refine sg1 ?_ | refine WL_nil ?_)
        refine WL_sr (fun a w h => SR.mv 101 900 rfl rfl rfl rfl rfl h) ?_
        refine s_callM [67, 900] hw2 rfl rfl (by rw [hn]; rfl) rfl rfl (by trivial) ⟨rfl, ⟨rfl, rfl⟩, (by simp [ordL]), rfl⟩ ?_
        repeat (first | refine stp ?_ | refine N_block_pass rfl ?_ | refine sp1 ?_ | refine sg1 ?_ | refine WL_nil ?_)
        refine N_sr (fun a w h => SR.mv 104 900 rfl rfl rfl rfl rfl h) ?_
        exact N_round ⟨(i + 1 + 1, acc ++ (t ++ strL s)), by dsimp only; omega, hnext.symm⟩ (by dsimp only; omega) (St.le_of ⟨⟨rfl, rfl, rfl, rfl⟩, ⟨rfl, rfl⟩⟩)
  · have hi2 : i = ps.length := by simp at hc; omega
    subst hi2
    rw [List.take_length] at he
    subst he
    have hst := string_ok (pcsL ps) (by have := pcsL_len ps hps; omega) h0 hw
    obtain ⟨k, hk⟩ : ∃ k, ps.length = k + 1 := ⟨ps.length - 1, by omega⟩
    rw [show adr 67 ps.length = .ptr 67 0 from by rw [hk]; rfl]
    repeat (first | refine stp ?_ | refine N_block_pass rfl ?_ | refine sp1 ?_ | refine sg1 ?_ | refine WL_nil ?_)
    refine s_callX [67, 900] hst hb rfl rfl rfl rfl (by rw [hn]; rfl) rfl rfl (by trivial) ⟨rfl, ⟨rfl, rfl⟩, by simp [ordL], rfl⟩ ?_
    repeat (first | refine stp ?_ | refine N_block_pass rfl ?_ | refine sp1 ?_ | refine sg1 ?_ | refine WL_nil ?_)
    exact rt1 []
end Go.Proofs.Ythalijmfhllgbaa

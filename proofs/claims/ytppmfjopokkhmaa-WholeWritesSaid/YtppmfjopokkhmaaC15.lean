/-
  Chapter 02: a whole. The conditions: right tags, at most a million bytes of contents.
-/
import Derived.Test.YtppmfjopokkhmaaC14
namespace Go.Proofs.Ytppmfjopokkhmaa
set_option linter.unusedSimpArgs false
set_option linter.unusedVariables false
open Go.Sx

set_option maxRecDepth 10000

abbrev rowsA (bs : List (List Int)) : Av := .c (.lf (.recs 1 (bs.map fun b => [.ints .u8 b])))
/-- A whole of a tag. -/
def wrapL (t : TagP) (b : List Int) : List Int := tgL t ++ lenL b.length ++ b

set_option maxHeartbeats 4000000 in
theorem wrapO_ok (t : TagP) (bs : List (List Int)) (h : rightT t = true) (hbl : bs.length ≤ 100000) (hl : bs.flatten.length ≤ 1000000) :
    Ct Try.prog 93 [tagA t, rowsA bs] [] (.tup [.c (.own 0 1 0 (wrapL t bs.flatten).length), lv (.int .i64 0)]) [] [.row (.ints .u8 (wrapL t bs.flatten))] := by
  have htb := tbytes_ok t h
  have hlb := hlen_ok bs.flatten.length (by omega)
  have hW : wrapL t bs.flatten = tgL t ++ lenL bs.flatten.length ++ bs.flatten := rfl
  have hT5 : (tgL t).length ≤ 10 := by
    have := lowD_len 128 5 t.2.1.toNat
    unfold tgL
    split
    · simp
    · simp [hiL_len]; omega
  have hL5 : (lenL bs.flatten.length).length ≤ 10 := by
    generalize bs.flatten.length = n
    have := lowD_len 256 5 n
    unfold lenL
    split
    · simp
    · simp; omega
  generalize wrapL t bs.flatten = R at *
  generalize lenL bs.flatten.length = D at *
  generalize tgL t = T at *
  have hnext : ∀ i, (h : i < bs.length) → (bs.take (i + 1)).flatten = (bs.take i).flatten ++ bs[i] ∧ (bs.take (i + 1)).flatten.length ≤ bs.flatten.length := by
    intro i h
    refine ⟨by rw [List.take_succ_eq_append_getElem h, List.flatten_append, List.flatten_cons, List.flatten_nil, List.append_nil], ?_⟩
    have := congrArg List.length (congrArg List.flatten (List.take_append_drop (i + 1) bs))
    simp only [List.flatten_append, List.length_append] at this
    omega
  have hidx : ∀ i, (h : i < bs.length) → (bs.map fun b => [Leaf.ints .u8 b]).getD (i : Int).toNat [] = [Leaf.ints .u8 bs[i]] := by
    intro i h
    rw [Int.toNat_natCast, List.getD_eq_getElem?_getD, List.getElem?_map, List.getElem?_eq_getElem h]
    rfl
  have hlm : ((bs.map fun b => [Leaf.ints .u8 b]).length : Int) = (bs.length : Int) := by simp
  refine Ct_intro Try.func93 rfl rfl rfl rfl rfl (fun E hn hb => ?_)
  repeat (first | refine W_seq ?_ | refine W_region ?_ | refine W_block ?_ | refine W_skip ?_ | refine W_ret ?_ | refine W_exit ?_ | refine WL_nil ?_ | refine N_then ?_ | refine N_then_exit ?_ | refine N_then_ret ?_ | refine N_block ?_ | refine N_block_ret ?_ | refine N_block_exit ?_ | refine N_block_pass rfl ?_ | refine W_scope ?_ | refine W_label ?_ | refine N_scope ?_ | refine N_scope_ret ?_ | refine N_scope_exit ?_ | refine sp true rfl rfl (by rw [hn]; rfl) (by first | trivial | (simp; done) | (simp; omega) | (simp at *; done) | (simp at *; omega)) ?_ | refine sg true rfl rfl rfl (by rw [hn]; rfl) (by intro hG; first | trivial | (simp; done) | (simp; omega) | (simp at *; done) | (simp at *; omega)) ?_)
  refine s_boxN rfl rfl rfl (by rw [hn]; rfl) rfl (by first | trivial | (simp; done) | (simp; omega) | (simp at *; done) | (simp at *; omega)) rfl rfl ?_
  repeat (first | refine W_seq ?_ | refine W_region ?_ | refine W_block ?_ | refine W_skip ?_ | refine W_ret ?_ | refine W_exit ?_ | refine WL_nil ?_ | refine N_then ?_ | refine N_then_exit ?_ | refine N_then_ret ?_ | refine N_block ?_ | refine N_block_ret ?_ | refine N_block_exit ?_ | refine N_block_pass rfl ?_ | refine W_scope ?_ | refine W_label ?_ | refine N_scope ?_ | refine N_scope_ret ?_ | refine N_scope_exit ?_ | refine sp true rfl rfl (by rw [hn]; rfl) (by first | trivial | (simp; done) | (simp; omega) | (simp at *; done) | (simp at *; omega)) ?_ | refine sg true rfl rfl rfl (by rw [hn]; rfl) (by intro hG; first | trivial | (simp; done) | (simp; omega) | (simp at *; done) | (simp at *; omega)) ?_)
  refine s_call [] htb rfl rfl (by rw [hn]; rfl) rfl rfl (by trivial) ⟨rfl, trivial, trivial, rfl⟩ ?_
  repeat (first | refine W_seq ?_ | refine W_region ?_ | refine W_block ?_ | refine W_skip ?_ | refine W_ret ?_ | refine W_exit ?_ | refine WL_nil ?_ | refine N_then ?_ | refine N_then_exit ?_ | refine N_then_ret ?_ | refine N_block ?_ | refine N_block_ret ?_ | refine N_block_exit ?_ | refine N_block_pass rfl ?_ | refine W_scope ?_ | refine W_label ?_ | refine N_scope ?_ | refine N_scope_ret ?_ | refine N_scope_exit ?_ | refine sp true rfl rfl (by rw [hn]; rfl) (by first | trivial | (simp; done) | (simp; omega) | (simp at *; done) | (simp at *; omega)) ?_ | refine sg true rfl rfl rfl (by rw [hn]; rfl) (by intro hG; first | trivial | (simp; done) | (simp; omega) | (simp at *; done) | (simp at *; omega)) ?_)
  refine W_cond rfl (by simp) (fun h1 => ?_) (fun h1 => ?_)
  · simp at h1
  repeat (first | refine W_seq ?_ | refine W_region ?_ | refine W_block ?_ | refine W_skip ?_ | refine W_ret ?_ | refine W_exit ?_ | refine WL_nil ?_ | refine N_then ?_ | refine N_then_exit ?_ | refine N_then_ret ?_ | refine N_block ?_ | refine N_block_ret ?_ | refine N_block_exit ?_ | refine N_block_pass rfl ?_ | refine W_scope ?_ | refine W_label ?_ | refine N_scope ?_ | refine N_scope_ret ?_ | refine N_scope_exit ?_ | refine sp true rfl rfl (by rw [hn]; rfl) (by first | trivial | (simp; done) | (simp; omega) | (simp at *; done) | (simp at *; omega)) ?_ | refine sg true rfl rfl rfl (by rw [hn]; rfl) (by intro hG; first | trivial | (simp; done) | (simp; omega) | (simp at *; done) | (simp at *; omega)) ?_)
  rw [hlm]
  refine W_weaken (St.le_of (l := [(1, rowsA bs), (6, .c (.own 81 1 0 T.length)), (8, lv (.int .i64 (((bs.take 0).flatten.length : Nat) : Int))), (23, rowsA bs), (24, lv (.int .i64 (bs.length : Int))), (25, lv (.int .i64 ((0 : Nat) : Int)))]) (h := [(81, .row (.ints .u8 T))]) (by refine ⟨?_, ?_⟩ <;> (repeat' (first | exact trivial | exact rfl | refine ⟨?_, ?_⟩)) <;> first | exact rfl | (simp; done) | skip)) ?_
  refine W_loop (ι := {i : Nat // i ≤ bs.length}) (fun i => St.of [(1, rowsA bs), (6, .c (.own 81 1 0 T.length)), (8, lv (.int .i64 (((bs.take i.1).flatten.length : Nat) : Int))), (23, rowsA bs), (24, lv (.int .i64 (bs.length : Int))), (25, lv (.int .i64 (i.1 : Int)))] [(81, .row (.ints .u8 T))]) (fun i => bs.length - i.1) (fun i => ?_) ⟨0, by omega⟩
  obtain ⟨i, hi⟩ := i
  dsimp only
  repeat (first | refine W_seq ?_ | refine W_region ?_ | refine W_block ?_ | refine W_skip ?_ | refine W_ret ?_ | refine W_exit ?_ | refine WL_nil ?_ | refine N_then ?_ | refine N_then_exit ?_ | refine N_then_ret ?_ | refine N_block ?_ | refine N_block_ret ?_ | refine N_block_exit ?_ | refine N_block_pass rfl ?_ | refine W_scope ?_ | refine W_label ?_ | refine N_scope ?_ | refine N_scope_ret ?_ | refine N_scope_exit ?_ | refine sp true rfl rfl (by rw [hn]; rfl) (by first | trivial | (simp; done) | (simp; omega) | (simp at *; done) | (simp at *; omega)) ?_ | refine sg true rfl rfl rfl (by rw [hn]; rfl) (by intro hG; first | trivial | (simp; done) | (simp; omega) | (simp at *; done) | (simp at *; omega)) ?_)
  refine W_cond rfl (by simp) (fun hc => ?_) (fun hc => ?_)
  · have hib : i < bs.length := by simpa using hc
    obtain ⟨m1, m2⟩ := hnext i hib
    have hx := hidx i hib
    rw [m1] at m2
    have eN : (((bs.take i).flatten.length : Nat) : Int) + (bs[i].length : Int) = (((bs.take (i + 1)).flatten.length : Nat) : Int) := by rw [m1]; simp
    have m3 : (((bs.take (i + 1)).flatten.length : Nat) : Int) ≤ 16777216 := by rw [m1]; omega
    generalize bs[i] = b at *
    repeat (first | refine W_seq ?_ | refine W_region ?_ | refine W_block ?_ | refine W_skip ?_ | refine W_ret ?_ | refine W_exit ?_ | refine WL_nil ?_ | refine N_then ?_ | refine N_then_exit ?_ | refine N_then_ret ?_ | refine N_block ?_ | refine N_block_ret ?_ | refine N_block_exit ?_ | refine N_block_pass rfl ?_ | refine W_scope ?_ | refine W_label ?_ | refine N_scope ?_ | refine N_scope_ret ?_ | refine N_scope_exit ?_ | refine sp true rfl rfl (by rw [hn]; rfl) (by first | trivial | (simp; done) | (simp; omega) | (simp at *; done) | (simp at *; omega)) ?_ | refine sg true rfl rfl rfl (by rw [hn]; rfl) (by intro hG; first | trivial | (simp; done) | (simp; omega) | (simp at *; done) | (simp at *; omega)) ?_)
    refine WL_q (opq_of (opy_indexR rfl Try.underlying61 rfl (by decide) rfl rfl (by first | trivial | (simp; done) | (simp; omega) | (simp at *; done) | (simp at *; omega)) (by first | (simp; done) | (simp; omega) | omega) (by first | (simp; done) | (simp; omega) | (simp at *; omega) | omega)) rfl) (by rw [hn]; rfl) ?_
    rw [hx]
    have m4 : (((bs.take i).flatten.length : Nat) : Int) + (b.length : Int) ≤ 16777216 := by rw [eN]; exact m3
    repeat (first | refine W_seq ?_ | refine W_region ?_ | refine W_block ?_ | refine W_skip ?_ | refine W_ret ?_ | refine W_exit ?_ | refine WL_nil ?_ | refine N_then ?_ | refine N_then_exit ?_ | refine N_then_ret ?_ | refine N_block ?_ | refine N_block_ret ?_ | refine N_block_exit ?_ | refine N_block_pass rfl ?_ | refine W_scope ?_ | refine W_label ?_ | refine N_scope ?_ | refine N_scope_ret ?_ | refine N_scope_exit ?_ | refine sp true rfl rfl (by rw [hn]; rfl) (by first | trivial | (simp; done) | (simp; omega) | (simp at *; done) | (simp at *; omega)) ?_ | refine sg true rfl rfl rfl (by rw [hn]; rfl) (by intro hG; first | trivial | (simp; done) | (simp; omega) | (simp at *; done) | (simp at *; omega)) ?_)
    rw [eN]
    repeat (first | refine W_seq ?_ | refine W_region ?_ | refine W_block ?_ | refine W_skip ?_ | refine W_ret ?_ | refine W_exit ?_ | refine WL_nil ?_ | refine N_then ?_ | refine N_then_exit ?_ | refine N_then_ret ?_ | refine N_block ?_ | refine N_block_ret ?_ | refine N_block_exit ?_ | refine N_block_pass rfl ?_ | refine W_scope ?_ | refine W_label ?_ | refine N_scope ?_ | refine N_scope_ret ?_ | refine N_scope_exit ?_ | refine sp true rfl rfl (by rw [hn]; rfl) (by first | trivial | (simp; done) | (simp; omega) | (simp at *; done) | (simp at *; omega)) ?_ | refine sg true rfl rfl rfl (by rw [hn]; rfl) (by intro hG; first | trivial | (simp; done) | (simp; omega) | (simp at *; done) | (simp at *; omega)) ?_)
    refine W_cond rfl (by simp) (fun h2 => ?_) (fun h2 => ?_)
    · have := of_decide_eq_true h2
      omega
    repeat (first | refine W_seq ?_ | refine W_region ?_ | refine W_block ?_ | refine W_skip ?_ | refine W_ret ?_ | refine W_exit ?_ | refine WL_nil ?_ | refine N_then ?_ | refine N_then_exit ?_ | refine N_then_ret ?_ | refine N_block ?_ | refine N_block_ret ?_ | refine N_block_exit ?_ | refine N_block_pass rfl ?_ | refine W_scope ?_ | refine W_label ?_ | refine N_scope ?_ | refine N_scope_ret ?_ | refine N_scope_exit ?_ | refine sp true rfl rfl (by rw [hn]; rfl) (by first | trivial | (simp; done) | (simp; omega) | (simp at *; done) | (simp at *; omega)) ?_ | refine sg true rfl rfl rfl (by rw [hn]; rfl) (by intro hG; first | trivial | (simp; done) | (simp; omega) | (simp at *; done) | (simp at *; omega)) ?_)
    refine N_round ⟨i + 1, by omega⟩ (by dsimp only; omega) (St.le_of ⟨⟨rfl, rfl, rfl, rfl, rfl, rfl⟩, rfl⟩)
  · have hie : i = bs.length := by simp at hc; omega
    subst hie
    rw [List.take_length] at *
    clear hc
    repeat (first | refine W_seq ?_ | refine W_region ?_ | refine W_block ?_ | refine W_skip ?_ | refine W_ret ?_ | refine W_exit ?_ | refine WL_nil ?_ | refine N_then ?_ | refine N_then_exit ?_ | refine N_then_ret ?_ | refine N_block ?_ | refine N_block_ret ?_ | refine N_block_exit ?_ | refine N_block_pass rfl ?_ | refine W_scope ?_ | refine W_label ?_ | refine N_scope ?_ | refine N_scope_ret ?_ | refine N_scope_exit ?_ | refine sp true rfl rfl (by rw [hn]; rfl) (by first | trivial | (simp; done) | (simp; omega) | (simp at *; done) | (simp at *; omega)) ?_ | refine sg true rfl rfl rfl (by rw [hn]; rfl) (by intro hG; first | trivial | (simp; done) | (simp; omega) | (simp at *; done) | (simp at *; omega)) ?_)
    refine s_call [] hlb rfl rfl (by rw [hn]; rfl) rfl rfl (by trivial) ⟨rfl, trivial, trivial, rfl⟩ ?_
    repeat (first | refine W_seq ?_ | refine W_region ?_ | refine W_block ?_ | refine W_skip ?_ | refine W_ret ?_ | refine W_exit ?_ | refine WL_nil ?_ | refine N_then ?_ | refine N_then_exit ?_ | refine N_then_ret ?_ | refine N_block ?_ | refine N_block_ret ?_ | refine N_block_exit ?_ | refine N_block_pass rfl ?_ | refine W_scope ?_ | refine W_label ?_ | refine N_scope ?_ | refine N_scope_ret ?_ | refine N_scope_exit ?_ | refine sp true rfl rfl (by rw [hn]; rfl) (by first | trivial | (simp; done) | (simp; omega) | (simp at *; done) | (simp at *; omega)) ?_ | refine sg true rfl rfl rfl (by rw [hn]; rfl) (by intro hG; first | trivial | (simp; done) | (simp; omega) | (simp at *; done) | (simp at *; omega)) ?_)
    refine s_appI rfl rfl rfl rfl rfl rfl (by rw [hn]; rfl) (elt_mk Try.underlying22 rfl rfl) rfl rfl rfl rfl (by first | trivial | (simp; done) | (simp; omega) | (simp at *; done) | (simp at *; omega)) (by first | rfl | (simp; done) | (simp; omega)) ⟨by first | (simp; done) | (simp; omega) | (simp at *; omega), by decide⟩ ?_
    repeat (first | refine W_seq ?_ | refine W_region ?_ | refine W_block ?_ | refine W_skip ?_ | refine W_ret ?_ | refine W_exit ?_ | refine WL_nil ?_ | refine N_then ?_ | refine N_then_exit ?_ | refine N_then_ret ?_ | refine N_block ?_ | refine N_block_ret ?_ | refine N_block_exit ?_ | refine N_block_pass rfl ?_ | refine W_scope ?_ | refine W_label ?_ | refine N_scope ?_ | refine N_scope_ret ?_ | refine N_scope_exit ?_ | refine sp true rfl rfl (by rw [hn]; rfl) (by first | trivial | (simp; done) | (simp; omega) | (simp at *; done) | (simp at *; omega)) ?_ | refine sg true rfl rfl rfl (by rw [hn]; rfl) (by intro hG; first | trivial | (simp; done) | (simp; omega) | (simp at *; done) | (simp at *; omega)) ?_)
    have eT : List.take T.length T = T := List.take_length
    have eD : List.take D.length D = D := List.take_length
    rw [eD]
    have eTD : (T ++ D ++ (bs.take 0).flatten) = T ++ D := by simp
    rw [hlm]
    refine W_weaken (τ := St.of [(6, .c (.own 81 1 0 (T ++ D ++ (bs.take 0).flatten).length)), (44, rowsA bs), (45, lv (.int .i64 (bs.length : Int))), (46, lv (.int .i64 ((0 : Nat) : Int)))] [(81, .row (.ints .u8 (T ++ D ++ (bs.take 0).flatten)))]) ?_ ?_
    · rw [eTD]
      exact St.le_of ⟨⟨rfl, rfl, rfl, rfl⟩, rfl⟩
    refine W_loop (ι := {i : Nat // i ≤ bs.length}) (fun i => St.of [(6, .c (.own 81 1 0 (T ++ D ++ (bs.take i.1).flatten).length)), (44, rowsA bs), (45, lv (.int .i64 (bs.length : Int))), (46, lv (.int .i64 (i.1 : Int)))] [(81, .row (.ints .u8 (T ++ D ++ (bs.take i.1).flatten)))]) (fun i => bs.length - i.1) (fun i => ?_) ⟨0, by omega⟩
    obtain ⟨i, hi⟩ := i
    dsimp only
    repeat (first | refine W_seq ?_ | refine W_region ?_ | refine W_block ?_ | refine W_skip ?_ | refine W_ret ?_ | refine W_exit ?_ | refine WL_nil ?_ | refine N_then ?_ | refine N_then_exit ?_ | refine N_then_ret ?_ | refine N_block ?_ | refine N_block_ret ?_ | refine N_block_exit ?_ | refine N_block_pass rfl ?_ | refine W_scope ?_ | refine W_label ?_ | refine N_scope ?_ | refine N_scope_ret ?_ | refine N_scope_exit ?_ | refine sp true rfl rfl (by rw [hn]; rfl) (by first | trivial | (simp; done) | (simp; omega) | (simp at *; done) | (simp at *; omega)) ?_ | refine sg true rfl rfl rfl (by rw [hn]; rfl) (by intro hG; first | trivial | (simp; done) | (simp; omega) | (simp at *; done) | (simp at *; omega)) ?_)
    refine W_cond rfl (by simp) (fun hc => ?_) (fun hc => ?_)
    · have hib : i < bs.length := by simpa using hc
      obtain ⟨m1, m2⟩ := hnext i hib
      have hx := hidx i hib
      rw [m1] at m2
      have eN : T ++ D ++ (bs.take (i + 1)).flatten = T ++ D ++ (bs.take i).flatten ++ bs[i] := by rw [m1, List.append_assoc (T ++ D)]
      have m4 : (T ++ D ++ (bs.take i).flatten).length + bs[i].length ≤ 1000100 := by simp only [List.length_append] at m2 ⊢; omega
      generalize bs[i] = b at *
      generalize T ++ D ++ (bs.take i).flatten = X at *
      repeat (first | refine W_seq ?_ | refine W_region ?_ | refine W_block ?_ | refine W_skip ?_ | refine W_ret ?_ | refine W_exit ?_ | refine WL_nil ?_ | refine N_then ?_ | refine N_then_exit ?_ | refine N_then_ret ?_ | refine N_block ?_ | refine N_block_ret ?_ | refine N_block_exit ?_ | refine N_block_pass rfl ?_ | refine W_scope ?_ | refine W_label ?_ | refine N_scope ?_ | refine N_scope_ret ?_ | refine N_scope_exit ?_ | refine sp true rfl rfl (by rw [hn]; rfl) (by first | trivial | (simp; done) | (simp; omega) | (simp at *; done) | (simp at *; omega)) ?_ | refine sg true rfl rfl rfl (by rw [hn]; rfl) (by intro hG; first | trivial | (simp; done) | (simp; omega) | (simp at *; done) | (simp at *; omega)) ?_)
      refine WL_q (opq_of (opy_indexR rfl Try.underlying61 rfl (by decide) rfl rfl (by first | trivial | (simp; done) | (simp; omega) | (simp at *; done) | (simp at *; omega)) (by first | (simp; done) | (simp; omega) | omega) (by first | (simp; done) | (simp; omega) | (simp at *; omega) | omega)) rfl) (by rw [hn]; rfl) ?_
      rw [hx]
      repeat (first | refine W_seq ?_ | refine W_region ?_ | refine W_block ?_ | refine W_skip ?_ | refine W_ret ?_ | refine W_exit ?_ | refine WL_nil ?_ | refine N_then ?_ | refine N_then_exit ?_ | refine N_then_ret ?_ | refine N_block ?_ | refine N_block_ret ?_ | refine N_block_exit ?_ | refine N_block_pass rfl ?_ | refine W_scope ?_ | refine W_label ?_ | refine N_scope ?_ | refine N_scope_ret ?_ | refine N_scope_exit ?_ | refine sp true rfl rfl (by rw [hn]; rfl) (by first | trivial | (simp; done) | (simp; omega) | (simp at *; done) | (simp at *; omega)) ?_ | refine sg true rfl rfl rfl (by rw [hn]; rfl) (by intro hG; first | trivial | (simp; done) | (simp; omega) | (simp at *; done) | (simp at *; omega)) ?_)
      refine s_appI rfl rfl rfl rfl rfl rfl (by rw [hn]; rfl) (elt_mk Try.underlying22 rfl rfl) rfl rfl rfl rfl (by first | trivial | (simp; done) | (simp; omega) | (simp at *; done) | (simp at *; omega)) (by first | rfl | (simp; done) | (simp; omega)) ⟨by first | (simp; done) | (simp; omega) | (simp at *; omega), by decide⟩ ?_
      repeat (first | refine W_seq ?_ | refine W_region ?_ | refine W_block ?_ | refine W_skip ?_ | refine W_ret ?_ | refine W_exit ?_ | refine WL_nil ?_ | refine N_then ?_ | refine N_then_exit ?_ | refine N_then_ret ?_ | refine N_block ?_ | refine N_block_ret ?_ | refine N_block_exit ?_ | refine N_block_pass rfl ?_ | refine W_scope ?_ | refine W_label ?_ | refine N_scope ?_ | refine N_scope_ret ?_ | refine N_scope_exit ?_ | refine sp true rfl rfl (by rw [hn]; rfl) (by first | trivial | (simp; done) | (simp; omega) | (simp at *; done) | (simp at *; omega)) ?_ | refine sg true rfl rfl rfl (by rw [hn]; rfl) (by intro hG; first | trivial | (simp; done) | (simp; omega) | (simp at *; done) | (simp at *; omega)) ?_)
      refine N_round ⟨i + 1, by omega⟩ (by dsimp only; omega) (St.le_of ⟨⟨?_, rfl, rfl, rfl⟩, ?_⟩)
      · dsimp only
        rw [eN]
        rfl
      · dsimp only
        rw [eN]
        rfl
    · have hie : i = bs.length := by simp at hc; omega
      subst hie
      rw [List.take_length, ← hW] at *
      repeat (first | refine W_seq ?_ | refine W_region ?_ | refine W_block ?_ | refine W_skip ?_ | refine W_ret ?_ | refine W_exit ?_ | refine WL_nil ?_ | refine N_then ?_ | refine N_then_exit ?_ | refine N_then_ret ?_ | refine N_block ?_ | refine N_block_ret ?_ | refine N_block_exit ?_ | refine N_block_pass rfl ?_ | refine W_scope ?_ | refine W_label ?_ | refine N_scope ?_ | refine N_scope_ret ?_ | refine N_scope_exit ?_ | refine sp true rfl rfl (by rw [hn]; rfl) (by first | trivial | (simp; done) | (simp; omega) | (simp at *; done) | (simp at *; omega)) ?_ | refine sg true rfl rfl rfl (by rw [hn]; rfl) (by intro hG; first | trivial | (simp; done) | (simp; omega) | (simp at *; done) | (simp at *; omega)) ?_)
      exact N_retN [81] rfl (by first | trivial | (simp; done) | (simp; omega) | (simp at *; done) | (simp at *; omega)) ⟨rfl, by first | trivial | exact ⟨rfl, rfl⟩, by first | trivial | exact rfl | exact ⟨rfl, rfl⟩, rfl⟩ hb rfl (by first | trivial | (simp; done) | (simp [ordL]; done))
end Go.Proofs.Ytppmfjopokkhmaa

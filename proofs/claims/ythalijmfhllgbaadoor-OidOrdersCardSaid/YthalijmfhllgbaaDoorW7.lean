/-
  Chapter 01's hex text of bytes. The conditions: rows of at most a million bytes.
-/
import Derived.Test.YthalijmfhllgbaaDoorW6
namespace Go.Proofs.YthalijmfhllgbaaDoor
set_option linter.unusedSimpArgs false
set_option linter.unusedVariables false
open Go.Sx

set_option maxRecDepth 10000

def dig (n : Int) : Int := if n < 10 then 48 + n else 87 + n
theorem digit_ok (n : Int) (h : 0 ≤ n ∧ n < 16) : Ct Tryd.prog 55 [lv (.int .u8 n)] [] (lv (.int .u8 (dig n))) [] [] := by
  refine Ct_intro Tryd.func55 rfl rfl rfl rfl rfl (fun E hn hb => ?_)
  repeat (first | refine stp ?_ | refine N_block_pass rfl ?_ | refine sp1 ?_ | refine sg1 ?_ | refine WL_nil ?_)
  refine W_cond rfl (by simp) (fun hc => ?_) (fun hc => ?_)
  · have h1 : n < 10 := by simpa using hc
    repeat (first | refine stp ?_ | refine N_block_pass rfl ?_ | refine sp1 ?_ | refine sg1 ?_ | refine WL_nil ?_)
    refine rt2 [] ?_ ?_
    · simp only [dig, h1, if_true]; rfl
    · trivial
  · have h1 : ¬ n < 10 := by simpa using hc
    have e : 97 + n - 10 = 87 + n := by omega
    repeat (first | refine stp ?_ | refine N_block_pass rfl ?_ | refine sp1 ?_ | refine sg1 ?_ | refine WL_nil ?_)
    refine rt2 [] ?_ ?_
    · simp only [dig, h1, if_false, e]; rfl
    · trivial

def hexL (l : List Int) : List Int := l.flatMap fun c => [dig (c / 16), dig (c % 16)]
theorem hexL_len (l : List Int) : (hexL l).length = 2 * l.length := by
  induction l with
  | nil => rfl
  | cons x l ih => simp only [hexL, List.flatMap_cons] at *; simp [ih]; omega
theorem and15 (n : Int) (h : 0 ≤ n ∧ n < 256) : IntKind.u8.wrap (BitVec.ofInt IntKind.u8.bits n &&& BitVec.ofInt IntKind.u8.bits 15).toNat = n % 16 := by
  obtain ⟨m, rfl⟩ : ∃ m : Nat, n = m := ⟨n.toNat, by omega⟩
  have key : ∀ m : Fin 256, IntKind.u8.wrap (BitVec.ofInt IntKind.u8.bits ((m.val : Nat) : Int) &&& BitVec.ofInt IntKind.u8.bits 15).toNat = ((m.val : Nat) : Int) % 16 := by decide
  exact key ⟨m, by omega⟩

theorem hex_ok (l : List Int) (hl : l.length ≤ 100000) (hw : WfB l) : Ct Tryd.prog 28 [B8 l] [] (lv (.string (strOfNums (hexL l)))) [] [] := by
  refine Ct_intro Tryd.func28 rfl rfl rfl rfl rfl (fun E hn hb => ?_)
  repeat (first | refine stp ?_ | refine N_block_pass rfl ?_ | refine sp1 ?_ | refine sg1 ?_ | refine WL_nil ?_)
  refine s_makeI (by_ := 1) rfl rfl rfl (by rw [hn]; rfl) (elt_mk Tryd.underlying28 rfl rfl) rfl rfl rfl (by first | trivial | (simp; done) | (simp; omega) | (simp at *; done) | (simp at *; omega)) 0 (by first | rfl | (simp; done) | omega) (by first | (simp; done) | omega | (simp at *; omega)) ?_
  repeat (first | refine stp ?_ | refine N_block_pass rfl ?_ | refine sp1 ?_ | refine sg1 ?_ | refine WL_nil ?_)
  refine W_weaken (St.le_of (l := [(3, .c (.own 73 1 0 0)), (10, B8 l), (11, lv (.int .i64 (l.length : Int))), (12, lv (.int .i64 0))]) (h := [(73, .row (.ints .u8 []))]) (by refine ⟨?_, ?_⟩ <;> (repeat' (first | exact trivial | exact rfl | refine ⟨?_, ?_⟩)) <;> first | exact rfl | (simp; done) | skip)) ?_
  refine W_loop (ι := {i : Nat // i ≤ l.length}) (fun i => St.of [(3, .c (.own 73 1 0 (hexL (l.take i.1)).length)), (10, B8 l), (11, lv (.int .i64 (l.length : Int))), (12, lv (.int .i64 (i.1 : Int)))] [(73, .row (.ints .u8 (hexL (l.take i.1))))]) (fun i => l.length - i.1) (fun i => ?_) ⟨0, by omega⟩
  obtain ⟨i, hi⟩ := i
  dsimp only
  have hhl := hexL_len (l.take i)
  have htl : (l.take i).length ≤ l.length := by simp; omega
  repeat (first | refine stp ?_ | refine N_block_pass rfl ?_ | refine sp1 ?_ | refine sg1 ?_ | refine WL_nil ?_)
  refine W_cond rfl (by simp) (fun hc => ?_) (fun hc => ?_)
  · have hi8 : i < l.length := by simp at hc; omega
    have hg : l.getD (i : Int).toNat 0 = l[i] := by simp [hi8]
    have hx := hw l[i] (List.getElem_mem hi8)
    have e4 : l[i] / 2 ^ min (Int.toNat 4) IntKind.u8.bits = l[i] / 16 := by simp [IntKind.bits]
    repeat (first | refine stp ?_ | refine N_block_pass rfl ?_ | refine sp1 ?_ | refine sg1 ?_ | refine WL_nil ?_)
    rw [hg]
    repeat (first | refine stp ?_ | refine N_block_pass rfl ?_ | refine sp1 ?_ | refine sg1 ?_ | refine WL_nil ?_)
    rw [e4]
    refine s_call0 (digit_ok (l[i] / 16) (by omega)) rfl rfl rfl (by rw [hn]; rfl) rfl rfl (by first | trivial | (simp; done) | (simp; omega) | (simp at *; done) | (simp at *; omega)) rfl rfl rfl ?_
    repeat (first | refine stp ?_ | refine N_block_pass rfl ?_ | refine sp1 ?_ | refine sg1 ?_ | refine WL_nil ?_)
    rw [and15 _ hx]
    refine s_call0 (digit_ok (l[i] % 16) (by omega)) rfl rfl rfl (by rw [hn]; rfl) rfl rfl (by first | trivial | (simp; done) | (simp; omega) | (simp at *; done) | (simp at *; omega)) rfl rfl rfl ?_
    refine s_litI rfl rfl rfl (by rw [hn]; rfl) (elt_mk Tryd.underlying28 rfl rfl) (zok5) (by first | trivial | (simp; done) | (simp; omega) | (simp at *; done) | (simp at *; omega)) ⟨by decide, rfl⟩ ?_
    refine s_appI rfl rfl rfl rfl rfl rfl (by rw [hn]; rfl) (elt_mk Tryd.underlying28 rfl rfl) rfl rfl rfl rfl (by first | trivial | (simp; done) | (simp; omega) | (simp at *; done) | (simp at *; omega)) (by first | rfl | (simp; done) | (simp; omega)) ⟨by first | (simp; done) | (simp; omega) | (simp at *; omega), by decide⟩ ?_
    repeat (first | refine stp ?_ | refine N_block_pass rfl ?_ | refine sp1 ?_ | refine sg1 ?_ | refine WL_nil ?_)
    have eT : l.take (i + 1) = l.take i ++ [l[i]] := by rw [List.take_add_one, List.getElem?_eq_getElem hi8]; rfl
    have eH : hexL (l.take (i + 1)) = hexL (l.take i) ++ [dig (l[i] / 16), dig (l[i] % 16)] := by rw [eT]; simp only [hexL, List.flatMap_append, List.flatMap_cons, List.flatMap_nil, List.append_nil]
    refine N_round ⟨i + 1, by omega⟩ (by dsimp only; omega) (St.le_of ⟨⟨?_, rfl, rfl, rfl⟩, ?_⟩)
    · show Av.c (.own 73 1 0 (hexL (l.take i) ++ [dig (l[i] / 16), dig (l[i] % 16)]).length) = Av.c (.own 73 1 0 (hexL (l.take (i + 1))).length)
      rw [eH]
    · show Blk.row (.ints .u8 (hexL (l.take i) ++ [dig (l[i] / 16), dig (l[i] % 16)])) = Blk.row (.ints .u8 (hexL (l.take (i + 1))))
      rw [eH]
  · have : i = l.length := by simp at hc; omega
    subst this
    repeat (first | refine stp ?_ | refine N_block_pass rfl ?_ | refine sp1 ?_ | refine sg1 ?_ | refine WL_nil ?_)
    refine WL_q (opq_of (opy_str rfl Tryd.underlying28 Tryd.underlying5 Tryd.underlying9 rfl (by first | trivial | (simp; done) | (simp; omega) | (simp at *; done) | (simp at *; omega))) rfl) (by rw [hn]; rfl) ?_
    repeat (first | refine stp ?_ | refine N_block_pass rfl ?_ | refine sp1 ?_ | refine sg1 ?_ | refine WL_nil ?_)
    refine rt2 [] ?_ ?_
    · have e : (hexL (l.take l.length)).take (hexL (l.take l.length)).length = hexL l := by rw [List.take_length, List.take_length]
      exact congrArg (fun l => lv (.string (strOfNums l))) e
    · trivial

end Go.Proofs.YthalijmfhllgbaaDoor

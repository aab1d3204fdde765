/-
  Chapter 04: the chapter's examples. The conditions: none.
-/
import Derived.Test.YthalijmfhllgbaaDoorO8
import Derived.Test.YthalijmfhllgbaaDoorC3
import Derived.Test.YthalijmfhllgbaaDoorW7
namespace Go.Proofs.YthalijmfhllgbaaDoor
set_option linter.unusedSimpArgs false
set_option linter.unusedVariables false
open Go.Sx

set_option maxRecDepth 10000

theorem next_bad (l : List Int) (p : Nat) (hp : p < l.length) (hl : l.length ≤ 1000000) (hx : l.getD p 0 = 128) : Ct Tryd.prog 48 [.c (.ptr 0 0)] [curB l p] (.tup [lv (.int .i64 0), lv (.int .i64 6)]) [curB l (p + 1)] [] := by
  have h1 := byte_ok l p hp hl
  rw [hx] at h1
  refine Ct_intro Tryd.func48 rfl rfl rfl rfl rfl (fun E hn hb => ?_)
  repeat (first | refine stp ?_ | refine N_block_pass rfl ?_ | refine sp1 ?_ | refine sg1 ?_ | refine WL_nil ?_)
  refine W_weaken (St.le_of (l := [(0, .c (.ptr 0 0)), (4, lv (.int .i64 0)), (5, lv (.int .i64 0))]) (h := [(0, curB l p)]) (by refine ⟨?_, ?_⟩ <;> (repeat' (first | exact trivial | exact rfl | refine ⟨?_, ?_⟩)) <;> first | exact rfl | (simp; done) | skip)) ?_
  refine W_loop (ι := Unit) (fun _ => St.of [(0, .c (.ptr 0 0)), (4, lv (.int .i64 0)), (5, lv (.int .i64 0))] [(0, curB l p)]) (fun _ => 0) (fun _ => ?_) ()
  repeat (first | refine stp ?_ | refine N_block_pass rfl ?_ | refine sp1 ?_ | refine sg1 ?_ | refine WL_nil ?_)
  refine s_call [0] h1 rfl rfl (by rw [hn]; rfl) rfl rfl (by trivial) ⟨rfl, rfl, (by simp [ordL]), rfl⟩ ?_
  repeat (first | refine stp ?_ | refine N_block_pass rfl ?_ | refine sp1 ?_ | refine sg1 ?_ | refine WL_nil ?_)
  refine W_cond rfl (by simp) (fun hc => ?_) (fun hc => ?_)
  · repeat (first | refine stp ?_ | refine N_block_pass rfl ?_ | refine sp1 ?_ | refine sg1 ?_ | refine WL_nil ?_)
    exact rt1 []
  · simp at hc
theorem parse_bad : Ct Tryd.prog 25 [B8 [128, 1]] [] (.tup [I64 [], lv (.int .i64 6)]) [] [] := by
  have h1 := curnew_ok [128, 1] (by simp)
  have h2 := next_bad [128, 1] 0 (by simp) (by simp) rfl
  refine Ct_intro Tryd.func25 rfl rfl rfl rfl rfl (fun E hn hb => ?_)
  repeat (first | refine stp ?_ | refine N_block_pass rfl ?_ | refine sp1 ?_ | refine sg1 ?_ | refine WL_nil ?_)
  refine s_call [] h1 rfl rfl (by rw [hn]; rfl) rfl rfl (by trivial) ⟨rfl, trivial, trivial, rfl⟩ ?_
  repeat (first | refine stp ?_ | refine N_block_pass rfl ?_ | refine sp1 ?_ | refine sg1 ?_ | refine WL_nil ?_)
  refine s_call [75] h2 rfl rfl (by rw [hn]; rfl) rfl rfl (by trivial) ⟨rfl, rfl, (by simp [ordL]), rfl⟩ ?_
  repeat (first | refine stp ?_ | refine N_block_pass rfl ?_ | refine sp1 ?_ | refine sg1 ?_ | refine WL_nil ?_)
  refine W_cond rfl (by simp) (fun hc => ?_) (fun hc => ?_)
  · repeat (first | refine stp ?_ | refine N_block_pass rfl ?_ | refine sp1 ?_ | refine sg1 ?_ | refine WL_nil ?_)
    refine N_retU [] rfl (by simp) (r' := .tup [I64 [], lv (.int .i64 6)]) ⟨.inr ⟨rfl, .inl ⟨_, rfl⟩⟩, .inl rfl, trivial⟩ ⟨rfl, trivial, trivial, rfl⟩ hb rfl trivial
  · simp at hc
def exI (x : Int) : ByteArray := if x = 2 then ByteArray.mk #[50] else if x = 5 then ByteArray.mk #[53] else if x = 29 then ByteArray.mk #[50, 57] else ByteArray.mk #[50, 48]
theorem text_ex : Ct Tryd.prog 14 [I64 [2, 5, 29, 20]] [] (.tup [lv (.string (ByteArray.mk #[50, 46, 53, 46, 50, 57, 46, 50, 48])), lv (.int .i64 0)]) [] [] := by
  have h := text_of exI (fun x => by unfold exI; split; decide; split; decide; split; decide; decide) (fun x => by unfold exI; split; decide; split; decide; split; decide; decide) [2, 5, 29, 20] (by decide) (fun x hx => by
    simp at hx
    rcases hx with rfl | rfl | rfl | rfl
    · exact itoa_2
    · exact itoa_5
    · exact itoa_29
    · exact itoa_20)
  have e : strOfNums (textO exI [2, 5, 29, 20]) = ByteArray.mk #[50, 46, 53, 46, 50, 57, 46, 50, 48] := by decide +kernel
  rw [e] at h
  exact h
theorem cont_ex1 : Ct Tryd.prog 12 [I64 [1, 2, 840, 113549]] [] (.tup [B8 [42, 134, 72, 134, 247, 13], lv (.int .i64 0)]) [] [] := by
  have h := contO_ok [1, 2, 840, 113549] (by simp)
  have e : contO [1, 2, 840, 113549] = .tup [B8 (arcsL [42, 840, 113549]), lv (.int .i64 0)] := by
    rw [contO, if_pos (by decide)]; rfl
  have e2 : arcsL [42, 840, 113549] = [42, 134, 72, 134, 247, 13] := by decide +kernel
  rw [e, e2] at h
  exact h
theorem cont_ex2 : Ct Tryd.prog 12 [I64 [2, 999]] [] (.tup [B8 [136, 55], lv (.int .i64 0)]) [] [] := by
  have h := contO_ok [2, 999] (by simp)
  have e : contO [2, 999] = .tup [B8 (arcsL [1079]), lv (.int .i64 0)] := by
    rw [contO, if_pos (by decide)]; rfl
  have e2 : arcsL [1079] = [136, 55] := by decide +kernel
  rw [e, e2] at h
  exact h
theorem wf04 {l : List Int} (h : (l.all fun x => decide (0 ≤ x) && decide (x < 256)) = true) : WfB l := fun x hx => by
  have := List.all_eq_true.1 h x hx
  simpa using this
theorem hex_a : Ct Tryd.prog 28 [B8 [42, 134, 72, 134, 247, 13]] [] (lv (.string (strOfNums [50, 97, 56, 54, 52, 56, 56, 54, 102, 55, 48, 100]))) [] [] := hex_ok [42, 134, 72, 134, 247, 13] (by decide) (wf04 (by decide))
theorem hex_b : Ct Tryd.prog 28 [B8 [136, 55]] [] (lv (.string (strOfNums [56, 56, 51, 55]))) [] [] := hex_ok [136, 55] (by decide) (wf04 (by decide))
theorem known04_ok : Ct Tryd.prog 8 [] [] (lv (.bool true)) [] [] := by
  refine Ct_intro Tryd.func8 rfl rfl rfl rfl rfl (fun E hn hb => ?_)
  repeat (first | refine stp ?_ | refine N_block_pass rfl ?_ | refine sp1 ?_ | refine sg1 ?_ | refine WL_nil ?_)
  refine WL_q (opq_of (opy_lit (d := (.ints .i64 [1, 2, 840, 113549])) rfl (elt_mk Tryd.underlying22 rfl rfl) zok3 rfl (by first | trivial | (simp; done) | (simp; omega) | (simp at *; done) | (simp at *; omega)) rfl ⟨by decide, by decide, rfl, rfl⟩) rfl) (by rw [hn]; rfl) ?_
  refine s_call0 (cont_ex1) rfl rfl rfl (by rw [hn]; rfl) rfl rfl (by first | trivial | (simp; done) | (simp; omega) | (simp at *; done) | (simp at *; omega)) rfl rfl rfl ?_
  repeat (first | refine stp ?_ | refine N_block_pass rfl ?_ | refine sp1 ?_ | refine sg1 ?_ | refine WL_nil ?_)
  refine WL_q (opq_of (opy_lit (d := (.ints .i64 [2, 999])) rfl (elt_mk Tryd.underlying22 rfl rfl) zok3 rfl (by first | trivial | (simp; done) | (simp; omega) | (simp at *; done) | (simp at *; omega)) rfl ⟨by decide, by decide, rfl, rfl⟩) rfl) (by rw [hn]; rfl) ?_
  refine s_call0 (cont_ex2) rfl rfl rfl (by rw [hn]; rfl) rfl rfl (by first | trivial | (simp; done) | (simp; omega) | (simp at *; done) | (simp at *; omega)) rfl rfl rfl ?_
  repeat (first | refine stp ?_ | refine N_block_pass rfl ?_ | refine sp1 ?_ | refine sg1 ?_ | refine WL_nil ?_)
  refine WL_q (opq_of (opy_lit (d := (.ints .u8 [128, 1])) rfl (elt_mk Tryd.underlying28 rfl rfl) zok5 rfl (by first | trivial | (simp; done) | (simp; omega) | (simp at *; done) | (simp at *; omega)) rfl ⟨by decide, by decide, rfl, rfl⟩) rfl) (by rw [hn]; rfl) ?_
  refine s_call0 (parse_bad) rfl rfl rfl (by rw [hn]; rfl) rfl rfl (by first | trivial | (simp; done) | (simp; omega) | (simp at *; done) | (simp at *; omega)) rfl rfl rfl ?_
  repeat (first | refine stp ?_ | refine N_block_pass rfl ?_ | refine sp1 ?_ | refine sg1 ?_ | refine WL_nil ?_)
  refine WL_q (opq_of (opy_lit (d := (.ints .i64 [2, 5, 29, 20])) rfl (elt_mk Tryd.underlying22 rfl rfl) zok3 rfl (by first | trivial | (simp; done) | (simp; omega) | (simp at *; done) | (simp at *; omega)) rfl ⟨by decide, by decide, rfl, rfl⟩) rfl) (by rw [hn]; rfl) ?_
  refine s_call0 (text_ex) rfl rfl rfl (by rw [hn]; rfl) rfl rfl (by first | trivial | (simp; done) | (simp; omega) | (simp at *; done) | (simp at *; omega)) rfl rfl rfl ?_
  repeat (first | refine stp ?_ | refine N_block_pass rfl ?_ | refine sp1 ?_ | refine sg1 ?_ | refine WL_nil ?_)
  refine WL_q (opq_callG rfl rfl rfl rfl rfl (fun _ => (hex_a)) (fun hG => by first | exact hG | (first | trivial | (simp; done) | (simp; omega) | (simp at *; done) | (simp at *; omega))) rfl rfl) (by rw [hn]; rfl) ?_
  repeat (first | refine stp ?_ | refine N_block_pass rfl ?_ | refine sp1 ?_ | refine sg1 ?_ | refine WL_nil ?_)
  refine WL_q (opq_callG rfl rfl rfl rfl rfl (fun _ => (hex_b)) (fun hG => by first | exact hG | (first | trivial | (simp; done) | (simp; omega) | (simp at *; done) | (simp at *; omega))) rfl rfl) (by rw [hn]; rfl) ?_
  repeat (first | refine stp ?_ | refine N_block_pass rfl ?_ | refine sp1 ?_ | refine sg1 ?_ | refine WL_nil ?_)
  refine rt2 [] ?_ ?_
  · simp only [ByteArray.toList_eq]
    rfl
  · trivial
end Go.Proofs.YthalijmfhllgbaaDoor

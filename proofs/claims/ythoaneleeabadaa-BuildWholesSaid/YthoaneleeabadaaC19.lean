/-
  Chapter 03's wholes, walked: it returns true. The conditions: rows of bytes that a machine can hold, ints.
-/
import Derived.Test.YthoaneleeabadaaSxL
import Derived.Test.YthoaneleeabadaaSxZ
import Derived.Test.YthoaneleeabadaaC3
namespace Go.Proofs.Ythoaneleeabadaa
set_option linter.unusedSimpArgs false
set_option linter.unusedVariables false
open Go.Sx

set_option maxRecDepth 10000

theorem upd_eq {hp : Nat → Blk} {j : Nat} {b : Blk} (h : hp j = b) : hp = fun k => if k = j then b else hp k := by
  funext k
  split
  · rename_i e; rw [e, h]
  · rfl
theorem headread_ok (l : List Int) (p : Nat) (hp : p ≤ l.length) (hl : l.length ≤ 1000000) (hw : WfB l) : Ct Try.prog 97 [.c (.ptr 0 0)] [curB l p] (.tup [tagA (readP l p).1.1, lv (.int .i64 (readP l p).1.2), lv (.int .i64 (readP l p).2.2)]) [curB l (readP l p).2.1] [] := by
  have hr := read_ok l p hp hl hw
  generalize readP l p = F at *
  obtain ⟨⟨⟨t1, t2, t3⟩, n⟩, q, e⟩ := F
  dsimp only at *
  refine Ct_intro Try.func97 rfl rfl rfl rfl rfl (fun E hn hb => ?_)
  repeat (first | refine stp ?_ | refine N_block_pass rfl ?_ | refine sp1 ?_ | refine sg1 ?_ | refine WL_nil ?_)
  refine s_allocN rfl rfl rfl (by rw [hn]; rfl) rfl zok36 ?_
  repeat (first | refine stp ?_ | refine N_block_pass rfl ?_ | refine sp1 ?_ | refine sg1 ?_ | refine WL_nil ?_)
  refine s_call [0] hr rfl rfl (by rw [hn]; rfl) rfl rfl (by trivial) ⟨rfl, rfl, (by simp [ordL]), rfl⟩ ?_
  repeat (first | refine stp ?_ | refine N_block_pass rfl ?_ | refine sp1 ?_ | refine sg1 ?_ | refine WL_nil ?_)
  refine s_allocN rfl rfl rfl (by rw [hn]; rfl) rfl zok166 ?_
  refine s_storeN rfl rfl rfl rfl rfl (by first | trivial | (simp; done) | (simp; omega) | (simp at *; done) | (simp at *; omega)) rfl rfl rfl (by rw [cellsOf166]; rfl) (by rw [info166]; rfl) rfl rfl ?_
  repeat (first | refine stp ?_ | refine N_block_pass rfl ?_ | refine sp1 ?_ | refine sg1 ?_ | refine WL_nil ?_)
  refine W_drawF [2, 3, 4] (fun hp => hp 69 = .cells [i64c t1, i64c t2, .lf (.v (.bool t3)), i64c n]) (by kernel_rfl) (by kernel_rfl) (by rw [hn]; rfl) rfl ?_
  refine DrawF_op rfl rfl rfl (ops_pure true rfl rfl (by first | trivial | (simp; done) | (simp; omega))) ?_
  refine DrawF_op rfl rfl rfl (ops_pure true rfl rfl (by first | trivial | (simp; done) | (simp; omega))) ?_
  refine DrawF_fr rfl rfl rfl (fun hp hK => ops_pure true rfl rfl (by first | trivial | (simp; done) | (simp; omega))) ?_
  refine DrawF_fr rfl rfl rfl (fun hp hK => by rw [upd_eq hK]; exact ops_pure true rfl rfl (by first | trivial | (simp; done) | (simp; omega))) ?_
  refine DrawF_fr rfl rfl rfl (fun hp hK => ops_pure true rfl rfl (by first | trivial | (simp; done) | (simp; omega))) ?_
  rw [cellsOf36]
  refine DrawF_store rfl rfl rfl rfl (by first | trivial | (simp; done) | (simp; omega)) rfl rfl rfl (by rw [cellsOf36]; rfl) (by rw [info36]; rfl) rfl rfl rfl ?_
  refine DrawF_op rfl rfl rfl (ops_pure true rfl rfl (by first | trivial | (simp; done) | (simp; omega))) ?_
  refine DrawF_op rfl rfl rfl (ops_pure true rfl rfl (by first | trivial | (simp; done) | (simp; omega))) ?_
  refine DrawF_nil ?_
  repeat (first | refine stp ?_ | refine N_block_pass rfl ?_ | refine sp1 ?_ | refine sg1 ?_ | refine WL_nil ?_)
  exact rt1 []
end Go.Proofs.Ythoaneleeabadaa

namespace Go.Proofs.Ythoaneleeabadaa
set_option linter.unusedSimpArgs false
set_option linter.unusedVariables false
open Go.Sx

set_option maxRecDepth 10000

theorem wrap_len (t : TagP) (X : List Int) : (wrapL t X).length ≤ X.length + 20 := by
  have h1 := lowD_len 128 5 t.2.1.toNat
  have h2 := lowD_len 256 5 X.length
  have hT5 : (tgL t).length ≤ 10 := by
    unfold tgL
    split
    · simp
    · simp [hiL_len]; omega
  have hL5 : (lenL X.length).length ≤ 10 := by
    generalize X.length = n at *
    unfold lenL
    split
    · simp
    · simp; omega
  simp only [wrapL, List.length_append]
  omega
end Go.Proofs.Ythoaneleeabadaa

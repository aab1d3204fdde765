/-
  Oids that are read: the document's reader. The conditions: rows of bytes that a machine can hold.
-/
import Derived.Test.YtaagjnlkinojcaaGreatDoorA4
import Derived.Test.YtaagjnlkinojcaaGreatDoorC9
namespace Go.Proofs.YtaagjnlkinojcaaGreatDoor
set_option linter.unusedSimpArgs false
set_option linter.unusedVariables false
open Go.Sx
set_option maxRecDepth 10000
theorem roread_ok (l : List Int) (p : Nat) (hp : p ≤ l.length) (hl : l.length ≤ 1000000) (hw : WfB l) : Ct Tryz.prog 40 [B8 l, lv (.int .i64 (p : Int))] [] (.tup [I64 (oidR l p).1, lv (.int .i64 ((oidR l p).2.1 : Int)), lv (.int .i64 (oidR l p).2.2)]) [] [] := by
 have hof := refoft_ok 6
 have hop := refopen_ok l p (ofT 6) hp hl hw
 have hmem := openP_mem l p (ofT 6)
 unfold oidR
 generalize openP l p (ofT 6) = X at *
 obtain ⟨x, q, e⟩ := X
 dsimp only at *
 have hpa := roparse_ok x (by omega) (fun y hy => hw y (hmem.2 y hy))
 generalize oidP x = Y at *
 obtain ⟨o, f⟩ := Y
 dsimp only at *
 by_cases he : e = 0
 · subst he
   rw [if_pos rfl]
   by_cases hf : f = 0
   · subst hf
     rw [if_pos rfl]
     refine Ct_intro Tryz.func40 rfl rfl rfl rfl rfl (fun E hn hb => ?_)
     repeat refine nx ?_
     exact rtU []
   · rw [if_neg hf]
     refine Ct_intro Tryz.func40 rfl rfl rfl rfl rfl (fun E hn hb => ?_)
     repeat refine nx ?_
     exact rtU []
 · rw [if_neg he]
   refine Ct_intro Tryz.func40 rfl rfl rfl rfl rfl (fun E hn hb => ?_)
   repeat refine nx ?_
   exact rtU []
end Go.Proofs.YtaagjnlkinojcaaGreatDoor

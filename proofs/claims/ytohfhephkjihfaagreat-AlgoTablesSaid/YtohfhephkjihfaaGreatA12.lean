/-
  Algorithms and public keys: which are right; what is read is right. The conditions: rows of bytes that a machine can hold.
-/
import Derived.Test.YtohfhephkjihfaaGreatM3
import Derived.Test.YtohfhephkjihfaaGreatB15
import Derived.Test.YtohfhephkjihfaaGreatD8
import Derived.Test.YtohfhephkjihfaaGreatC12
import Derived.Test.YtohfhephkjihfaaGreatSxQ
import Derived.Test.YtohfhephkjihfaaGreatO3
namespace Go.Proofs.YtohfhephkjihfaaGreat
set_option linter.unusedSimpArgs false
set_option linter.unusedVariables false
open Go.Sx
set_option maxRecDepth 10000
def Z8 : V8 := ⟨0, 0, 0, 0, 0, 0, 0, 0⟩
theorem new_ok : Ct Tryz.prog 40 [] [] (.c (.ptr 0 0)) [] [.cells (hC Z8 false (.lf (.v (.slice none 0 0))) 0)] := by
 refine Ct_intro Tryz.func40 rfl rfl rfl rfl rfl (fun E hn hb => ?_)
 repeat (refine nst ?_)
 refine s_boxN rfl rfl rfl (by rw [hn]; rfl) rfl (by exact vcs) rfl rfl ?_
 repeat (refine nst ?_)
 exact rt1 [66]
theorem begin_ok (v : V8) (bg : Bool) (o m : Nat) (n : Int) (l : List Int) : Ct Tryz.prog 57 [.c (.ptr 0 0)] [.cells (hC v bg (.own 1 1 o m) n), .row (.ints .u8 l)] (.tup []) [.cells (hC (cond bg v H0) true (.own 1 1 o m) n), .row (.ints .u8 l)] [] := by
 refine Ct_intro Tryz.func57 rfl rfl rfl rfl rfl (fun E hn hb => ?_)
 repeat (refine nst ?_)
 refine W_cond rfl (by simp) (fun hc => ?_) (fun hc => ?_)
 · have : bg = false := by simpa using hc
   subst this
   repeat (refine nst ?_)
   refine s_call0 (first_ok) rfl rfl rfl (by rw [hn]; rfl) rfl rfl (by exact vcs) rfl rfl rfl ?_
   repeat (refine nst ?_)
   refine s_storeN rfl rfl rfl rfl rfl (by exact vcs) rfl rfl rfl (by rw [cellsOf109]; rfl) (by rw [info109]; rfl) rfl rfl ?_
   repeat (refine nst ?_)
   refine s_storeN rfl rfl rfl rfl rfl (by exact vcs) rfl rfl rfl (by rw [cellsOf4]; rfl) (by rw [info4]; rfl) rfl rfl ?_
   repeat (refine nst ?_)
   exact rt1 []
 · have : bg = true := by simpa using hc
   subst this
   repeat (refine nst ?_)
   exact rt1 []
theorem cloneO_ok (l : List Int) (off len : Nat) (hl : off + len ≤ l.length) (hlen : len ≤ 1000000) : Ct Tryz.prog 19 [.c (.own 0 1 off len)] [.row (.ints .u8 l)] (.c (.own 1 1 0 len)) [.row (.ints .u8 l)] [.row (.ints .u8 ((l.drop off).take len))] := by
 refine Ct_intro Tryz.func19 rfl rfl rfl rfl rfl (fun E hn hb => ?_)
 repeat (refine nst ?_)
 refine s_nilS (neg := false) rfl rfl (by rw [hn]; rfl) Tryz.underlying29 (srcP_own rfl) ⟨rfl, hl⟩ (by simp [szD]) (fun b hb0 => ?_)
 have hll : ((l.drop off).take len).length = len := by simp; omega
 repeat (refine nst ?_)
 refine W_cond rfl (by simp) (fun hc => ?_) (fun hc => ?_)
 · have hb1 : b = true := by simpa using hc
   subst hb1
   have h0 : len = 0 := by
     have := hb0 rfl
     simp only [lenD] at this
     omega
   subst h0
   repeat (refine nst ?_)
   refine N_own_nil 2 100 1 (.ints .u8 []) rfl rfl (.inl rfl) ?_
   exact rt1 [100]
 · repeat (refine nst ?_)
   refine s_litI rfl rfl rfl (by rw [hn]; rfl) (elt_mk Tryz.underlying29 rfl rfl) (zok5) (by exact vcs) ⟨by decide, rfl⟩ ?_
   repeat (refine nst ?_)
   refine s_appI rfl rfl rfl rfl rfl rfl (by rw [hn]; rfl) (elt_mk Tryz.underlying29 rfl rfl) rfl rfl rfl (srcP_own rfl) ⟨rfl, hl⟩ (by first | rfl | (simp; done) | (simp; omega)) ⟨by rw [hll]; simp; omega, by decide⟩ ?_
   repeat (refine nst ?_)
   refine rt2 [69] ?_ ?_
   · exact congrArg (fun n => Av.c (.own 69 1 0 n)) (by simp; omega)
   · rfl
theorem hcopy_ok (v : V8) (bg : Bool) (m : Nat) (n : Int) (l : List Int) (hm : m = l.length) (hl : m ≤ 1000000) : Ct Tryz.prog 59 [.c (.ptr 0 0)] [.cells (hC v bg (.own 1 1 0 m) n), .row (.ints .u8 l)] (.c (.ptr 2 0)) [.cells (hC v bg (.own 1 1 0 m) n), .row (.ints .u8 l)] [.cells (hC v bg (.own 3 1 0 m) n), .row (.ints .u8 l)] := by
 have hcl := cloneO_ok l 0 m (by omega) hl
 have e : (l.drop 0).take m = l := by rw [List.drop_zero, List.take_of_length_le (by omega)]
 rw [e] at hcl
 refine Ct_intro Tryz.func59 rfl rfl rfl rfl rfl (fun E hn hb => ?_)
 repeat (refine nst ?_)
 refine WL_q (opq_of (opy_nilP (neg := false) rfl rfl rfl rfl (by exact vcs)) rfl) (by rw [hn]; rfl) ?_
 repeat (refine nst ?_)
 refine W_cond rfl (by simp) (fun hc => ?_) (fun hc => ?_)
 · simp at hc
 · repeat (refine nst ?_)
   refine s_allocN rfl rfl rfl (by rw [hn]; rfl) rfl zok111 ?_
   repeat (refine nst ?_)
   refine s_storeN rfl rfl rfl rfl rfl (by exact vcs) rfl rfl rfl (by rw [cellsOf111]; rfl) (by rw [info111]; rfl) rfl rfl ?_
   repeat (refine nst ?_)
   refine s_call [1] hcl rfl rfl (by rw [hn]; rfl) rfl rfl (by trivial) ⟨rfl, rfl, by simp [ordL], rfl⟩ ?_
   repeat (refine nst ?_)
   refine s_storeN rfl rfl rfl rfl rfl (by exact vcs) rfl rfl rfl (by rw [cellsOf29]; rfl) (by rw [info29]; rfl) rfl rfl ?_
   repeat (refine nst ?_)
   exact rt1 [67, 78]

def rightG (o m : List Int) : Bool := rightO o && (decide ((wholesP m 0).2 = 0) && decide ((wholesP m 0).1.length < 2))
set_option maxHeartbeats 4000000 in
theorem rightalg_ok (o m : List Int) (ho : o.length ≤ 1000000) (hm : m.length ≤ 100000) (hw : WfB m) : Ct Tryz.prog 68 [algA o m] [] (lv (.bool (rightG o m))) [] [] := by
 have hr := oright_ok o ho
 have hcn := curnew_ok m (by omega)
 have hwh := wholes_ok m 0 (Nat.zero_le _) hm hw
 unfold rightG
 generalize wholesP m 0 = W at *
 obtain ⟨rs, e⟩ := W
 dsimp only at *
 cases hrr : rightO o with
 | false =>
   rw [hrr] at hr
   refine Ct_intro Tryz.func68 rfl rfl rfl rfl rfl (fun E hn hb => ?_)
   repeat refine nx ?_
   exact rt1 []
 | true =>
   rw [hrr] at hr
   rw [Bool.true_and]
   by_cases he : e = 0
   · subst he
     rw [if_pos rfl] at hwh
     refine Ct_intro Tryz.func68 rfl rfl rfl rfl rfl (fun E hn hb => ?_)
     repeat refine nx ?_
     refine rt2 [] (congrArg (fun x => lv (.bool x)) ?_) trivial
     simp; omega
   · rw [if_neg he] at hwh
     rw [decide_eq_false he]
     refine Ct_intro Tryz.func68 rfl rfl rfl rfl rfl (fun E hn hb => ?_)
     repeat refine nx ?_
     refine rt2 [] (congrArg (fun x => lv (.bool x)) ?_) trivial
     simp [he]
end Go.Proofs.YtohfhephkjihfaaGreat

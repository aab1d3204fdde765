/-
  Build: frames within frames: opened, put into, shut. The conditions: rows that a machine can hold.
-/
import Derived.Test.YthoaneleeabadaaB6
import Derived.Test.YthoaneleeabadaaW16
import Derived.Test.YthoaneleeabadaaD8
namespace Go.Proofs.Ythoaneleeabadaa
set_option linter.unusedSimpArgs false
set_option linter.unusedVariables false
open Go.Sx

set_option maxRecDepth 10000

abbrev nilC : Cell := .lf (.v (.slice none 0 0))
/-- A sheet: its frame's tag, bytes, the frames around, the error. -/
abbrev shC (t : TagP) (b a : Cell) (e : Int) : Blk := .cells [i64c t.1, i64c t.2.1, .lf (.v (.bool t.2.2)), .lf (.v (.bool false)), b, a, i64c e]
abbrev frame0 : List Leaf := [.v (.int .i64 0), .v (.int .i64 0), .v (.bool false), .v (.bool false), .v (.slice none 0 0)]
abbrev arL : Leaf := .recs 5 [frame0]
abbrev arC : Cell := .lf arL
abbrev sh0 : Blk := shC tag0 nilC nilC 0
/-- A sheet with one frame open, with so many bytes. -/
abbrev sh1 (t : TagP) (l : List Int) (e : Int) : Blk := shC t (.own 1 1 0 l.length) arC e
abbrev r8 (l : List Int) : Blk := .row (.ints .u8 l)
theorem bnew_ok : Ct Try.prog 9 [] [] (.c (.ptr 0 0)) [] [sh0] := by
  refine Ct_intro Try.func9 rfl rfl rfl rfl rfl (fun E hn hb => ?_)
  repeat refine nx ?_
  exact rt1 [66]
theorem boff_ok (t : TagP) (l : List Int) (e : Int) : Ct Try.prog 50 [.c (.ptr 0 0)] [sh1 t l e, r8 l] (lv (.bool (bif false then true else e != 0))) [sh1 t l e, r8 l] [] := by
  refine Ct_intro Try.func50 rfl rfl rfl rfl rfl (fun E hn hb => ?_)
  repeat refine nx ?_
  exact rt1 []
theorem boff0_ok : Ct Try.prog 50 [.c (.ptr 0 0)] [sh0] (lv (.bool false)) [sh0] [] := by
  refine Ct_intro Try.func50 rfl rfl rfl rfl rfl (fun E hn hb => ?_)
  repeat refine nx ?_
  exact rt1 []
theorem bopen_ok (t : TagP) : Ct Try.prog 52 [.c (.ptr 0 0), .agg [i64c t.1, i64c t.2.1, .lf (.v (.bool t.2.2)), .lf (.v (.bool false)), nilC]] [sh0] (.tup []) [sh1 t [] 0] [r8 []] := by
  have h := boff0_ok
  refine Ct_intro Try.func52 rfl rfl rfl rfl rfl (fun E hn hb => ?_)
  repeat refine nx ?_
  refine N_sr (fun a w h => SR.cell_nil 0 4 900 rfl rfl rfl rfl rfl h) ?_
  exact rt1 [900]
theorem bOpen_ok (t : TagP) : Ct Try.prog 13 [.c (.ptr 0 0), tagA t] [sh0] (.tup []) [sh1 t [] 0] [r8 []] := by
  have h := bopen_ok t
  refine Ct_intro Try.func13 rfl rfl rfl rfl rfl (fun E hn hb => ?_)
  repeat refine nx ?_
  exact rt1 [71]
theorem badd_ok (t : TagP) (l x : List Int) (fr : List (List Leaf)) (e : Int) (hl : l.length + x.length ≤ 1000000) :
    CtM Try.prog 51 [.c (.ptr 0 0), B8 x] [shC t (.own 1 1 0 l.length) (.lf (.recs 5 fr)) e, r8 l] (.tup []) [shC t (.own 2 1 0 (l ++ x).length) (.lf (.recs 5 fr)) e, .gone] [r8 (l ++ x)] := by
  have e0 : l.take (0 + l.length) = l := by simp
  refine CtM_intro Try.func51 rfl rfl rfl rfl rfl (fun E hn hb => ?_)
  repeat refine nx ?_
  refine s_appendK 900 rfl rfl rfl rfl rfl (by rw [hn]; rfl) (elt_mk Try.underlying41 rfl rfl) rfl rfl rfl rfl ?_ (by simp) ⟨by omega, by decide⟩ ?_ ?_
  · trivial
  · rw [e0]
    repeat refine nx ?_
    rw [← List.length_append]
    exact N_endM [1] rfl (by trivial) ⟨rfl, ⟨.inr rfl, .inl rfl⟩, rfl, rfl⟩ hb rfl
  · rw [e0, List.drop_zero]
    repeat refine nx ?_
    rw [← List.length_append]
    exact N_endM [900] rfl (by trivial) ⟨rfl, ⟨.inr rfl, .inl rfl⟩, rfl, rfl⟩ hb rfl
/-- One row put. -/
theorem bput_ok (t : TagP) (l x : List Int) (hl : l.length + x.length ≤ 1000000) :
    CtM Try.prog 12 [.c (.ptr 0 0), rowsA [x]] [sh1 t l 0, r8 l] (.tup []) [shC t (.own 2 1 0 (l ++ x).length) arC 0, .gone] [r8 (l ++ x)] := by
  have h := boff_ok t l 0
  have ha := badd_ok t l x [frame0] 0 hl
  refine CtM_intro Try.func12 rfl rfl rfl rfl rfl (fun E hn hb => ?_)
  repeat refine nx ?_
  refine W_weaken (St.le_of (l := [(0, .c (.ptr 0 0)), (8, rowsA [x]), (9, lv (.int .i64 1)), (10, lv (.int .i64 0))]) (h := [(0, sh1 t l 0), (1, r8 l)]) (by refine ⟨?_, ?_⟩ <;> (repeat' (first | exact trivial | exact rfl | refine ⟨?_, ?_⟩)) <;> first | exact rfl | (simp; done) | skip)) ?_
  refine W_loop (ι := Bool) (fun i => match i with
    | false => St.of [(0, .c (.ptr 0 0)), (8, rowsA [x]), (9, lv (.int .i64 1)), (10, lv (.int .i64 0))] [(0, sh1 t l 0), (1, r8 l)]
    | true => St.of [(8, rowsA [x]), (9, lv (.int .i64 1)), (10, lv (.int .i64 1))] [(0, shC t (.own 82 1 0 (l ++ x).length) arC 0), (82, r8 (l ++ x))]) (fun i => match i with | false => 1 | true => 0) (fun i => ?_) false
  cases i with
  | false =>
    dsimp only
    repeat refine nx ?_
    refine s_callM [0, 1] ha rfl rfl (by rw [hn]; rfl) rfl rfl (by trivial) ⟨rfl, ⟨rfl, rfl⟩, (by simp [ordL]), rfl⟩ ?_
    repeat refine nx ?_
    refine N_round true (by decide) (St.le_of ⟨⟨rfl, rfl, rfl⟩, ⟨rfl, rfl⟩⟩)
  | true =>
    dsimp only
    repeat refine nx ?_
    exact N_retM [82] rfl (by trivial) ⟨rfl, ⟨.inr rfl, .inl rfl⟩, rfl, rfl⟩ hb rfl
/-- A sheet whose bytes are data. -/
abbrev shL (t : TagP) (l : List Int) (a : Leaf) (e : Int) : List Leaf := [.v (.int .i64 t.1), .v (.int .i64 t.2.1), .v (.bool t.2.2), .v (.bool false), .ints .u8 l, a, .v (.int .i64 e)]
abbrev shD (t : TagP) (l : List Int) (a : Leaf) (e : Int) : Blk := shC t (.lf (.ints .u8 l)) (.lf a) e
theorem boffD_ok (t : TagP) (l : List Int) (a : Leaf) (e : Int) : Ct Try.prog 50 [.c (.lf (.obj (shL t l a e)))] [] (lv (.bool (bif false then true else e != 0))) [] [] := by
  refine Ct_intro Try.func50 rfl rfl rfl rfl rfl (fun E hn hb => ?_)
  repeat refine nx ?_
  exact rt1 []
theorem bwhole_ok (t : TagP) (l : List Int) (hl : l.length ≤ 1000000) : Ct Try.prog 53 [.c (.ptr 0 0)] [shD t l arL 0] (.tup [B8 (wrapR t l).1, lv (.int .i64 (wrapR t l).2)]) [shD t l arL 0] [] := by
  have h := wrapR_ok t [l] (by simp) (by simp; omega)
  rw [show [l].flatten = l by simp] at h
  refine Ct_intro Try.func53 rfl rfl rfl rfl rfl (fun E hn hb => ?_)
  repeat refine nx ?_
  exact rt1 []
theorem bshut_ok (t : TagP) (l : List Int) (h : rightT t = true) (hl : l.length ≤ 900000) : Ct Try.prog 16 [.c (.ptr 0 0)] [shD t l arL 0] (.tup []) [shC tag0 (.own 1 1 0 (wrapL t l).length) (.lf (.recs 5 [])) 0] [r8 (wrapL t l)] := by
  have h0 := boffD_ok t l arL 0
  have h1 := bwhole_ok t l (by omega)
  have hw := wrap_len t l
  unfold wrapR at h1
  rw [if_pos h] at h1
  have h2 := badd_ok tag0 [] (wrapL t l) [] 0 (by simp; omega)
  rw [List.nil_append] at h2
  generalize wrapL t l = W at *
  dsimp only at h1
  refine Ct_intro Try.func16 rfl rfl rfl rfl rfl (fun E hn hb => ?_)
  repeat refine nx ?_
  refine WL_sr (fun a w h => SR.cell_nil 0 4 900 rfl rfl rfl rfl rfl h) ?_
  refine s_callM [0, 900] h2 rfl rfl (by rw [hn]; rfl) rfl rfl (by trivial) ⟨rfl, ⟨rfl, rfl⟩, (by simp [ordL]), rfl⟩ ?_
  repeat refine nx ?_
  exact rt1 [116]
theorem bbytes_ok (l : List Int) (hl : l.length ≤ 1000000) : Ct Try.prog 19 [.c (.ptr 0 0)] [shD tag0 l (.recs 5 []) 0] (.tup [B8 l, lv (.int .i64 0)]) [shD tag0 l (.recs 5 []) 0] [] := by
  have h := clone_ok l hl
  refine Ct_intro Try.func19 rfl rfl rfl rfl rfl (fun E hn hb => ?_)
  repeat refine nx ?_
  exact rt1 []
end Go.Proofs.Ythoaneleeabadaa

namespace Go.Proofs.Ythoaneleeabadaa
set_option linter.unusedSimpArgs false
set_option linter.unusedVariables false
open Go.Sx

set_option maxRecDepth 10000

theorem ex8a : wrapL (ofT 16) [5, 0] = [48, 2, 5, 0] := by decide +kernel
theorem ex8b : wrapL (ofT 17) (isortL [[2, 1, 5], [1, 1, 255]]).flatten = [49, 6, 1, 1, 255, 2, 1, 5] := by decide +kernel
theorem ex8c : implP 1 [4, 1, 7] = ([129, 1, 7], 0) := by decide +kernel
theorem hx_of (A : List Int) (s : ByteArray) (hl : A.length ≤ 1000) (hw : WfB A) (h : strOfNums (hexL A) = s) : Ct Try.prog 59 [B8 A] [] (lv (.string s)) [] [] := by
  have := hex_ok A (by omega) hw
  rw [h] at this
  exact this
set_option maxHeartbeats 4000000 in
theorem known8_ok : Ct Try.prog 23 [] [] (lv (.bool true)) [] [] := by
  have h1 := bnew_ok
  have h2 := headof_ok 16
  have h3 := bOpen_ok (ofT 16)
  have h4 := bput_ok (ofT 16) [] [5, 0] (by decide)
  have h5 := bshut_ok (ofT 16) [5, 0] (by decide) (by decide)
  rw [ex8a] at h5
  have h6 := bbytes_ok [48, 2, 5, 0] (by decide)
  have h7 := setOf_ok [[2, 1, 5], [1, 1, 255]] (by decide) (by intro r hr; simp at hr; rcases hr with rfl | rfl <;> decide) (by decide +kernel)
  rw [ex8b] at h7
  have h8 := implicit_ok 1 [4, 1, 7] (by decide) (by intro x hx; simp at hx; omega)
  rw [ex8c] at h8
  have h9 := hx_of [48, 2, 5, 0] ⟨#[51, 48, 48, 50, 48, 53, 48, 48]⟩ (by decide) (by intro x hx; simp at hx; omega) (by decide +kernel)
  have h10 := hx_of [49, 6, 1, 1, 255, 2, 1, 5] ⟨#[51, 49, 48, 54, 48, 49, 48, 49, 102, 102, 48, 50, 48, 49, 48, 53]⟩ (by decide) (by intro x hx; simp at hx; omega) (by decide +kernel)
  have h11 := hx_of [129, 1, 7] ⟨#[56, 49, 48, 49, 48, 55]⟩ (by decide) (by intro x hx; simp at hx; omega) (by decide +kernel)
  refine Ct_intro Try.func23 rfl rfl rfl rfl rfl (fun E hn hb => ?_)
  repeat refine nx ?_
  refine s_callM [72, 75] h4 rfl rfl (by rw [hn]; rfl) rfl rfl (by trivial) ⟨rfl, ⟨rfl, rfl⟩, (by simp [ordL]), rfl⟩ ?_
  repeat refine nx ?_
  refine frcL 79 72 ?_
  repeat refine nx ?_
  refine frcL 81 72 ?_
  repeat refine nx ?_
  refine rt2 [] (congrArg (fun x => lv (.bool x)) ?_) trivial; (simp [eqCs, Cell.kill, Cell.kill1])
end Go.Proofs.Ythoaneleeabadaa

namespace Go.Proofs.Ythoaneleeabadaa
set_option linter.unusedSimpArgs false
set_option linter.unusedVariables false
open Go.Sx

set_option maxRecDepth 10000

/-- A sheet whose frame may be a set. -/
abbrev shF (s : Bool) (t : TagP) (b a : Cell) (e : Int) : Blk := .cells [i64c t.1, i64c t.2.1, .lf (.v (.bool t.2.2)), .lf (.v (.bool s)), b, a, i64c e]
theorem badds_ok (s : Bool) (t : TagP) (l x : List Int) (fr : List (List Leaf)) (e : Int) (hl : l.length + x.length ≤ 1000000) :
    CtM Try.prog 51 [.c (.ptr 0 0), B8 x] [shF s t (.own 1 1 0 l.length) (.lf (.recs 5 fr)) e, r8 l] (.tup []) [shF s t (.own 2 1 0 (l ++ x).length) (.lf (.recs 5 fr)) e, .gone] [r8 (l ++ x)] := by
  have e0 : l.take (0 + l.length) = l := by simp
  refine CtM_intro Try.func51 rfl rfl rfl rfl rfl (fun E hn hb => ?_)
  repeat refine nx ?_
  refine s_appendK 900 rfl rfl rfl rfl rfl (by rw [hn]; rfl) (elt_mk Try.underlying41 rfl rfl) rfl rfl rfl rfl ?_ (by simp) ⟨by omega, by decide⟩ ?_ ?_
  · trivial
  · rw [e0]
    repeat refine nx ?_
    rw [← List.length_append]
    exact N_endM [1] rfl (by trivial) ⟨rfl, ⟨.inr rfl, .inl rfl⟩, rfl, rfl⟩ hb rfl
  · rw [e0, List.drop_zero]
    repeat refine nx ?_
    rw [← List.length_append]
    exact N_endM [900] rfl (by trivial) ⟨rfl, ⟨.inr rfl, .inl rfl⟩, rfl, rfl⟩ hb rfl
end Go.Proofs.Ythoaneleeabadaa

namespace Go.Proofs.Ythoaneleeabadaa
set_option linter.unusedSimpArgs false
set_option linter.unusedVariables false
open Go.Sx

set_option maxRecDepth 10000

abbrev shE (s : Bool) (t : TagP) (l : List Int) (a : Leaf) (e : Int) : Blk := shF s t (.lf (.ints .u8 l)) (.lf a) e
abbrev shLs (s : Bool) (t : TagP) (l : List Int) (a : Leaf) (e : Int) : List Leaf := [.v (.int .i64 t.1), .v (.int .i64 t.2.1), .v (.bool t.2.2), .v (.bool s), .ints .u8 l, a, .v (.int .i64 e)]
theorem boffDs_ok (s : Bool) (t : TagP) (l : List Int) (a : Leaf) (e : Int) : Ct Try.prog 50 [.c (.lf (.obj (shLs s t l a e)))] [] (lv (.bool (bif false then true else e != 0))) [] [] := by
  refine Ct_intro Try.func50 rfl rfl rfl rfl rfl (fun E hn hb => ?_)
  repeat refine nx ?_
  exact rt1 []
end Go.Proofs.Ythoaneleeabadaa

namespace Go.Proofs.Ythoaneleeabadaa
set_option linter.unusedSimpArgs false
set_option linter.unusedVariables false
open Go.Sx

set_option maxRecDepth 10000

theorem alone_ok (t : TagP) (b : List Int) (h : rightT t = true) (hb : b.length ≤ 900000) (hw : WfB (wrapL t b)) : Ct Try.prog 32 [B8 (wrapL t b), tagA t] [] (.tup [.c (.ptr 0 0), lv (.int .i64 0)]) [] [curB b 0] := by
  have ha := openP_at [] b [] t h (by omega)
  rw [List.nil_append, List.append_nil, List.length_nil, Nat.zero_add] at ha
  have hwl := wrap_len t b
  have hcn := curnew_ok (wrapL t b) (by omega)
  have hop := open_ok (wrapL t b) 0 t (Nat.zero_le _) (by omega) hw (by rw [ha])
  rw [ha] at hop
  dsimp only at hop
  have hle := left_ok (wrapL t b) (wrapL t b).length (Nat.le_refl _) (by omega)
  generalize wrapL t b = W at *
  refine Ct_intro Try.func32 rfl rfl rfl rfl rfl (fun E hn hb => ?_)
  repeat refine nx ?_
  exact rt1 [78]
end Go.Proofs.Ythoaneleeabadaa

namespace Go.Proofs.Ythoaneleeabadaa
set_option linter.unusedSimpArgs false
set_option linter.unusedVariables false
open Go.Sx

set_option maxRecDepth 10000

/-- A nil cell of a struct, as an empty row of the call's own. -/
theorem cell_nilR {E : Env} {σ : St} {a : Act} {w : World} (sz j i K : Nat) {cs cs' : List Cell} (hj : σ.hp j = .cells cs) (hi : cs[i]? = some (.lf (.v (.slice none 0 0)))) (hK : Nat.ble 64 K = true) (hne : Nat.beq j K = false) (hcs : ((cs.map (Cell.kill K)).set i (.own K sz 0 0)) = cs') (h : SR E σ a w) :
    SR E (((σ.kill K).seth K (.row (.recs sz []))).seth j (.cells cs')) a w := by
  subst hcs
  have hjK : j ≠ K := by intro e; subst e; simp at hne
  obtain ⟨β, F, h⟩ := h
  have hK64 : 64 ≤ K := by simpa using hK
  have hk := h.kill K (by have := h.nbl; omega)
  have hB := hk.hp j
  have hjk : (σ.kill K).hp j = .cells (cs.map (Cell.kill K)) := by simp [St.kill, hjK, hj, Blk.kill]
  rw [hjk] at hB
  obtain ⟨g, cur, e1, e2, e3, e4⟩ := hB
  have h2 : SRb E (fun i => if i = K then none else β i) F ((σ.kill K).seth K (.row (.recs sz []))) a w := by
    refine ⟨hk.tm, hk.sz, hk.df, fun i => ?_, fun i l g h1 h2 e1 e2 => ?_, fun i g h1 e => ?_, hk.lt, hk.fr, hk.keep, hk.bb, hk.nbl⟩
    · by_cases e : i = K
      · subst e
        simp only [St.seth, if_true]
        exact ⟨fun r hr => by simp at hr, .inl ⟨rfl, fun g hg => by simp at hg⟩⟩
      · simpa [St.seth, e] using hk.hp i
    · by_cases ek : i = K
      · subst ek; simp at e1
      · by_cases el : l = K
        · subst el; simp at e2
        · exact hk.inj i l g (by simpa [St.seth, ek] using h1) (by simpa [St.seth, el] using h2) e1 e2
    · by_cases ek : i = K
      · subst ek; simp at e
      · exact hk.own i g (by simpa [St.seth, ek] using h1) e
  refine ⟨_, F, h2.setBlk (j := j) (by simp [St.seth, hjK, hjk]) ⟨g, cur, e1, e2, by simpa using e3, fun m x v hx hv => ?_⟩⟩
  rw [List.getElem?_set] at hx
  split at hx
  · rename_i him
    subst him
    split at hx
    · simp only [Option.some.injEq] at hx
      subst hx
      have h5 : (cs.map (Cell.kill K))[i]? = some (.lf (.v (.slice none 0 0))) := by rw [List.getElem?_map, hi]; rfl
      have := e4 i _ v h5 hv
      cases this with | lf h => cases h with | v _ _ => exact .own _ _ _ _ _ _ (Nat.le_refl _) (by decide) (.inl rfl)
    · cases hx
  · exact e4 m x v hx hv

/-- A frame without bytes. -/
abbrev frL (t : TagP) : List Leaf := [.v (.int .i64 t.1), .v (.int .i64 t.2.1), .v (.bool t.2.2), .v (.bool false), .v (.slice none 0 0)]
abbrev r5 (fr : List TagP) : Blk := .row (.recs 5 (fr.map frL))
/-- A sheet whose innermost frame has no bytes, with so many around. -/
abbrev shO (t : TagP) (n : Nat) : Blk := shF false t nilC (.own 1 5 0 n) 0
theorem boffO_ok (t : TagP) (fr : List TagP) : Ct Try.prog 50 [.c (.ptr 0 0)] [shO t fr.length, r5 fr] (lv (.bool (bif false then true else (0 : Int) != 0))) [shO t fr.length, r5 fr] [] := by
  refine Ct_intro Try.func50 rfl rfl rfl rfl rfl (fun E hn hb => ?_)
  repeat refine nx ?_
  exact rt1 []
theorem bopenN_ok (t t' : TagP) (fr : List TagP) (hl : fr.length ≤ 1000) :
    CtM Try.prog 52 [.c (.ptr 0 0), .agg [i64c t'.1, i64c t'.2.1, .lf (.v (.bool t'.2.2)), .lf (.v (.bool false)), nilC]] [shO t fr.length, r5 fr] (.tup []) [shF false t' nilC (.own 2 5 0 (fr ++ [t]).length) 0, .gone] [r5 (fr ++ [t])] := by
  have h := boffO_ok t fr
  have e : r5 (fr ++ [t]) = .row (.recs 5 (fr.map frL ++ [frL t])) := by simp [r5]
  have e1 : (fr ++ [t]).length = (fr.map frL ++ [frL t]).length := by simp
  rw [e, e1]
  refine CtM_intro Try.func52 rfl rfl rfl rfl rfl (fun E hn hb => ?_)
  repeat refine nx ?_
  exact N_endM [80] rfl (by trivial) ⟨rfl, ⟨.inr rfl, .inl rfl⟩, rfl, rfl⟩ hb rfl
theorem bOpenN_ok (t t' : TagP) (fr : List TagP) (hl : fr.length ≤ 1000) :
    CtM Try.prog 13 [.c (.ptr 0 0), tagA t'] [shO t fr.length, r5 fr] (.tup []) [shF false t' nilC (.own 2 5 0 (fr ++ [t]).length) 0, .gone] [r5 (fr ++ [t])] := by
  have h := bopenN_ok t t' fr hl
  refine CtM_intro Try.func13 rfl rfl rfl rfl rfl (fun E hn hb => ?_)
  repeat refine nx ?_
  refine s_callM [0, 1] h rfl rfl (by rw [hn]; rfl) rfl rfl (by trivial) ⟨rfl, ⟨rfl, rfl⟩, (by simp [ordL]), rfl⟩ ?_
  repeat refine nx ?_
  exact N_endM [71] rfl (by trivial) ⟨rfl, ⟨.inr rfl, .inl rfl⟩, rfl, rfl⟩ hb rfl
/-- The sheet as data. -/
abbrev shNL (t : TagP) (a : Leaf) (e : Int) : List Leaf := [.v (.int .i64 t.1), .v (.int .i64 t.2.1), .v (.bool t.2.2), .v (.bool false), .v (.slice none 0 0), a, .v (.int .i64 e)]
theorem depthN_ok (t : TagP) (fr : List (List Leaf)) : Ct Try.prog 22 [.c (.lf (.obj (shNL t (.recs 5 fr) 0)))] [] (lv (.int .i64 fr.length)) [] [] := by
  refine Ct_intro Try.func22 rfl rfl rfl rfl rfl (fun E hn hb => ?_)
  repeat refine nx ?_
  exact rt1 []
theorem boffN_ok (t : TagP) (a : Leaf) (e : Int) : Ct Try.prog 50 [.c (.lf (.obj (shNL t a e)))] [] (lv (.bool (bif false then true else e != 0))) [] [] := by
  refine Ct_intro Try.func50 rfl rfl rfl rfl rfl (fun E hn hb => ?_)
  repeat refine nx ?_
  exact rt1 []
theorem bputN_ok (t : TagP) (x : List Int) (fr : List (List Leaf)) (hl : x.length ≤ 1000000) :
    Ct Try.prog 12 [.c (.ptr 0 0), rowsA [x]] [shF false t nilC (.lf (.recs 5 fr)) 0] (.tup []) [shF false t (.own 1 1 0 x.length) (.lf (.recs 5 fr)) 0] [r8 x] := by
  have h := boffN_ok t (.recs 5 fr) 0
  have ha := badds_ok false t [] x fr 0 (by simp; omega)
  rw [List.nil_append] at ha
  refine Ct_intro Try.func12 rfl rfl rfl rfl rfl (fun E hn hb => ?_)
  repeat refine nx ?_
  refine W_weaken (St.le_of (l := [(0, .c (.ptr 0 0)), (8, rowsA [x]), (9, lv (.int .i64 1)), (10, lv (.int .i64 0))]) (h := [(0, shF false t nilC (.lf (.recs 5 fr)) 0)]) (by refine ⟨?_, ?_⟩ <;> (repeat' (first | exact trivial | exact rfl | refine ⟨?_, ?_⟩)) <;> first | exact rfl | (simp; done) | skip)) ?_
  refine W_loop (ι := Bool) (fun i => match i with
    | false => St.of [(0, .c (.ptr 0 0)), (8, rowsA [x]), (9, lv (.int .i64 1)), (10, lv (.int .i64 0))] [(0, shF false t nilC (.lf (.recs 5 fr)) 0)]
    | true => St.of [(8, rowsA [x]), (9, lv (.int .i64 1)), (10, lv (.int .i64 1))] [(0, shF false t (.own 82 1 0 x.length) (.lf (.recs 5 fr)) 0), (82, r8 x)]) (fun i => match i with | false => 1 | true => 0) (fun i => ?_) false
  cases i with
  | false =>
    dsimp only
    repeat refine nx ?_
    refine WL_sr (fun a w h => SR.cell_nil 0 4 900 rfl rfl rfl rfl rfl h) ?_
    refine s_callM [0, 900] ha rfl rfl (by rw [hn]; rfl) rfl rfl (by trivial) ⟨rfl, ⟨rfl, rfl⟩, (by simp [ordL]), rfl⟩ ?_
    repeat refine nx ?_
    refine N_round true (by decide) (St.le_of ⟨⟨rfl, rfl, rfl⟩, ⟨rfl, rfl⟩⟩)
  | true =>
    dsimp only
    repeat refine nx ?_
    exact rt1 [82]
theorem bwholeN_ok (t : TagP) (l : List Int) (a : Leaf) (hl : l.length ≤ 1000000) : Ct Try.prog 53 [.c (.ptr 0 0)] [shE false t l a 0] (.tup [B8 (wrapR t l).1, lv (.int .i64 (wrapR t l).2)]) [shE false t l a 0] [] := by
  have h := wrapR_ok t [l] (by simp) (by simp; omega)
  rw [show [l].flatten = l by simp] at h
  refine Ct_intro Try.func53 rfl rfl rfl rfl rfl (fun E hn hb => ?_)
  repeat refine nx ?_
  exact rt1 []
theorem bshutN_ok (t t' : TagP) (fs : List TagP) (l : List Int) (h : rightT t = true) (hl : l.length ≤ 900000) (hf : fs.length ≤ 1000) : Ct Try.prog 16 [.c (.ptr 0 0)] [shE false t l (.recs 5 ((fs ++ [t']).map frL)) 0] (.tup []) [shF false t' (.own 1 1 0 (wrapL t l).length) (.lf (.recs 5 (((fs ++ [t']).map frL).take fs.length))) 0] [r8 (wrapL t l)] := by
  have h0 := boffDs_ok false t l (.recs 5 ((fs ++ [t']).map frL)) 0
  have h1 := bwholeN_ok t l (.recs 5 ((fs ++ [t']).map frL)) (by omega)
  have hw := wrap_len t l
  unfold wrapR at h1
  rw [if_pos h] at h1
  have h2 := badds_ok false t' [] (wrapL t l) (((fs ++ [t']).map frL).take fs.length) 0 (by simp; omega)
  rw [List.nil_append] at h2
  generalize wrapL t l = W at *
  dsimp only at h1
  have e9 : (fs ++ [t']).getD ((((fs ++ [t']).map frL).length : Int) - 1).toNat default = t' := by simp
  have e8 : ((((fs ++ [t']).map frL).length : Int) - 1).toNat = fs.length := by simp
  refine Ct_intro Try.func16 rfl rfl rfl rfl rfl (fun E hn hb => ?_)
  repeat refine nx ?_
  rw [e9, show frL t' = [.v (.int .i64 t'.1), .v (.int .i64 t'.2.1), .v (.bool t'.2.2), .v (.bool false), .v (.slice none 0 0)] from rfl]
  repeat refine nx ?_
  rw [e8]
  refine WL_sr (fun a w h => SR.cell_nil 0 4 900 rfl rfl rfl rfl rfl h) ?_
  refine s_callM [0, 900] h2 rfl rfl (by rw [hn]; rfl) rfl rfl (by trivial) ⟨rfl, ⟨rfl, rfl⟩, (by simp [ordL]), rfl⟩ ?_
  repeat refine nx ?_
  exact rt1 [116]
end Go.Proofs.Ythoaneleeabadaa

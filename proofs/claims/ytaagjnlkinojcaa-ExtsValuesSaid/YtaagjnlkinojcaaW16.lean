/-
  Chapter 03: numbers as ints. The conditions: rows of at most a million bytes.
-/
import Derived.Test.YtaagjnlkinojcaaW9
import Derived.Test.YtaagjnlkinojcaaSxX
namespace Go.Proofs.Ytaagjnlkinojcaa
set_option linter.unusedSimpArgs false
set_option linter.unusedVariables false
open Go.Sx
def refParseN (l : List Int) : Bool × List Int × Int :=
 if l = [] then (false, [], 6) else if (64 : Int) < l.length then (false, [], 2) else
   let be := cond (decide (128 ≤ hd0 l)) (madeB true (tcL l)) (madeB false l)
   let s := cond (decide (128 ≤ hd0 l)) (trimL (tcL l)) (trimL l)
   if refcL (madeB be s) (trimL s) = l then (be, s, 0) else (false, [], 6)
theorem trim_nz (l : List Int) : trimL l = [] ∨ ∃ x t, trimL l = x :: t ∧ x ≠ 0 := by
 unfold trimL
 induction l with
 | nil => exact .inl rfl
 | cons x l ih =>
   simp only [List.dropWhile_cons]
   split
   · exact ih
   · rename_i h
     exact .inr ⟨x, l, rfl, by simpa using h⟩
theorem trim_idem (l : List Int) : trimL (trimL l) = trimL l := by
 rcases trim_nz l with h | ⟨x, t, h, hx⟩
 · rw [h]; rfl
 · rw [h]; simp [trimL, hx]
theorem made_idem (b : Bool) (l : List Int) : madeB (madeB b l) (trimL l) = madeB b l := by
 simp only [madeB, trim_idem]
 cases b
 · rfl
 · cases decide (0 < ((trimL l).length : Int)) <;> rfl
theorem madeB_ne {b : Bool} {l : List Int} (h : madeB b l = true) : trimL l ≠ [] := by
 intro h'
 cases b
 · simp [madeB] at h
 · simp [madeB, h'] at h
theorem incC_zero : ∀ l : List Int, WfB l → (incC (notL l)).2 = 1 → ∀ x ∈ (incC (notL l)).1, x = 0
 | [], _, _ => fun x hx => by simp [notL, incC] at hx
 | y :: l, hw, h => by
   have hy := hw y (List.mem_cons_self ..)
   have hl : WfB l := fun z hz => hw z (List.mem_cons_of_mem _ hz)
   have h1 := incC_low (notL l) (wf_notL hl)
   have e : notL (y :: l) = (255 - y) :: notL l := rfl
   rw [e] at h ⊢
   simp only [incC] at h ⊢
   have hc : (incC (notL l)).2 = 1 := by omega
   have hy0 : y = 0 := by omega
   intro x hx
   cases hx with
   | head => rw [hc, hy0]; decide
   | tail _ hx => exact incC_zero l hl hc x hx
theorem tc_cons (x : Int) (l : List Int) : tcL (x :: l) = ((255 - x + (incC (notL l)).2) % 256) :: tcL l := rfl
theorem tc_carry {x : Int} {l : List Int} (hx : x ≠ 0) (hw : WfB (x :: l)) : (incC (notL (x :: l))).2 = 0 := by
 have h1 := incC_low (notL l) (wf_notL fun y hy => hw y (List.mem_cons_of_mem _ hy))
 have hx' := hw x (List.mem_cons_self ..)
 show (255 - x + (incC (notL l)).2) / 256 = 0
 omega
theorem cont_eq (b : Bool) (l : List Int) (hw : WfB l) : stripL (twoL b l) = refcL (madeB b l) (trimL l) := by
 have hws : WfB (trimL l) := wf_trim hw
 have hne := @madeB_ne b l
 rw [twoL]
 generalize hs : trimL l = s at *
 have hnz : s = [] ∨ ∃ x t, s = x :: t ∧ x ≠ 0 := by rw [← hs]; exact trim_nz l
 generalize madeB b l = be at *
 cases be with
 | false =>
   rw [if_neg (by simp)]
   rcases hnz with h | ⟨x, t, h, hx⟩
   · subst h; rfl
   · subst h
     by_cases h128 : x < 128
     · have hx' := hws x (List.mem_cons_self ..)
       have e1 : redB (0 :: x :: t) = true := by simp [redB, h128]
       have e2 : redB (x :: t) = false := by
         cases t with
         | nil => rfl
         | cons y t => simp [redB, hx]; omega
       rw [stripL, if_pos e1, stripL, e2, if_neg (by simp), refcL]
       simp [goodB, hd0, h128]
     · have e1 : redB (0 :: x :: t) = false := by simp [redB, h128]
       rw [stripL, e1, if_neg (by simp), refcL]
       simp [goodB, hd0, h128]
 | true =>
   rw [if_pos rfl]
   rcases hnz with h | ⟨x, t, h, hx⟩
   · exact absurd h (hne rfl)
   · subst h
     have hc := tc_carry hx hws
     have e0 : tcL (0 :: x :: t) = 255 :: tcL (x :: t) := by
       rw [tc_cons, hc]; rfl
     have hwt : WfB t := fun y hy => hws y (List.mem_cons_of_mem _ hy)
     have hx' := hws x (List.mem_cons_self ..)
     have hlow := incC_low (notL t) (wf_notL hwt)
     rw [e0]
     by_cases h128 : 128 ≤ hd0 (tcL (x :: t))
     · have hr : redB (255 :: tcL (x :: t)) = true := by
         rw [tc_cons] at h128 ⊢
         simp [hd0] at h128
         simp [redB, h128]
       have hr2 : redB (tcL (x :: t)) = false := by
         rw [tc_cons] at h128 ⊢
         simp [hd0] at h128
         by_cases h1 : (incC (notL t)).2 = 1
         · have hz := incC_zero t hwt h1
           cases ht : tcL t with
           | nil => rfl
           | cons y u =>
             have hy : y = 0 := hz y (by show y ∈ tcL t; rw [ht]; exact List.mem_cons_self ..)
             subst hy
             rw [h1] at h128 ⊢
             simp [redB]; omega
         · have h0 : (incC (notL t)).2 = 0 := by omega
           rw [h0] at h128 ⊢
           cases tcL t with
           | nil => rfl
           | cons y u =>
             simp only [redB, Bool.or_eq_false_iff, Bool.and_eq_false_iff, beq_eq_false_iff_ne]
             refine ⟨.inl (by omega), .inl (by omega)⟩
       rw [stripL, if_pos hr, refcL]
       have hgood : goodB true (x :: t) = true := by simp [goodB, h128]
       simp only [hgood, ne_eq, reduceCtorEq, not_false_eq_true, and_self, if_true, cond_true]
       rw [tc_cons, stripL]
       rw [← tc_cons, hr2]
       simp
     · have hr : redB (255 :: tcL (x :: t)) = false := by
         rw [tc_cons] at h128 ⊢
         simp [hd0] at h128
         simp [redB]; omega
       rw [stripL, hr, refcL]
       have hgood : goodB true (x :: t) = false := by simp [goodB]; omega
       simp only [hgood, Bool.false_eq_true, and_false, if_false, cond_true]
       rw [e0]
theorem tc_wf (l : List Int) : WfB (tcL l) := by
 unfold tcL
 generalize notL l = m
 induction m with
 | nil => intro x hx; cases hx
 | cons y m ih =>
   intro x hx
   simp only [incC] at hx
   cases hx with
   | head => omega
   | tail _ hx => exact ih x hx
theorem tc_len (l : List Int) : (tcL l).length = l.length := by simp [tcL, len_incC, notL]
theorem tc_two : ∀ l : List Int, WfB l → incC (notL (tcL l)) = (l, (incC (notL l)).2)
 | [], _ => rfl
 | x :: l, hw => by
   have hl : WfB l := fun z hz => hw z (List.mem_cons_of_mem _ hz)
   have h1 := incC_low (notL l) (wf_notL hl)
   have hx := hw x (List.mem_cons_self ..)
   have ih := tc_two l hl
   rw [tc_cons]
   have e : ∀ (y : Int) (l : List Int), notL (y :: l) = (255 - y) :: notL l := fun _ _ => rfl
   rw [e, e]
   simp only [incC, ih]
   simp only [Prod.mk.injEq, List.cons.injEq, and_true]
   generalize (incC (notL l)).2 = c at *
   omega
theorem tc_tc (l : List Int) (hw : WfB l) : tcL (tcL l) = l := by
 show (incC (notL (tcL l))).1 = l
 rw [tc_two l hw]
theorem strip_red {l : List Int} (h : redB l = true) : stripL l ≠ l := by
 intro e
 cases l with
 | nil => cases h
 | cons x l =>
   rw [stripL, if_pos h] at e
   have := strip_len l
   rw [e] at this
   simp at this
   omega
theorem strip_not {l : List Int} (h : redB l = false) : stripL l = l := by
 cases l with
 | nil => rfl
 | cons x l => rw [stripL, h]; simp
theorem strip_pad : ∀ l : List Int, stripL (0 :: trimL l) = stripL (0 :: l)
 | [] => rfl
 | x :: l => by
   by_cases hx : x = 0
   · subst hx
     have e1 : trimL (0 :: l) = trimL l := by simp [trimL]
     have e2 : stripL (0 :: 0 :: l) = stripL (0 :: l) := by rw [stripL, if_pos (by simp [redB])]
     rw [e1, e2, strip_pad l]
   · have e1 : trimL (x :: l) = x :: l := by simp [trimL, hx]
     rw [e1]
theorem strip_neg : ∀ d : List Int, WfB d → trimL d ≠ [] → stripL (tcL (0 :: trimL d)) = stripL (255 :: tcL d)
 | [], _, h => absurd rfl h
 | x :: d, hw, h => by
   have hd : WfB d := fun z hz => hw z (List.mem_cons_of_mem _ hz)
   by_cases hx : x = 0
   · subst hx
     have e1 : trimL (0 :: d) = trimL d := by simp [trimL]
     rw [e1] at h ⊢
     rw [strip_neg d hd h]
     have hc : (incC (notL d)).2 = 0 := by
       have key : ∀ d : List Int, WfB d → trimL d ≠ [] → (incC (notL d)).2 = 0 := by
         intro d
         induction d with
         | nil => intro _ h; exact absurd rfl h
         | cons y d ih =>
           intro hw h
           have hd : WfB d := fun z hz => hw z (List.mem_cons_of_mem _ hz)
           have hy := hw y (List.mem_cons_self ..)
           have h1 := incC_low (notL d) (wf_notL hd)
           show (255 - y + (incC (notL d)).2) / 256 = 0
           by_cases hy0 : y = 0
           · subst hy0
             rw [ih hd (by simpa [trimL] using h)]
             decide
           · omega
       exact key d hd h
     have e2 : tcL (0 :: d) = 255 :: tcL d := by rw [tc_cons, hc]; rfl
     rw [e2]
     have : stripL (255 :: 255 :: tcL d) = stripL (255 :: tcL d) := by
       rw [stripL, if_pos (by simp [redB])]
     rw [this]
   · have e1 : trimL (x :: d) = x :: d := by simp [trimL, hx]
     rw [e1, tc_cons 0 (x :: d), tc_carry hx hw]
     rfl
theorem parse_eq (l : List Int) (hw : WfB l) : refParseN l = parseN l := by
 unfold refParseN parseN
 by_cases h1 : l = []
 · rw [if_pos h1, if_pos h1]
 rw [if_neg h1, if_neg h1]
 by_cases h2 : (64 : Int) < l.length
 · rw [if_pos h2, if_pos h2]
 rw [if_neg h2, if_neg h2]
 cases l with
 | nil => exact absurd rfl h1
 | cons x t =>
 have key : ∀ (be : Bool) (s : List Int), WfB s → madeB be s = be → trimL s = s → stripL (twoL be s) = stripL (x :: t) →
     (if refcL (madeB be s) (trimL s) = x :: t then (be, s, (0 : Int)) else (false, [], 6)) = if redB (x :: t) = true then (false, [], 6) else (be, s, 0) := by
   intro be s hs e1 e2 e3
   rw [← cont_eq be s hs, e3]
   cases hr : redB (x :: t) with
   | true => rw [if_neg (strip_red hr), if_pos rfl]
   | false => rw [if_pos (strip_not hr), if_neg (by simp)]
 have hx := hw x (List.mem_cons_self ..)
 by_cases h3 : 128 ≤ x
 · have e3 : (128 : Int) ≤ (x :: t).getD 0 0 := h3
   have e4 : decide (128 ≤ hd0 (x :: t)) = true := by simpa [hd0] using h3
   simp only [e4, cond_true, if_pos e3]
   have hne : trimL (tcL (x :: t)) ≠ [] := by
     intro h
     have hz : ∀ y ∈ tcL (x :: t), y = 0 := by
       have : ∀ m : List Int, trimL m = [] → ∀ y ∈ m, y = 0 := by
         intro m hm y hy
         induction m with
         | nil => cases hy
         | cons z m ih =>
           by_cases hz : z = 0
           · subst hz
             cases hy with
             | head => rfl
             | tail _ hy => exact ih (by simpa [trimL] using hm) hy
           · simp [trimL, hz] at hm
       exact this _ h
     have e5 := tc_two _ hw
     have h7 : ∀ m : List Int, (∀ y ∈ m, y = 0) → (incC (notL m)).2 = 1 := by
       intro m hm
       induction m with
       | nil => rfl
       | cons z m ih =>
         show (255 - z + (incC (notL m)).2) / 256 = 1
         rw [ih fun y hy => hm y (List.mem_cons_of_mem _ hy), hm z (List.mem_cons_self ..)]
         decide
     have h8 := h7 _ hz
     rw [e5] at h8
     have h9 := tc_carry (show x ≠ 0 by omega) hw
     have h10 : (incC (notL (x :: t))).2 = 1 := h8
     omega
   have hb : madeB true (tcL (x :: t)) = true := by
     have : 0 < (trimL (tcL (x :: t))).length := List.length_pos_iff.2 hne
     simp only [madeB, cond_true, decide_eq_true_eq]
     omega
   rw [key _ _ (wf_trim (tc_wf _)) (made_idem _ _) (trim_idem _) ?_]
   rw [twoL, made_idem, hb, if_pos rfl, trim_idem, strip_neg _ (tc_wf _) hne, tc_tc _ hw]
   rw [stripL, if_pos (by simp [redB, h3])]
 · have e3 : ¬ (128 : Int) ≤ (x :: t).getD 0 0 := h3
   have e4 : decide (128 ≤ hd0 (x :: t)) = false := by simpa [hd0] using h3
   simp only [e4, cond_false, if_neg e3]
   rw [key _ _ (wf_trim hw) (made_idem _ _) (trim_idem _) ?_]
   rw [twoL, made_idem]
   have : madeB false (x :: t) = false := rfl
   rw [this, if_neg (by simp), trim_idem, strip_pad]
   rw [stripL, if_pos (by simp [redB]; omega)]
end Go.Proofs.Ytaagjnlkinojcaa

namespace Go.Proofs.Ytaagjnlkinojcaa
set_option linter.unusedSimpArgs false
set_option linter.unusedVariables false
open Go.Sx
set_option maxRecDepth 10000
def valA : Int → List Int → Int
 | c, [] => c
 | c, x :: l => valA (256 * c + x) l
theorem wf_tail {x : Int} {l : List Int} (h : WfB (x :: l)) : WfB l := fun y hy => h y (List.mem_cons_of_mem _ hy)
theorem val_nonneg : ∀ (l : List Int) (c : Int), 0 ≤ c → WfB l → c ≤ valA c l
 | [], c, _, _ => Int.le_refl _
 | x :: l, c, hc, hw => by
   have hx := hw x (List.mem_cons_self ..)
   have := val_nonneg l (256 * c + x) (by omega) (wf_tail hw)
   simp only [valA]
   omega
theorem val_bound : ∀ (l : List Int) (c : Int), WfB l → valA c l < (c + 1) * 256 ^ l.length
 | [], c, _ => by simp [valA]; omega
 | x :: l, c, hw => by
   have hx := hw x (List.mem_cons_self ..)
   have := val_bound l (256 * c + x) (wf_tail hw)
   simp only [valA, List.length_cons]
   have h2 : (256 * c + x + 1) * 256 ^ l.length ≤ (256 * (c + 1)) * (256 : Int) ^ l.length := Int.mul_le_mul_of_nonneg_right (by omega) (Int.pow_nonneg (by decide))
   have h3 : (c + 1) * (256 : Int) ^ (l.length + 1) = (256 * (c + 1)) * 256 ^ l.length := by
     rw [Int.pow_succ, Int.mul_comm ((256 : Int) ^ l.length) 256, ← Int.mul_assoc, Int.mul_comm (c + 1) 256]
   omega

theorem str_list (a : List Int) : (strOfNums a).toList = a.map fun n => UInt8.ofNat n.toNat := by
 rw [ByteArray.toList_eq]
 rfl
theorem byte_string_eq (a b : List Int) (ha : WfB a) (hb : WfB b) : ((strOfNums a).toList == (strOfNums b).toList) = decide (a = b) := by
 rw [str_list, str_list, Bool.eq_iff_iff]
 simp only [beq_iff_eq, decide_eq_true_eq]
 refine ⟨fun h => ?_, fun h => by rw [h]⟩
 induction a generalizing b with
 | nil => cases b with
   | nil => rfl
   | cons y b => cases h
 | cons x a ih => cases b with
   | nil => cases h
   | cons y b =>
     simp only [List.map_cons, List.cons.injEq] at h
     have hx := ha x (List.mem_cons_self ..)
     have hy := hb y (List.mem_cons_self ..)
     have e := congrArg UInt8.toNat h.1
     rw [UInt8.toNat_ofNat', UInt8.toNat_ofNat'] at e
     have : x = y := by omega
     rw [this, ih b (wf_tail ha) (wf_tail hb) h.2]
theorem wf_strip : ∀ {l : List Int}, WfB l → WfB (stripL l)
 | [], h => h
 | x :: l, h => by
   unfold stripL
   split
   · exact wf_strip (wf_tail h)
   · exact h
theorem wf_two {b : Bool} {l : List Int} (h : WfB l) : WfB (twoL b l) := by
 unfold twoL
 split
 · exact tc_wf _
 · exact wf_zero (wf_trim h)
theorem refparse_ok (l : List Int) (hl : l.length ≤ 10000) (hw : WfB l) : Ct Try.prog 38 [B8 l] [] (numE (refParseN l)) [] [] := by
 refine Ct_intro Try.func38 rfl rfl rfl rfl rfl (fun E hn hb => ?_)
 repeat (refine nst ?_)
 refine s_allocN rfl rfl rfl (by rw [hn]; rfl) rfl zok49 ?_
 repeat (refine nst ?_)
 refine W_cond rfl (by simp) (fun h1 => ?_) (fun h1 => ?_)
 · have e : refParseN l = (false, [], 6) := by simp at h1; subst h1; rfl
   rw [e]
   repeat (refine nst ?_)
   refine s_storeN rfl rfl rfl rfl rfl (by exact vcs) rfl rfl rfl (by rw [cellsOf49]; rfl) (by rw [info49]; rfl) rfl rfl ?_
   repeat (refine nst ?_)
   refine N_retU [] rfl (by simp) (r' := .tup [numA false [], lv (.int .i64 6)]) ⟨⟨.inl rfl, .inr ⟨rfl, .inl ⟨_, rfl⟩⟩, trivial⟩, .inl rfl, trivial⟩ ⟨rfl, trivial, trivial, rfl⟩ hb rfl trivial
 have n1 : ¬ l = [] := by simpa using h1
 repeat (refine nst ?_)
 refine W_cond rfl (by simp) (fun h2 => ?_) (fun h2 => ?_)
 · have e : refParseN l = (false, [], 2) := by
     have : (64 : Int) < l.length := by simpa using h2
     simp only [refParseN, n1, this, if_true, if_false]
   rw [e]
   repeat (refine nst ?_)
   refine s_storeN rfl rfl rfl rfl rfl (by exact vcs) rfl rfl rfl (by rw [cellsOf49]; rfl) (by rw [info49]; rfl) rfl rfl ?_
   repeat (refine nst ?_)
   refine N_retU [] rfl (by simp) (r' := .tup [numA false [], lv (.int .i64 2)]) ⟨⟨.inl rfl, .inr ⟨rfl, .inl ⟨_, rfl⟩⟩, trivial⟩, .inl rfl, trivial⟩ ⟨rfl, trivial, trivial, rfl⟩ hb rfl trivial
 have n2 : ¬ (64 : Int) < l.length := by simpa using h2
 have n4 : 0 < l.length := by cases l with | nil => exact absurd rfl n1 | cons => simp
 have hhd : l.getD 0 0 = hd0 l := rfl
 repeat (refine nst ?_)
 refine s_litI rfl rfl rfl (by rw [hn]; rfl) (elt_mk Try.underlying24 rfl rfl) (zok5) (by exact vcs) ⟨by decide, rfl⟩ ?_
 repeat (refine nst ?_)
 refine s_appI rfl rfl rfl rfl rfl rfl (by rw [hn]; rfl) (elt_mk Try.underlying24 rfl rfl) rfl rfl rfl rfl (by exact vcs) (by first | rfl | (simp; done) | (simp; omega)) ⟨by first | (simp; done) | (simp; omega) | (simp at *; omega), by decide⟩ ?_
 repeat (refine nst ?_)
 refine s_allocN rfl rfl rfl (by rw [hn]; rfl) rfl zok49 ?_
 repeat (refine nst ?_)
 refine s_storeN rfl rfl rfl rfl rfl (by exact vcs) rfl rfl rfl (by rw [cellsOf49]; rfl) (by rw [info49]; rfl) rfl rfl ?_
 repeat (refine nst ?_)
 generalize hbn : decide (128 ≤ hd0 l) = ng
 have hDl : (cond ng (tcL l) l).length = l.length := by cases ng <;> simp [tc_len]
 have hDw : WfB (cond ng (tcL l) l) := by cases ng <;> simp [hw, tc_wf]
 refine W_join (St.of [(0, B8 l), (2, .c (.ptr 66 0)), (4, .c (.ptr 68 0))] [(66, .cells [.lf (.v (.bool false)), .lf (.v (.slice none 0 0))]), (68, .cells [.lf (.v (.bool ng)), .own 80 1 0 l.length]), (80, .row (.ints .u8 (cond ng (tcL l) l)))]) ?_ ?_
 · refine W_cond rfl (by simp) (fun h3 => ?_) (fun h3 => ?_)
   · have hng : ng = true := by rw [← hbn, ← hhd]; simpa using h3
     subst hng
     have h128 : 128 ≤ hd0 l := by simpa using hbn
     repeat (refine nst ?_)
     refine s_storeN rfl rfl rfl rfl rfl (by exact vcs) rfl rfl rfl (by rw [cellsOf4]; rfl) (by rw [info4]; rfl) rfl rfl ?_
     repeat (refine nst ?_)
     refine W_weaken (St.le_of (l := [(0, B8 l), (2, .c (.ptr 66 0)), (4, .c (.ptr 68 0)), (5, lv (.int .i64 1)), (6, lv (.int .i64 ((l.length : Int) - 1)))]) (h := [(66, .cells [.lf (.v (.bool false)), .lf (.v (.slice none 0 0))]), (68, .cells [.lf (.v (.bool true)), .own 80 1 0 l.length]), (80, .row (.ints .u8 l))]) (by refine ⟨?_, ?_⟩ <;> (repeat' (first | exact trivial | exact rfl | refine ⟨?_, ?_⟩)) <;> first | exact rfl | (simp; done) | skip)) ?_
     generalize hP : l = P at *
     generalize hm : P.length = m at *
     have e2 : P = P.take m ++ (incC (notL (P.drop m))).1 := by
       rw [List.take_of_length_le (by omega), List.drop_of_length_le (by omega)]; simp [notL, incC]
     have e3 : (1 : Int) = (incC (notL (P.drop m))).2 := by rw [List.drop_of_length_le (by omega)]; rfl
     refine W_weaken (τ := St.of [(0, B8 P), (2, .c (.ptr 66 0)), (4, .c (.ptr 68 0)), (5, lv (.int .i64 (incC (notL (P.drop m))).2)), (6, lv (.int .i64 ((m : Int) - 1)))] [(66, .cells [.lf (.v (.bool false)), .lf (.v (.slice none 0 0))]), (68, .cells [.lf (.v (.bool true)), .own 80 1 0 m]), (80, .row (.ints .u8 (P.take m ++ (incC (notL (P.drop m))).1)))]) ?_ ?_
     · rw [← e2, ← e3]; exact ⟨fun _ => .inl rfl, fun _ => .inl rfl⟩
     refine W_loop (ι := {j : Nat // j ≤ m}) (fun j => St.of [(0, B8 P), (2, .c (.ptr 66 0)), (4, .c (.ptr 68 0)), (5, lv (.int .i64 (incC (notL (P.drop j.1))).2)), (6, lv (.int .i64 ((j.1 : Int) - 1)))] [(66, .cells [.lf (.v (.bool false)), .lf (.v (.slice none 0 0))]), (68, .cells [.lf (.v (.bool true)), .own 80 1 0 m]), (80, .row (.ints .u8 (P.take j.1 ++ (incC (notL (P.drop j.1))).1)))]) (fun j => j.1) (fun j => ?_) ⟨m, by omega⟩
     obtain ⟨j, hj⟩ := j
     dsimp only
     repeat (refine nst ?_)
     refine W_cond rfl (by simp) (fun hq => ?_) (fun hq => ?_)
     · obtain ⟨i, rfl⟩ : ∃ i, j = i + 1 := ⟨j - 1, by simp at hq; omega⟩
       have hi : i < P.length := by omega
       have hx := hw P[i] (List.getElem_mem hi)
       have hcr := incC_low (notL (P.drop (i + 1))) (wf_notL fun x hx => hw x (List.mem_of_mem_drop hx))
       have e1 : ((i + 1 : Nat) : Int) - 1 = i := by omega
       have hd : incC (notL (P.drop i)) = ((255 - P[i] + (incC (notL (P.drop (i + 1)))).2) % 256 :: (incC (notL (P.drop (i + 1)))).1, (255 - P[i] + (incC (notL (P.drop (i + 1)))).2) / 256) := by
         rw [List.drop_eq_getElem_cons hi]; simp only [notL, List.map_cons, incC]
       have hlt : (P.take i).length = i := by simp; omega
       have hT : P.take (i + 1) = P.take i ++ [P[i]] := by rw [List.take_add_one, List.getElem?_eq_getElem hi]; rfl
       have hRl : (incC (notL (P.drop (i + 1)))).1.length = m - (i + 1) := by rw [len_incC]; simp [notL, hm]
       generalize hcc : (incC (notL (P.drop (i + 1)))).2 = c at *
       generalize hRR : (incC (notL (P.drop (i + 1)))).1 = R at *
       rw [hT, e1, List.append_assoc, List.singleton_append]
       have hg : P.getD (i : Int).toNat 0 = P[i] := by simp [hi]
       have hL : (P.take i ++ P[i] :: R).length = m := by simp [hRl]; omega
       repeat (refine nst ?_)
       rw [hg]
       repeat (refine nst ?_)
       refine s_storeI rfl rfl rfl rfl rfl (by exact vcs) rfl (by rw [cellsOf5]) (by first | (simp; done) | (simp; omega) | (simp at *; omega)) ?_
       repeat (refine nst ?_)
       refine N_round ⟨i, by omega⟩ (by dsimp only; omega) (St.le_of ⟨⟨rfl, rfl, rfl, ?_, ?_⟩, ⟨rfl, rfl, ?_⟩⟩)
       · show lv (.int .i64 ((255 - P[i] + c) / 256)) = lv (.int .i64 (incC (notL (P.drop i))).2)
         rw [hd]
       · show lv (.int .i64 ((i : Int) - 1)) = lv (.int .i64 ((i : Int) - 1))
         rfl
       · show Blk.row (.ints .u8 (List.set _ (0 + (i : Int).toNat) ((255 - P[i] + c) % 256))) = Blk.row (.ints .u8 (P.take i ++ (incC (notL (P.drop i))).1))
         rw [hd, set_mid _ _ _ _ _ (by rw [hlt]; simp)]
     · have : j = 0 := by simp at hq; omega
       subst this
       have e4 : P.take 0 ++ (incC (notL (P.drop 0))).1 = tcL P := by simp [tcL]
       have e5 : (incC (notL (P.drop 0))).2 = 0 := by
         match P, n1, h128, hw with
         | x :: t, _, h128, hw => exact tc_carry (by simp [hd0] at h128; omega) hw
       rw [e4, e5]
       repeat (refine nst ?_)
       refine W_cond rfl (by simp) (fun hq => ?_) (fun hq => ?_)
       · simp at hq
       · repeat (refine nst ?_)
         (refine N_join ?_; refine St.le_of ⟨?_, ?_⟩ <;> (repeat' (first | exact trivial | exact rfl | refine ⟨?_, ?_⟩)) <;> first | exact rfl | (simp; done) | skip)
   · have hng : ng = false := by rw [← hbn, ← hhd]; simpa using h3
     subst hng
     repeat (refine nst ?_)
     (refine N_join ?_; refine St.le_of ⟨?_, ?_⟩ <;> (repeat' (first | exact trivial | exact rfl | refine ⟨?_, ?_⟩)) <;> first | exact rfl | (simp; done) | skip)
 repeat (refine nst ?_)
 have e1 : l.length = (cond ng (tcL l) l).length := hDl.symm
 rw [e1]
 generalize hD : cond ng (tcL l) l = D at *
 refine WL_freeze 80 [(56, numA ng D)] rfl hb ⟨⟨rfl, ⟨rfl, rfl, rfl, by simp, by simp⟩, trivial⟩, rfl⟩ ?_
 refine s_call0 (refmade_ok ng D (by omega)) rfl rfl rfl (by rw [hn]; rfl) rfl rfl (by exact vcs) rfl rfl rfl ?_
 refine s_storeN rfl rfl rfl rfl rfl (by exact vcs) rfl rfl rfl (by rw [cellsOf49]; rfl) (by rw [info49]; rfl) rfl rfl ?_
 repeat (refine nst ?_)
 refine W_drawW 6 (by kernel_rfl) (by kernel_rfl) (by kernel_rfl) (by rw [hn]; rfl) rfl rfl ?_
 repeat (first | refine dp1 ?_ | refine dg1 ?_ | refine DrawW_nil ?_)
 refine DrawW_cons rfl (ops_of (opys_call (refcont_ok (madeB ng D) (trimL D) (by have := len_trim D; omega) (wf_trim hDw)) rfl rfl rfl (by trivial) rfl rfl rfl) rfl) ?_
 repeat (first | refine dp1 ?_ | refine dg1 ?_ | refine DrawW_nil ?_)
 refine DrawW_cons rfl (ops_of (opys_str rfl Try.underlying24 Try.underlying5 Try.underlying9 rfl (by trivial)) rfl) ?_
 repeat (first | refine dp1 ?_ | refine dg1 ?_ | refine DrawW_nil ?_)
 refine DrawW_cons rfl (ops_of (opys_str rfl Try.underlying24 Try.underlying5 Try.underlying9 rfl (by trivial)) rfl) ?_
 repeat (first | refine dp1 ?_ | refine dg1 ?_ | refine DrawW_nil ?_)
 repeat (refine nst ?_)
 have hcw : WfB (refcL (madeB (madeB ng D) (trimL D)) (trimL (trimL D))) := by
   rw [← cont_eq _ _ (wf_trim hDw)]
   exact wf_strip (wf_two (wf_trim hDw))
 have hN : refParseN l = if refcL (madeB (madeB ng D) (trimL D)) (trimL (trimL D)) = l then (madeB ng D, trimL D, 0) else (false, [], 6) := by
   unfold refParseN
   rw [if_neg n1, if_neg n2, hbn]
   have k1 : cond ng (madeB true (tcL l)) (madeB false l) = madeB ng D := by rw [← hD]; cases ng <;> rfl
   have k2 : cond ng (trimL (tcL l)) (trimL l) = trimL D := by rw [← hD]; cases ng <;> rfl
   simp only [k1, k2]
 refine W_cond rfl (by simp) (fun hq => ?_) (fun hq => ?_)
 · rw [byte_string_eq _ _ hcw hw] at hq
   rw [hN, if_neg (by simpa using hq)]
   repeat (refine nst ?_)
   refine s_storeN rfl rfl rfl rfl rfl (by exact vcs) rfl rfl rfl (by rw [cellsOf49]; rfl) (by rw [info49]; rfl) rfl rfl ?_
   repeat (refine nst ?_)
   refine N_retU [] rfl (by simp) (r' := .tup [numA false [], lv (.int .i64 6)]) ⟨⟨.inl rfl, .inr ⟨rfl, .inl ⟨_, rfl⟩⟩, trivial⟩, .inl rfl, trivial⟩ ⟨rfl, trivial, trivial, rfl⟩ hb rfl trivial
 · rw [byte_string_eq _ _ hcw hw] at hq
   rw [hN, if_pos (by simpa using hq)]
   repeat (refine nst ?_)
   refine s_storeN rfl rfl rfl rfl rfl (by exact vcs) rfl rfl rfl (by rw [cellsOf49]; rfl) (by rw [info49]; rfl) rfl rfl ?_
   repeat (refine nst ?_)
   exact rt1 []

theorem wf_take {l : List Int} (h : WfB l) (n : Nat) : WfB (l.take n) := fun x hx => h x (List.mem_of_mem_take hx)
theorem right_made (b : Bool) (l : List Int) : rightB (madeB b l) (trimL l) = true := by
 rcases trim_nz l with h | ⟨x, t, h, hx⟩
 · rw [h]
   have : madeB b l = false := by cases b <;> simp [madeB, h]
   rw [this]; rfl
 · rw [h]; simpa [rightB] using hx
theorem parse_right (m : List Int) : (parseN m).2.1.length ≤ m.length ∧ ((parseN m).2.2 = 0 → rightB (parseN m).1 (parseN m).2.1 = true) := by
 have h1 := len_trim m
 have h2 := len_trim (tcL m)
 have h3 := tc_len m
 have h4 := right_made true (tcL m)
 have h5 := right_made false m
 unfold parseN
 repeat' split
 · exact ⟨Nat.zero_le _, fun h => by cases h⟩
 · exact ⟨Nat.zero_le _, fun h => by cases h⟩
 · exact ⟨Nat.zero_le _, fun h => by cases h⟩
 · exact ⟨by dsimp only; omega, fun _ => h4⟩
 · exact ⟨by dsimp only; omega, fun _ => h5⟩

theorem val_app : ∀ (a b : List Int) (c : Int), valA c (a ++ b) = valA (valA c a) b
 | [], _, _ => rfl
 | x :: a, b, c => by simp only [List.cons_append, valA, val_app a b]
theorem pow_le (a b : Nat) (h : a ≤ b) : (256 : Int) ^ a ≤ 256 ^ b := by
 have h1 : (256 : Nat) ^ a ≤ 256 ^ b := Nat.pow_le_pow_right (by decide) h
 have h2 : ((256 ^ a : Nat) : Int) = 256 ^ a := by simp
 have h3 : ((256 ^ b : Nat) : Int) = 256 ^ b := by simp
 rw [← h2, ← h3]
 exact Int.ofNat_le.2 h1
theorem val_lt (l : List Int) (n : Nat) (hn : l.length ≤ n) (hw : WfB l) : valA 0 l < 256 ^ n := by
 have h := val_bound l 0 hw
 have h2 := pow_le l.length n hn
 omega
theorem val_snoc (a : List Int) (x : Int) : valA 0 (a ++ [x]) = 256 * valA 0 a + x := by rw [val_app]; rfl
end Go.Proofs.Ytaagjnlkinojcaa

/-
  Chapter 03: the document's contents of a number. The conditions: rows of at most a million bytes.
-/
import Derived.Test.YtaagjnlkinojcaaW5
namespace Go.Proofs.Ytaagjnlkinojcaa
set_option linter.unusedSimpArgs false
set_option linter.unusedVariables false
open Go.Sx
set_option maxRecDepth 10000
def parseN (l : List Int) : Bool × List Int × Int :=
 if l = [] then (false, [], 6) else if (64 : Int) < l.length then (false, [], 2) else if redB l then (false, [], 6)
 else if 128 ≤ l.getD 0 0 then (madeB true (tcL l), trimL (tcL l), 0) else (madeB false l, trimL l, 0)
abbrev numE (p : Bool × List Int × Int) : Av := .tup [numA p.1 p.2.1, lv (.int .i64 p.2.2)]
theorem parse_ok (l : List Int) (hl : l.length ≤ 10000) (hw : WfB l) : Ct Try.prog 57 [B8 l] [] (numE (parseN l)) [] [] := by
 refine Ct_intro Try.func57 rfl rfl rfl rfl rfl (fun E hn hb => ?_)
 repeat (refine nst ?_)
 refine s_allocN rfl rfl rfl (by rw [hn]; rfl) rfl zok44 ?_
 repeat (refine nst ?_)
 refine W_cond rfl (by simp) (fun h1 => ?_) (fun h1 => ?_)
 · have e : parseN l = (false, [], 6) := by simp at h1; subst h1; rfl
   rw [e]
   repeat (refine nst ?_)
   refine s_storeN rfl rfl rfl rfl rfl (by exact vcs) rfl rfl rfl (by rw [cellsOf44]; rfl) (by rw [info44]; rfl) rfl rfl ?_
   repeat (refine nst ?_)
   refine N_retU [] rfl (by simp) (r' := .tup [numA false [], lv (.int .i64 6)]) ⟨⟨.inl rfl, .inr ⟨rfl, .inl ⟨_, rfl⟩⟩, trivial⟩, .inl rfl, trivial⟩ ⟨rfl, trivial, trivial, rfl⟩ hb rfl trivial
 have n1 : ¬ l = [] := by simpa using h1
 repeat (refine nst ?_)
 refine W_cond rfl (by simp) (fun h2 => ?_) (fun h2 => ?_)
 · have e : parseN l = (false, [], 2) := by
     have : (64 : Int) < l.length := by simpa using h2
     simp only [parseN, n1, this, if_true, if_false]
   rw [e]
   repeat (refine nst ?_)
   refine s_storeN rfl rfl rfl rfl rfl (by exact vcs) rfl rfl rfl (by rw [cellsOf44]; rfl) (by rw [info44]; rfl) rfl rfl ?_
   repeat (refine nst ?_)
   refine N_retU [] rfl (by simp) (r' := .tup [numA false [], lv (.int .i64 2)]) ⟨⟨.inl rfl, .inr ⟨rfl, .inl ⟨_, rfl⟩⟩, trivial⟩, .inl rfl, trivial⟩ ⟨rfl, trivial, trivial, rfl⟩ hb rfl trivial
 have n2 : ¬ (64 : Int) < l.length := by simpa using h2
 repeat (refine nst ?_)
 refine W_cond rfl (by simp) (fun h3 => ?_) (fun h3 => ?_)
 · have n3 : redB l = true := by
     match l, h3 with
     | x :: y :: t, h3 =>
       have := h3
       simp [Bool.cond_eq_ite] at this
       simpa [redB] using this.2
   have e : parseN l = (false, [], 6) := by simp only [parseN, n1, n2, n3, if_true, if_false]
   rw [e]
   repeat (refine nst ?_)
   refine s_storeN rfl rfl rfl rfl rfl (by exact vcs) rfl rfl rfl (by rw [cellsOf44]; rfl) (by rw [info44]; rfl) rfl rfl ?_
   repeat (refine nst ?_)
   refine N_retU [] rfl (by simp) (r' := .tup [numA false [], lv (.int .i64 6)]) ⟨⟨.inl rfl, .inr ⟨rfl, .inl ⟨_, rfl⟩⟩, trivial⟩, .inl rfl, trivial⟩ ⟨rfl, trivial, trivial, rfl⟩ hb rfl trivial
 have n3 : ¬ redB l = true := by
   match l, h3 with
   | [], _ => simp [redB]
   | [x], _ => simp [redB]
   | x :: y :: t, h3 =>
     have := h3
     simp [Bool.cond_eq_ite] at this
     simpa [redB] using this (by omega)
 clear h3
 have n4 : 0 < l.length := by cases l with | nil => exact absurd rfl n1 | cons => simp
 repeat (refine nst ?_)
 refine W_cond rfl (by simp) (fun h4 => ?_) (fun h4 => ?_)
 · have e : parseN l = (madeB true (tcL l), trimL (tcL l), 0) := by
     have : 128 ≤ l.getD 0 0 := by simpa using h4
     simp only [parseN, n1, n2, n3, this, if_true, if_false, Bool.false_eq_true]
   rw [e]
   repeat (refine nst ?_)
   refine s_call0 (turned_ok l (by omega) hw) rfl rfl rfl (by rw [hn]; rfl) rfl rfl (by exact vcs) rfl rfl rfl ?_
   refine s_call0 (made_ok true (tcL l) (by simp [tcL, len_incC, notL]; omega)) rfl rfl rfl (by rw [hn]; rfl) rfl rfl (by exact vcs) rfl rfl rfl ?_
   refine s_storeN rfl rfl rfl rfl rfl (by exact vcs) rfl rfl rfl (by rw [cellsOf44]; rfl) (by rw [info44]; rfl) rfl rfl ?_
   repeat (refine nst ?_)
   exact rt1 []
 · have e : parseN l = (madeB false l, trimL l, 0) := by
     have : ¬ 128 ≤ l.getD 0 0 := by simpa using h4
     simp only [parseN, n1, n2, n3, this, if_false, Bool.false_eq_true]
   rw [e]
   repeat (refine nst ?_)
   refine s_call0 (made_ok false l (by omega)) rfl rfl rfl (by rw [hn]; rfl) rfl rfl (by exact vcs) rfl rfl rfl ?_
   refine s_storeN rfl rfl rfl rfl rfl (by exact vcs) rfl rfl rfl (by rw [cellsOf44]; rfl) (by rw [info44]; rfl) rfl rfl ?_
   repeat (refine nst ?_)
   exact rt1 []

def dig (n : Int) : Int := if n < 10 then 48 + n else 87 + n
theorem digit_ok (n : Int) (h : 0 ≤ n ∧ n < 16) : Ct Try.prog 52 [lv (.int .u8 n)] [] (lv (.int .u8 (dig n))) [] [] := by
 refine Ct_intro Try.func52 rfl rfl rfl rfl rfl (fun E hn hb => ?_)
 repeat (refine nst ?_)
 refine W_cond rfl (by simp) (fun hc => ?_) (fun hc => ?_)
 · have h1 : n < 10 := by simpa using hc
   repeat (refine nst ?_)
   refine rt2 [] ?_ ?_
   · simp only [dig, h1, if_true]; rfl
   · trivial
 · have h1 : ¬ n < 10 := by simpa using hc
   have e : 97 + n - 10 = 87 + n := by omega
   repeat (refine nst ?_)
   refine rt2 [] ?_ ?_
   · simp only [dig, h1, if_false, e]; rfl
   · trivial
def hexL (l : List Int) : List Int := l.flatMap fun c => [dig (c / 16), dig (c % 16)]
theorem hexL_len (l : List Int) : (hexL l).length = 2 * l.length := by
 induction l with
 | nil => rfl
 | cons x l ih => simp only [hexL, List.flatMap_cons] at *; simp [ih]; omega
theorem and15 (n : Int) (h : 0 ≤ n ∧ n < 256) : IntKind.u8.wrap (BitVec.ofInt IntKind.u8.bits n &&& BitVec.ofInt IntKind.u8.bits 15).toNat = n % 16 := by
 obtain ⟨m, rfl⟩ : ∃ m : Nat, n = m := ⟨n.toNat, by omega⟩
 have key : ∀ m : Fin 256, IntKind.u8.wrap (BitVec.ofInt IntKind.u8.bits ((m.val : Nat) : Int) &&& BitVec.ofInt IntKind.u8.bits 15).toNat = ((m.val : Nat) : Int) % 16 := by decide
 exact key ⟨m, by omega⟩
theorem hex_ok (l : List Int) (hl : l.length ≤ 100000) (hw : WfB l) : Ct Try.prog 28 [B8 l] [] (lv (.string (strOfNums (hexL l)))) [] [] := by
 refine Ct_intro Try.func28 rfl rfl rfl rfl rfl (fun E hn hb => ?_)
 repeat (refine nst ?_)
 refine s_makeI (by_ := 1) rfl rfl rfl (by rw [hn]; rfl) (elt_mk Try.underlying24 rfl rfl) rfl rfl rfl (by exact vcs) 0 (by first | rfl | (simp; done) | omega) (by first | (simp; done) | omega | (simp at *; omega)) ?_
 repeat (refine nst ?_)
 refine W_weaken (St.le_of (l := [(3, .c (.own 73 1 0 0)), (10, B8 l), (11, lv (.int .i64 (l.length : Int))), (12, lv (.int .i64 0))]) (h := [(73, .row (.ints .u8 []))]) (by refine ⟨?_, ?_⟩ <;> (repeat' (first | exact trivial | exact rfl | refine ⟨?_, ?_⟩)) <;> first | exact rfl | (simp; done) | skip)) ?_
 refine W_loop (ι := {i : Nat // i ≤ l.length}) (fun i => St.of [(3, .c (.own 73 1 0 (hexL (l.take i.1)).length)), (10, B8 l), (11, lv (.int .i64 (l.length : Int))), (12, lv (.int .i64 (i.1 : Int)))] [(73, .row (.ints .u8 (hexL (l.take i.1))))]) (fun i => l.length - i.1) (fun i => ?_) ⟨0, by omega⟩
 obtain ⟨i, hi⟩ := i
 dsimp only
 have hhl := hexL_len (l.take i)
 have htl : (l.take i).length ≤ l.length := by simp; omega
 repeat (refine nst ?_)
 refine W_cond rfl (by simp) (fun hc => ?_) (fun hc => ?_)
 · have hi8 : i < l.length := by simp at hc; omega
   have hg : l.getD (i : Int).toNat 0 = l[i] := by simp [hi8]
   have hx := hw l[i] (List.getElem_mem hi8)
   have e4 : l[i] / 2 ^ min (Int.toNat 4) IntKind.u8.bits = l[i] / 16 := by simp [IntKind.bits]
   repeat (refine nst ?_)
   rw [hg]
   repeat (refine nst ?_)
   rw [e4]
   refine s_call0 (digit_ok (l[i] / 16) (by omega)) rfl rfl rfl (by rw [hn]; rfl) rfl rfl (by exact vcs) rfl rfl rfl ?_
   repeat (refine nst ?_)
   rw [and15 _ hx]
   refine s_call0 (digit_ok (l[i] % 16) (by omega)) rfl rfl rfl (by rw [hn]; rfl) rfl rfl (by exact vcs) rfl rfl rfl ?_
   refine s_litI rfl rfl rfl (by rw [hn]; rfl) (elt_mk Try.underlying24 rfl rfl) (zok5) (by exact vcs) ⟨by decide, rfl⟩ ?_
   refine s_appI rfl rfl rfl rfl rfl rfl (by rw [hn]; rfl) (elt_mk Try.underlying24 rfl rfl) rfl rfl rfl rfl (by exact vcs) (by first | rfl | (simp; done) | (simp; omega)) ⟨by first | (simp; done) | (simp; omega) | (simp at *; omega), by decide⟩ ?_
   repeat (refine nst ?_)
   have eT : l.take (i + 1) = l.take i ++ [l[i]] := by rw [List.take_add_one, List.getElem?_eq_getElem hi8]; rfl
   have eH : hexL (l.take (i + 1)) = hexL (l.take i) ++ [dig (l[i] / 16), dig (l[i] % 16)] := by rw [eT]; simp only [hexL, List.flatMap_append, List.flatMap_cons, List.flatMap_nil, List.append_nil]
   refine N_round ⟨i + 1, by omega⟩ (by dsimp only; omega) (St.le_of ⟨⟨?_, rfl, rfl, rfl⟩, ?_⟩)
   · show Av.c (.own 73 1 0 (hexL (l.take i) ++ [dig (l[i] / 16), dig (l[i] % 16)]).length) = Av.c (.own 73 1 0 (hexL (l.take (i + 1))).length)
     rw [eH]
   · show Blk.row (.ints .u8 (hexL (l.take i) ++ [dig (l[i] / 16), dig (l[i] % 16)])) = Blk.row (.ints .u8 (hexL (l.take (i + 1))))
     rw [eH]
 · have : i = l.length := by simp at hc; omega
   subst this
   repeat (refine nst ?_)
   refine WL_q (opq_of (opy_str rfl Try.underlying24 Try.underlying5 Try.underlying9 rfl (by exact vcs)) rfl) (by rw [hn]; rfl) ?_
   repeat (refine nst ?_)
   refine rt2 [] ?_ ?_
   · have e : (hexL (l.take l.length)).take (hexL (l.take l.length)).length = hexL l := by rw [List.take_length, List.take_length]
     exact congrArg (fun l => lv (.string (strOfNums l))) e
   · trivial

def padL (s : List Int) (m : Nat) : List Int := List.replicate (m - s.length) 0 ++ s
def hd0 (l : List Int) : Int := l.getD 0 0
def goodB (be : Bool) (s : List Int) : Bool := cond be (decide (128 ≤ hd0 (tcL s))) (decide (hd0 s < 128))
def refcL (be : Bool) (s : List Int) : List Int :=
 let t := if s ≠ [] ∧ goodB be s = true then s else 0 :: s
 cond be (tcL t) t
theorem incC_low : ∀ l : List Int, WfB l → 0 ≤ (incC l).2 ∧ (incC l).2 ≤ 1
 | [], _ => by simp [incC]
 | x :: l, h => by
   have h1 := incC_low l (fun y hy => h y (List.mem_cons_of_mem _ hy))
   have hx := h x (List.mem_cons_self ..)
   simp only [incC]
   omega
theorem good_zero (x : Int) (s : List Int) (hx : x ≠ 0) (hw : WfB (x :: s)) : 128 ≤ hd0 (tcL (0 :: x :: s)) := by
 have h1 := incC_low (notL s) (wf_notL fun y hy => hw y (List.mem_cons_of_mem _ hy))
 have hx' := hw x (List.mem_cons_self ..)
 simp only [hd0, tcL, notL, List.map_cons, incC, List.getD_cons_zero]
 have : (255 - x + (incC (s.map fun x => 255 - x)).2) / 256 = 0 := by
   have h2 : 0 ≤ (incC (s.map fun x => 255 - x)).2 ∧ (incC (s.map fun x => 255 - x)).2 ≤ 1 := h1
   omega
 rw [this]
 decide
theorem refcont_own (b : Bool) (l : List Int) (hl : l.length ≤ 10000) (hw : WfB l) : Ct Try.prog 61 [numA b l] [] (.c (.own 0 1 0 (refcL (madeB b l) (trimL l)).length)) [] [.row (.ints .u8 (refcL (madeB b l) (trimL l)))] := by
 have hbs : madeB b l = true → trimL l ≠ [] := by
   intro h h'
   simp [madeB, h', Bool.cond_eq_ite] at h
 have ht := len_trim l
 refine Ct_intro Try.func61 rfl rfl rfl rfl rfl (fun E hn hb => ?_)
 repeat (refine nst ?_)
 refine s_boxN rfl rfl rfl (by rw [hn]; rfl) rfl (by exact vcs) rfl rfl ?_
 repeat (refine nst ?_)
 refine s_call0 (refmade_ok b l (by omega)) rfl rfl rfl (by rw [hn]; rfl) rfl rfl (by exact vcs) rfl rfl rfl ?_
 refine s_storeN rfl rfl rfl rfl rfl (by exact vcs) rfl rfl rfl (by rw [cellsOf49]; rfl) (by rw [info49]; rfl) rfl rfl ?_
 repeat (refine nst ?_)
 refine W_weaken (St.le_of (l := [(1, .c (.ptr 65 0)), (3, lv (.int .i64 1))]) (h := [(65, .cells [.lf (.v (.bool (madeB b l))), .lf (.ints .u8 (trimL l))])]) (by refine ⟨?_, ?_⟩ <;> (repeat' (first | exact trivial | exact rfl | refine ⟨?_, ?_⟩)) <;> first | exact rfl | (simp; done) | skip)) ?_
 generalize hs : trimL l = s at *
 generalize hbe : madeB b l = be at *
 refine W_loop (ι := {m : Nat // 1 ≤ m ∧ m ≤ s.length + 1 ∧ (m = s.length + 1 → s ≠ [] → goodB be s = false)}) (fun m => St.of [(1, .c (.ptr 65 0)), (3, lv (.int .i64 (m.1 : Int)))] [(65, .cells [.lf (.v (.bool be)), .lf (.ints .u8 s)])]) (fun m => s.length + 1 - m.1) (fun m => ?_) ⟨1, by omega, by omega, fun h h' => absurd (List.eq_nil_of_length_eq_zero (by omega)) h'⟩
 obtain ⟨m, hm1, hm2, hbad⟩ := m
 dsimp only
 repeat (refine nst ?_)
 refine W_cond rfl (by simp) (fun hc => ?_) (fun hc => ?_)
 · repeat (refine nst ?_)
   (refine N_round ?i1 ?i2 ?i3; (case i1 => exact ⟨m + 1, by omega, by simp at hc; omega, by simp at hc; omega⟩); (case i2 => (simp at hc; dsimp only; omega)); (case i3 => refine St.le_of ⟨?_, ?_⟩ <;> (repeat' (first | exact trivial | exact rfl | refine ⟨?_, ?_⟩)) <;> first | exact rfl | (simp; done) | skip))
 · have hsm : s.length ≤ m := by simp at hc; omega
   repeat (refine nst ?_)
   refine s_makeI (by_ := 1) rfl rfl rfl (by rw [hn]; rfl) (elt_mk Try.underlying24 rfl rfl) rfl rfl rfl (by exact vcs) m (by first | rfl | (simp; done) | omega) (by first | (simp; done) | omega | (simp at *; omega)) ?_
   repeat (refine nst ?_)
   refine W_weaken (St.le_of (l := [(1, .c (.ptr 65 0)), (3, lv (.int .i64 (m : Int))), (4, .c (.own 83 1 0 m)), (5, lv (.int .i64 0))]) (h := [(65, .cells [.lf (.v (.bool be)), .lf (.ints .u8 s)]), (83, .row (.ints .u8 (List.replicate m 0)))]) (by refine ⟨?_, ?_⟩ <;> (repeat' (first | exact trivial | exact rfl | refine ⟨?_, ?_⟩)) <;> first | exact rfl | (simp; done) | skip)) ?_
   have e0 : List.replicate m (0 : Int) = List.replicate (m - s.length) 0 ++ fillUp s 0 := by
     rw [fillUp_zero, List.replicate_append_replicate]; congr 1; omega
   rw [e0]
   refine W_loop (ι := {i : Nat // i ≤ s.length}) (fun i => St.of [(1, .c (.ptr 65 0)), (3, lv (.int .i64 (m : Int))), (4, .c (.own 83 1 0 m)), (5, lv (.int .i64 (i.1 : Int)))] [(65, .cells [.lf (.v (.bool be)), .lf (.ints .u8 s)]), (83, .row (.ints .u8 (List.replicate (m - s.length) 0 ++ fillUp s i.1)))]) (fun i => s.length - i.1) (fun i => ?_) ⟨0, by omega⟩
   obtain ⟨i, hi⟩ := i
   dsimp only
   have hfl := fillUp_length s i
   repeat (refine nst ?_)
   refine W_cond rfl (by simp) (fun hc => ?_) (fun hc => ?_)
   · have hi8 : i < s.length := by simp at hc; omega
     repeat (refine nst ?_)
     refine W_drawW 14 (by kernel_rfl) (by kernel_rfl) (by kernel_rfl) (by rw [hn]; rfl) rfl rfl ?_
     repeat (first | refine dp1 ?_ | refine dg1 ?_ | refine DrawW_nil ?_)
     repeat (refine nst ?_)
     refine s_storeI rfl rfl rfl rfl rfl (by exact vcs) rfl (by rw [cellsOf5]) (by first | (simp; done) | (simp; omega) | (simp at *; omega)) ?_
     repeat (refine nst ?_)
     have hx : s[i]? = some s[i] := by simp [hi8]
     refine N_round ⟨i + 1, by omega⟩ (by dsimp only; omega) (St.le_of ⟨⟨rfl, rfl, rfl, rfl⟩, ⟨rfl, ?_⟩⟩)
     show Blk.row (.ints .u8 (List.set _ (0 + ((m : Int) - s.length + i).toNat) (s.getD (i : Int).toNat 0))) = Blk.row (.ints .u8 (List.replicate (m - s.length) 0 ++ fillUp s (i + 1)))
     rw [← fillUp_set s i _ hx]
     have e1 : 0 + ((m : Int) - s.length + i).toNat = m - s.length + i := by omega
     rw [e1, List.set_append_right _ _ (by simp)]
     simp [hi8]
   · have : i = s.length := by simp at hc; omega
     subst this
     rw [fillUp_all]
     repeat (refine nst ?_)
     have hpl : (padL s m).length = m := by simp [padL]; omega
     refine W_cond rfl (by simp) (fun h5 => ?_) (fun h5 => ?_)
     · have hbe' : be = false := by simpa using h5
       subst hbe'
       have hp0 : hd0 (padL s m) < 128 → padL s m = refcL false s := by
         intro hlt
         rcases Nat.lt_or_ge s.length m with h | h
         · have hm : m = s.length + 1 := by omega
           have hp : padL s m = 0 :: s := by rw [hm, padL]; simp
           rw [hp]
           by_cases hne : s = []
           · simp [refcL, hne]
           · simp [refcL, hbad hm hne]
         · have hm : m = s.length := by omega
           have hp : padL s m = s := by rw [hm, padL]; simp
           have hne : s ≠ [] := by intro h; rw [h] at hm; simp at hm; omega
           rw [hp] at hlt ⊢
           simp [refcL, hne, goodB, hlt]
       repeat (refine nst ?_)
       refine W_cond rfl (by simp) (fun h6 => ?_) (fun h6 => ?_)
       · have e := hp0 (by simpa [hd0, padL] using h6)
         have el : m = (refcL false s).length := by rw [← e, hpl]
         repeat (refine nst ?_)
         refine rt2 [83] ?_ ?_
         · rw [← el]; rfl
         · exact congrArg (fun l => Blk.row (.ints .u8 l)) e
       · have h7 : ¬ hd0 (padL s m) < 128 := by simpa [hd0, padL] using h6
         have hm : m = s.length := by
           rcases Nat.lt_or_ge s.length m with h | h
           · have hp : padL s m = 0 :: s := by rw [show m = s.length + 1 by omega, padL]; simp
             rw [hp] at h7
             exact absurd (by simp [hd0]) h7
           · omega
         have hp : padL s m = s := by rw [hm, padL]; simp
         rw [hp] at h7
         repeat (refine nst ?_)
         (refine N_round ?i1 ?i2 ?i3; (case i1 => exact ⟨m + 1, by omega, by omega, fun _ _ => by simpa [goodB] using h7⟩); (case i2 => (dsimp only; omega)); (case i3 => refine St.le_of ⟨?_, ?_⟩ <;> (repeat' (first | exact trivial | exact rfl | refine ⟨?_, ?_⟩)) <;> first | exact rfl | (simp; done) | skip))
     · have hbe' : be = true := by simpa using h5
       subst hbe'
       repeat (refine nst ?_)
       have hwP : WfB (padL s m) := by
         intro x hx
         rcases List.mem_append.1 hx with h | h
         · obtain ⟨_, rfl⟩ := List.mem_replicate.1 h; omega
         · rw [← hs] at h; exact wf_trim hw x h
       refine W_weaken (St.le_of (l := [(1, .c (.ptr 65 0)), (3, lv (.int .i64 (m : Int))), (4, .c (.own 83 1 0 m)), (6, lv (.int .i64 1)), (7, lv (.int .i64 ((m : Int) - 1)))]) (h := [(65, .cells [.lf (.v (.bool true)), .lf (.ints .u8 s)]), (83, .row (.ints .u8 (padL s m)))]) (by refine ⟨?_, ?_⟩ <;> (repeat' (first | exact trivial | exact rfl | refine ⟨?_, ?_⟩)) <;> first | exact rfl | (simp; done) | skip)) ?_
       generalize hP : padL s m = P at *
       have e2 : P = P.take m ++ (incC (notL (P.drop m))).1 := by
         rw [List.take_of_length_le (by omega), List.drop_of_length_le (by omega)]; simp [notL, incC]
       have e3 : (1 : Int) = (incC (notL (P.drop m))).2 := by rw [List.drop_of_length_le (by omega)]; rfl
       refine W_weaken (τ := St.of [(1, .c (.ptr 65 0)), (3, lv (.int .i64 (m : Int))), (4, .c (.own 83 1 0 m)), (6, lv (.int .i64 (incC (notL (P.drop m))).2)), (7, lv (.int .i64 ((m : Int) - 1)))] [(65, .cells [.lf (.v (.bool true)), .lf (.ints .u8 s)]), (83, .row (.ints .u8 (P.take m ++ (incC (notL (P.drop m))).1)))]) ?_ ?_
       · rw [← e2, ← e3]; exact ⟨fun _ => .inl rfl, fun _ => .inl rfl⟩
       refine W_loop (ι := {j : Nat // j ≤ m}) (fun j => St.of [(1, .c (.ptr 65 0)), (3, lv (.int .i64 (m : Int))), (4, .c (.own 83 1 0 m)), (6, lv (.int .i64 (incC (notL (P.drop j.1))).2)), (7, lv (.int .i64 ((j.1 : Int) - 1)))] [(65, .cells [.lf (.v (.bool true)), .lf (.ints .u8 s)]), (83, .row (.ints .u8 (P.take j.1 ++ (incC (notL (P.drop j.1))).1)))]) (fun j => j.1) (fun j => ?_) ⟨m, by omega⟩
       obtain ⟨j, hj⟩ := j
       dsimp only
       repeat (refine nst ?_)
       refine W_cond rfl (by simp) (fun hq => ?_) (fun hq => ?_)
       · obtain ⟨i, rfl⟩ : ∃ i, j = i + 1 := ⟨j - 1, by simp at hq; omega⟩
         have hi : i < P.length := by omega
         have hx := hwP P[i] (List.getElem_mem hi)
         have hcr := incC_low (notL (P.drop (i + 1))) (wf_notL fun x hx => hwP x (List.mem_of_mem_drop hx))
         have e1 : ((i + 1 : Nat) : Int) - 1 = i := by omega
         have hd : incC (notL (P.drop i)) = ((255 - P[i] + (incC (notL (P.drop (i + 1)))).2) % 256 :: (incC (notL (P.drop (i + 1)))).1, (255 - P[i] + (incC (notL (P.drop (i + 1)))).2) / 256) := by
           rw [List.drop_eq_getElem_cons hi]; simp only [notL, List.map_cons, incC]
         have hlt : (P.take i).length = i := by simp; omega
         have hT : P.take (i + 1) = P.take i ++ [P[i]] := by rw [List.take_add_one, List.getElem?_eq_getElem hi]; rfl
         have hRl : (incC (notL (P.drop (i + 1)))).1.length = m - (i + 1) := by rw [len_incC]; simp [notL, hpl]
         generalize hcc : (incC (notL (P.drop (i + 1)))).2 = c at *
         generalize hRR : (incC (notL (P.drop (i + 1)))).1 = R at *
         rw [hT, e1, List.append_assoc, List.singleton_append]
         have hg : (P.take i ++ P[i] :: R).getD (0 + (i : Int).toNat) 0 = P[i] := by
           simp [List.getElem?_append_right, hlt, hi]
         have hL : (P.take i ++ P[i] :: R).length = m := by simp [hRl]; omega
         repeat (refine nst ?_)
         rw [hg]
         repeat (refine nst ?_)
         refine s_storeI rfl rfl rfl rfl rfl (by exact vcs) rfl (by rw [cellsOf5]) (by first | (simp; done) | (simp; omega) | (simp at *; omega)) ?_
         repeat (refine nst ?_)
         refine N_round ⟨i, by omega⟩ (by dsimp only; omega) (St.le_of ⟨⟨rfl, rfl, rfl, ?_, ?_⟩, ⟨rfl, ?_⟩⟩)
         · show lv (.int .i64 ((255 - P[i] + c) / 256)) = lv (.int .i64 (incC (notL (P.drop i))).2)
           rw [hd]
         · show lv (.int .i64 ((i : Int) - 1)) = lv (.int .i64 ((i : Int) - 1))
           rfl
         · show Blk.row (.ints .u8 (List.set _ (0 + (i : Int).toNat) ((255 - P[i] + c) % 256))) = Blk.row (.ints .u8 (P.take i ++ (incC (notL (P.drop i))).1))
           rw [hd, set_mid _ _ _ _ _ (by rw [hlt]; simp)]
       · have : j = 0 := by simp at hq; omega
         subst this
         have e4 : P.take 0 ++ (incC (notL (P.drop 0))).1 = tcL P := by simp [tcL]
         rw [e4]
         have htl : (tcL P).length = m := by simp [tcL, len_incC, notL, hpl]
         have hne : s ≠ [] := hbs rfl
         repeat (refine nst ?_)
         refine W_cond rfl (by simp) (fun h6 => ?_) (fun h6 => ?_)
         · have h7 : 128 ≤ hd0 (tcL P) := by simpa [hd0] using h6
           have e : tcL P = refcL true s := by
             rcases Nat.lt_or_ge s.length m with h | h
             · have hm : m = s.length + 1 := by omega
               have hp : P = 0 :: s := by rw [← hP, hm, padL]; simp
               simp [refcL, hbad hm hne, hp]
             · have hm : m = s.length := by omega
               have hp : P = s := by rw [← hP, hm, padL]; simp
               rw [hp] at h7 ⊢
               simp [refcL, hne, goodB, h7]
           have el : m = (refcL true s).length := by rw [← e, htl]
           repeat (refine nst ?_)
           refine rt2 [83] ?_ ?_
           · rw [← el]; rfl
           · exact congrArg (fun l => Blk.row (.ints .u8 l)) e
         · have h7 : ¬ 128 ≤ hd0 (tcL P) := by simpa [hd0] using h6
           have hm : m = s.length := by
             rcases Nat.lt_or_ge s.length m with h | h
             · have hp : P = 0 :: s := by rw [← hP, show m = s.length + 1 by omega, padL]; simp
               exfalso
               match s, hs, hne, hp with
               | x :: t, hs, _, hp =>
                 have hx : x ≠ 0 := by
                   have := List.head?_dropWhile_not (p := fun y : Int => y == 0) (l := l)
                   intro h0
                   rw [trimL] at hs
                   rw [hs] at this
                   simp [h0] at this
                 exact h7 (by rw [hp]; exact good_zero x t hx (by rw [← hs]; exact wf_trim hw))
             · omega
           have hp : P = s := by rw [← hP, hm, padL]; simp
           rw [hp] at h7
           repeat (refine nst ?_)
           (refine N_round ?i1 ?i2 ?i3; (case i1 => exact ⟨m + 1, by omega, by omega, fun _ _ => by simpa [goodB] using h7⟩); (case i2 => (dsimp only; omega)); (case i3 => refine St.le_of ⟨?_, ?_⟩ <;> (repeat' (first | exact trivial | exact rfl | refine ⟨?_, ?_⟩)) <;> first | exact rfl | (simp; done) | skip))
theorem refcont_ok (b : Bool) (l : List Int) (hl : l.length ≤ 10000) (hw : WfB l) : Ct Try.prog 61 [numA b l] [] (B8 (refcL (madeB b l) (trimL l))) [] [] :=
 (refcont_own b l hl hw).freeze ⟨rfl, rfl, rfl, by simp, by simp⟩ rfl
end Go.Proofs.Ytaagjnlkinojcaa

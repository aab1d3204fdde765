/-
  Chapter 04's law OidTexts, walked: it returns true. The conditions: a text that a machine can hold; the package's table of powers of ten is laid.
-/
import Derived.Test.YtohfhephkjihfaaDoorO21
import Derived.Test.YtohfhephkjihfaaDoorO16
namespace Go.Proofs.YtohfhephkjihfaaDoor
set_option linter.unusedSimpArgs false
set_option linter.unusedVariables false
open Go Go.Sx
set_option maxRecDepth 10000
theorem str_app (a b : List Int) : strOfNums a ++ strOfNums b = strOfNums (a ++ b) := by
 apply ByteArray.ext
 apply Array.ext'
 rw [ByteArray.data_append, Array.toList_append, strOfNums_data, strOfNums_data, strOfNums_data, List.map_append]
theorem get_take1 {l : List Int} {i : Nat} (h : i < l.length) : (l.take (i + 1)).drop i = [l.getD i 0] := by
 rw [List.take_add_one, List.getElem?_eq_getElem h, List.drop_append_of_le_length (by rw [List.length_take]; omega), List.drop_eq_nil_of_le (by rw [List.length_take]; omega), List.getD_eq_getElem?_getD, List.getElem?_eq_getElem h]
 rfl
theorem get_drop {l : List Int} {i : Nat} (h : i < l.length) : l.drop i = l.getD i 0 :: l.drop (i + 1) := by
 rw [List.drop_eq_getElem_cons h, List.getD_eq_getElem?_getD, List.getElem?_eq_getElem h]
 rfl
structure RdI (l : List Int) (i : Nat) (one o : List Int) : Prop where
 le : i ≤ l.length + 1
 begun : one.length ≤ i ∧ WfB one ∧ (∀ x ∈ one, x ≠ 46)
 eq : ∃ done, numsT done = some o ∧ ((i ≤ l.length ∧ splitP l = done ++ splitP (one ++ l.drop i)) ∨ (i = l.length + 1 ∧ splitP l = done))
theorem RdI.zero (l : List Int) : RdI l 0 [] [] := ⟨by omega, ⟨by simp, fun x hx => (by cases hx), fun x hx => (by cases hx)⟩, [], rfl, .inl ⟨by omega, by simp⟩⟩
theorem RdI.len {l one o : List Int} {i : Nat} (h : RdI l i one o) : o.length ≤ l.length + 1 := by
 obtain ⟨done, h1, h2⟩ := h.eq
 have := numsT_len h1
 have h3 := splitP_len l
 have h4 := count_le46 l
 rcases h2 with ⟨_, h2⟩ | ⟨_, h2⟩ <;> rw [h2] at h3
 · rw [List.length_append] at h3; omega
 · omega
theorem RdI.step {l one o : List Int} {i : Nat} (hw : WfB l) (h : RdI l i one o) (hi : i < l.length) (hx : l.getD i 0 ≠ 46) : RdI l (i + 1) (one ++ [l.getD i 0]) o := by
 obtain ⟨done, h1, h2⟩ := h.eq
 obtain ⟨o1, o2, o3⟩ := h.begun
 have hm : l.getD i 0 ∈ l := by rw [List.getD_eq_getElem?_getD, List.getElem?_eq_getElem hi]; exact List.getElem_mem hi
 refine ⟨by omega, ⟨by simp; omega, fun x hx2 => ?_, fun x hx2 => ?_⟩, done, h1, ?_⟩
 · rcases List.mem_append.1 hx2 with h | h
   · exact o2 x h
   · rw [List.mem_singleton.1 h]; exact hw _ hm
 · rcases List.mem_append.1 hx2 with h | h
   · exact o3 x h
   · rw [List.mem_singleton.1 h]; exact hx
 · rcases h2 with ⟨_, h2⟩ | ⟨h2, _⟩
   · rw [get_drop hi] at h2
     exact .inl ⟨by omega, by rw [h2]; simp⟩
   · omega
theorem RdI.bad {l one o : List Int} {i : Nat} (h : RdI l i one o) (hi : i ≤ l.length) (hx : ¬ (i < l.length ∧ l.getD i 0 ≠ 46)) (hb : numT one = none) : numsT (splitP l) = none := by
 obtain ⟨done, h1, h2⟩ := h.eq
 obtain ⟨o1, o2, o3⟩ := h.begun
 rcases h2 with ⟨_, h2⟩ | ⟨h2, _⟩
 · rw [h2]
   refine numsT_bad (p := one) ?_ hb
   by_cases h3 : i < l.length
   · have h4 : l.getD i 0 = 46 := Decidable.byContradiction fun h4 => hx ⟨h3, h4⟩
     rw [get_drop h3, h4, split_app _ o3]
     simp
   · rw [List.drop_eq_nil_of_le (by omega), List.append_nil, split_part o3]
     simp
 · omega
theorem RdI.next {l one o : List Int} {i n : Nat} (h : RdI l i one o) (hi : i ≤ l.length) (hx : ¬ (i < l.length ∧ l.getD i 0 ≠ 46)) (hb : numT one = some n) : RdI l (i + 1) [] (o ++ [(n : Int)]) := by
 obtain ⟨done, h1, h2⟩ := h.eq
 obtain ⟨o1, o2, o3⟩ := h.begun
 refine ⟨by omega, ⟨by simp, fun x hx => (by cases hx), fun x hx => (by cases hx)⟩, done ++ [one], numsT_snoc h1 hb, ?_⟩
 rcases h2 with ⟨_, h2⟩ | ⟨h2, _⟩
 · by_cases h3 : i < l.length
   · have h4 : l.getD i 0 = 46 := Decidable.byContradiction fun h4 => hx ⟨h3, h4⟩
     rw [get_drop h3, h4, split_app _ o3] at h2
     exact .inl ⟨by omega, by rw [h2]; simp⟩
   · rw [List.drop_eq_nil_of_le (by omega), List.append_nil, split_part o3] at h2
     exact .inr ⟨by omega, h2⟩
 · omega
theorem RdI.done {l one o : List Int} {i : Nat} (h : RdI l i one o) (hi : ¬ i ≤ l.length) : numsT (splitP l) = some o := by
 obtain ⟨done, h1, h2⟩ := h.eq
 rcases h2 with ⟨h2, _⟩ | ⟨_, h2⟩
 · omega
 · rw [h2]; exact h1
set_option maxHeartbeats 4000000 in
theorem rfromText_ok (l : List Int) (hl : l.length ≤ 100000) (hw : WfB l) : Ct Tryd.prog 6 [strA l] [] (frRes (frT l)) [] [] := by
 have hsz : (strOfNums l).size = l.length := strOfNums_size l
 have hbs := bs_str hw
 refine Ct_intro Tryd.func6 rfl rfl rfl rfl rfl (fun E hn hb => ?_)
 repeat refine nx ?_
 refine W_own_nil 4 95 1 (.ints .i64 []) rfl rfl (.inr (.inl ⟨_, rfl⟩)) ?_
 refine W_weaken (St.le_of (l := [(0, strA l), (4, .c (.own 95 1 0 ([] : List Int).length)), (5, strA []), (6, lv (.int .i64 ((0 : Nat) : Int)))]) (h := [(95, .row (.ints .i64 []))]) (by refine ⟨?_, ?_⟩ <;> (repeat' (first | exact trivial | exact rfl | refine ⟨?_, ?_⟩)) <;> first | exact rfl | (simp; done) | skip)) ?_
 refine W_loop (ι := {q : Nat × List Int × List Int // RdI l q.1 q.2.1 q.2.2}) (fun q => St.of [(0, strA l), (4, .c (.own 95 1 0 q.1.2.2.length)), (5, strA q.1.2.1), (6, lv (.int .i64 (q.1.1 : Int)))] [(95, .row (.ints .i64 q.1.2.2))]) (fun q => l.length + 1 - q.1.1) (fun q => ?_) ⟨(0, [], []), RdI.zero l⟩
 obtain ⟨⟨i, one, o⟩, h⟩ := q
 dsimp only at h ⊢
 have hol := h.len
 have hi := h.le
 have ho1 := h.begun.1
 have how := h.begun.2.1
 have hsz1 : (strOfNums one).size = one.length := strOfNums_size one
 have hbs1 := bs_str how
 repeat (first | refine nx ?_ | rw [hsz])
 refine W_cond rfl (by simp) (fun hc => ?_) (fun hc => ?_)
 · have hil : i ≤ l.length := by simpa using hc
   by_cases hx : i < l.length ∧ l.getD i 0 ≠ 46
   · obtain ⟨hil2, h46⟩ := hx
     have hd1 : decide ((i : Int) < (l.length : Int)) = true := by simp; omega
     have hd2 : (l.getD (i : Int).toNat 0 != 46) = true := by simpa using h46
     have hst := h.step hw hil2 h46
     have e1 : (strOfNums l).extract (i : Int).toNat ((i : Int) + 1).toNat = strOfNums [l.getD i 0] := by
       rw [ext_str, show ((i : Int) + 1).toNat = i + 1 by omega, show (i : Int).toNat = i by omega, get_take1 hil2]
     repeat (first | refine nx ?_ | rw [hsz] | rw [hd1] | rw [hbs] | rw [hd2] | rw [e1] | rw [str_app])
     refine N_round ⟨(i + 1, one ++ [l.getD i 0], o), hst⟩ (by dsimp only; omega) (St.le_of ⟨⟨rfl, rfl, rfl, rfl⟩, rfl⟩)
   · have hbd := fun hb => h.bad hil hx hb
     have hnx := fun (n : Nat) hb => h.next (n := n) hil hx hb
     repeat (first | refine nx ?_ | rw [hsz])
     repeat (first | refine nx ?_ | rw [hbs])
     refine W_cond rfl (by simp) (fun hq => ?_) (fun hq => ?_)
     · exact absurd (by simpa [Bool.cond_eq_ite] using hq) hx
     clear hq
     refine W_weaken (St.le_of (l := [(0, strA l), (4, .c (.own 95 1 0 o.length)), (5, strA one), (6, lv (.int .i64 (i : Int)))]) (h := [(95, .row (.ints .i64 o))]) (by refine ⟨?_, ?_⟩ <;> (repeat' (first | exact trivial | exact rfl | refine ⟨?_, ?_⟩)) <;> first | exact rfl | (simp; done) | skip)) ?_
     repeat (first | refine nx ?_ | rw [hsz1] | rw [hbs1])
     refine W_cond rfl (by simp) (fun hq => ?_) (fun hq => ?_)
     · have hbad : one.length = 0 ∨ 10 < one.length ∨ (one.getD 0 0 = 48 ∧ 1 < one.length) := by
         have hm : (if one.length = 0 ∨ 10 < one.length ∨ (one.getD 0 0 = 48 ∧ 1 < one.length) then true else false) = true := by
           rw [← hq]
           by_cases a0 : one.length = 0 <;> by_cases a1 : 10 < one.length <;> by_cases a2 : one.getD 0 0 = 48 <;> by_cases a3 : 1 < one.length <;> simp [a0, a1, a2, a3, -List.getD_eq_getElem?_getD, -List.length_eq_zero_iff] <;> omega
         simpa using hm
       rw [frT_none (hbd (numT_bad hbad))]
       repeat refine nx ?_
       refine N_retU [] rfl (by simp) (r' := .tup [I64 [], lv (.int .i64 6)]) ⟨.inr ⟨rfl, .inl ⟨_, rfl⟩⟩, .inl rfl, trivial⟩ ⟨rfl, trivial, trivial, rfl⟩ hb rfl trivial
     have hgood : ¬ (one.length = 0 ∨ 10 < one.length ∨ (one.getD 0 0 = 48 ∧ 1 < one.length)) := by
       intro hm
       rw [show (bif bif decide ((one.length : Int) < 1) then true else decide (10 < (one.length : Int)) then true else bif one.getD (Int.toNat 0) 0 == 48 then decide (1 < (one.length : Int)) else false) = true from ?_] at hq
       · cases hq
       · rcases hm with h | h | ⟨h, h2⟩
         · rw [h]; rfl
         · rw [show decide (10 < (one.length : Int)) = true by simp; omega]; cases decide ((one.length : Int) < 1) <;> rfl
         · rw [show (one.getD (Int.toNat 0) 0 == 48) = true by rw [show Int.toNat 0 = 0 from rfl, h]; rfl, show decide (1 < (one.length : Int)) = true by simp; omega]; cases decide ((one.length : Int) < 1) <;> cases decide (10 < (one.length : Int)) <;> rfl
     clear hq
     have hval := numT_val hgood
     have h10 : one.length ≤ 10 := by omega
     repeat refine nx ?_
     refine W_weaken (St.le_of (l := [(0, strA l), (4, .c (.own 95 1 0 o.length)), (5, strA one), (6, lv (.int .i64 (i : Int))), (7, lv (.int .i64 ((decV (one.take 0) : Nat) : Int))), (8, lv (.int .i64 ((0 : Nat) : Int)))]) (h := [(95, .row (.ints .i64 o))]) (by refine ⟨?_, ?_⟩ <;> (repeat' (first | exact trivial | exact rfl | refine ⟨?_, ?_⟩)) <;> first | exact rfl | (simp; done) | skip)) ?_
     refine W_loop (ι := {j : Nat // j ≤ one.length ∧ (one.take j).all isDig = true}) (fun j => St.of [(0, strA l), (4, .c (.own 95 1 0 o.length)), (5, strA one), (6, lv (.int .i64 (i : Int))), (7, lv (.int .i64 ((decV (one.take j.1) : Nat) : Int))), (8, lv (.int .i64 (j.1 : Int)))] [(95, .row (.ints .i64 o))]) (fun j => one.length - j.1) (fun j => ?_) ⟨0, by omega, rfl⟩
     obtain ⟨j, hj, hall⟩ := j
     dsimp only
     have hv := decV_ten hall (by rw [List.length_take]; omega)
     generalize hV : decV (one.take j) = V at *
     repeat (first | refine nx ?_ | rw [hsz1])
     refine W_cond rfl (by simp) (fun hq => ?_) (fun hq => ?_)
     · have hj8 : j < one.length := by simp at hq; omega
       have hg : one.getD (j : Int).toNat 0 = one[j] := by simp [hj8]
       have hT : one.take (j + 1) = one.take j ++ [one[j]] := by rw [List.take_add_one, List.getElem?_eq_getElem hj8]; rfl
       have hx8 := how one[j] (List.getElem_mem hj8)
       repeat (first | refine nx ?_ | rw [hbs1] | rw [hg])
       refine W_cond rfl (by simp) (fun hr => ?_) (fun hr => ?_)
       · have hnd : isDig one[j] = false := by
           simp [isDig, Bool.cond_eq_ite] at hr ⊢
           omega
         have e : one.all isDig = false := by
           rw [Bool.eq_false_iff]
           intro h
           have := List.all_eq_true.1 h one[j] (List.getElem_mem hj8)
           rw [hnd] at this; cases this
         rw [e] at hval
         rw [frT_none (hbd hval)]
         repeat refine nx ?_
         refine N_retU [] rfl (by simp) (r' := .tup [I64 [], lv (.int .i64 6)]) ⟨.inr ⟨rfl, .inl ⟨_, rfl⟩⟩, .inl rfl, trivial⟩ ⟨rfl, trivial, trivial, rfl⟩ hb rfl trivial
       · have hnd : isDig one[j] = true := by
           simp [isDig, Bool.cond_eq_ite] at hr ⊢
           omega
         have h2 : 48 ≤ one[j] ∧ one[j] ≤ 57 := by simpa [isDig] using hnd
         have hd : decV (one.take (j + 1)) = 10 * V + (one[j] - 48).toNat := by rw [hT, decV_snoc, hV]
         have hz : ((decV (one.take (j + 1)) : Nat) : Int) = 10 * (V : Int) + one[j] - 48 := by rw [hd]; omega
         repeat (first | refine nx ?_ | rw [hbs1] | rw [hg])
         refine N_round ⟨j + 1, by omega, by rw [hT, List.all_append, hall]; simp [hnd]⟩ (by dsimp only; omega) ?_
         dsimp only
         rw [hz]
         exact St.le_of ⟨⟨rfl, rfl, rfl, rfl, rfl, rfl⟩, rfl⟩
     · have : j = one.length := by simp at hq; omega
       subst this
       rw [List.take_length] at hall hV
       rw [hall, if_pos rfl, hV] at hval
       have hnext := hnx V hval
       have hlen2 : o.length + 1 = (o ++ [(V : Int)]).length := by simp
       repeat refine nx ?_
       refine N_round ⟨(i + 1, [], o ++ [(V : Int)]), hnext⟩ (by dsimp only; omega) ?_
       exact St.le_of ⟨⟨rfl, by first | rfl | exact congrArg (fun k => Av.c (Cell.own 95 1 0 k)) hlen2, rfl, rfl⟩, rfl⟩
 · have hil : ¬ i ≤ l.length := by simpa using hc
   have ho := h.done hil
   have h20 := refRight_ok o (by omega)
   rw [frT_some ho]
   refine frzW 4 ?_
   repeat refine nx ?_
   refine W_cond rfl (by simp) (fun hr => ?_) (fun hr => ?_)
   · have hR : rightO o = false := by simpa using hr
     rw [hR, if_neg (by simp)]
     repeat refine nx ?_
     refine N_retU [] rfl (by simp) (r' := .tup [I64 [], lv (.int .i64 1)]) ⟨.inr ⟨rfl, .inl ⟨_, rfl⟩⟩, .inl rfl, trivial⟩ ⟨rfl, trivial, trivial, rfl⟩ hb rfl trivial
   · have hR : rightO o = true := by simpa using hr
     rw [hR, if_pos rfl]
     repeat refine nx ?_
     exact rt1 []

theorem wfb_take {l : List Int} (h : WfB l) (n : Nat) : WfB (l.take n) := fun x hx => h x (List.mem_of_mem_take hx)
theorem frT_cases (l : List Int) : (∃ o, frT l = (o, 0) ∧ rightO o = true ∧ textO refS o = l) ∨ (∃ e, frT l = ([], e) ∧ e ≠ 0) := by
 rcases h : numsT (splitP l) with _ | o
 · exact .inr ⟨6, frT_none h, by decide⟩
 · have h2 := frT_some h
   by_cases hr : rightO o = true
   · rw [if_pos hr] at h2
     exact .inl ⟨o, h2, frT_back h2⟩
   · rw [if_neg hr] at h2
     exact .inr ⟨1, h2, by decide⟩
set_option maxHeartbeats 4000000 in
theorem oidTexts_ok (t0 : ByteArray) (ht0 : t0.size ≤ 9223372036854775807) : CtG Tryd.prog Gp 3 [lv (.string t0)] [] (lv (.bool true)) [] [] := by
 obtain ⟨m0, rfl, hwm0, hm0⟩ := str_of t0
 rw [← hm0] at ht0
 have hsz0 : (strOfNums m0).size = m0.length := strOfNums_size m0
 have hm : (m0.take (min (m0.length : Int) 500).toNat).length ≤ 500 := by simp; omega
 have hwm := wfb_take hwm0 (min (m0.length : Int) 500).toNat
 have hex : (strOfNums m0).extract 0 (min (m0.length : Int) 500).toNat = strOfNums (m0.take (min (m0.length : Int) 500).toNat) := by
   rw [ext_str, List.drop_zero]
 have hk := known04_ok
 refine CtG_intro Tryd.func3 rfl rfl rfl rfl rfl (fun E hn hb hG hM => ?_)
 have hGs : ∀ w, Keep E.w0 E.M w → Gp w := fun w hk => Gp_keep (fun g hg => by obtain ⟨i, hi, _⟩ := hM g hg; simp at hi) hG hk
 repeat (first | refine nx ?_ | rw [hsz0] | rw [hex])
 generalize m0.take (min (m0.length : Int) 500).toNat = m at *
 have h5 := ofromText_ok m (by omega) hwm
 have h6 := rfromText_ok m (by omega) hwm
 rcases frT_cases m with ⟨o, hf, hr, ht⟩ | ⟨e, hf, he⟩
 · have hro := right_len hr
   have hsm := refSame_ok o o (by omega) (by omega)
   rw [show decide (o = o) = true from decide_eq_true rfl] at hsm
   have htx := text_ofG o hr
   rw [ht] at htx
   rw [hf] at h5 h6
   repeat refine nx ?_
   refine s_callG [] htx hGs rfl rfl (by rw [hn]; rfl) rfl rfl (by trivial) ⟨rfl, trivial, trivial, rfl⟩ ?_
   repeat refine nx ?_
   refine rt2 [] ?_ ?_
   · refine congrArg (fun x => lv (.bool x)) ?_
     simp
   · trivial
 · have hsm := refSame_ok [] [] (by simp) (by simp)
   rw [show decide (([] : List Int) = []) = true from decide_eq_true rfl] at hsm
   have htx := text_err [] (by simp) rfl
   have he2 : (e != 0) = true := by simpa using he
   rw [hf] at h5 h6
   repeat refine nx ?_
   refine rt2 [] ?_ ?_
   · refine congrArg (fun x => lv (.bool x)) ?_
     simp [he]
   · trivial
end Go.Proofs.YtohfhephkjihfaaDoor

/-
  Chapter 04's law OidTexts, walked: it returns true. The conditions: a text that a machine can hold; the package's table of powers of ten is laid.
-/
import Derived.Test.YtohfhephkjihfaaDoorO18
import Derived.Test.YtohfhephkjihfaaDoorO13
namespace Go.Proofs.YtohfhephkjihfaaDoor
set_option linter.unusedSimpArgs false
set_option linter.unusedVariables false
open Go Go.Sx
set_option maxRecDepth 10000
abbrev strL1 (b : ByteArray) : List Leaf := [.v (.string b)]
abbrev prtR (ps : List (List Int)) : Av := .c (.lf (.recs 1 ((ps.map strOfNums).map strL1)))
theorem count_le46 : ∀ l : List Int, l.count 46 ≤ l.length := fun l => List.count_le_length
structure SplI (l r : List Int) (rs : List ByteArray) (i : Nat) : Prop where
 wf : WfB r
 le : r.length ≤ l.length
 len : rs.length = (splitP l).length
 eq : ∃ done, done.length = i ∧ splitP l = done ++ splitP r ∧ rs.take i = done.map strOfNums
theorem SplI.next {l r : List Int} {rs : List ByteArray} {i k : Nat} (h : SplI l r rs i) (hk : ptI r = k) : SplI l (r.drop (k + 1)) (rs.set i (strOfNums (r.take k))) (i + 1) := by
 obtain ⟨done, e1, e2, e3⟩ := h.eq
 have hs := splitP_at hk
 have hil : i < rs.length := by
   rw [h.len, e2, List.length_append, hs]
   simp; omega
 refine ⟨fun x hx => h.wf x (List.mem_of_mem_drop hx), by have := h.le; simp; omega, by rw [List.length_set]; exact h.len, done ++ [r.take k], by simp [e1], by rw [e2, hs]; simp, ?_⟩
 rw [List.take_add_one, List.getElem?_set_self hil, List.take_set_of_le (Nat.le_refl i), e3]
 simp
theorem SplI.last {l r : List Int} {rs : List ByteArray} {i : Nat} (h : SplI l r rs i) (hi : i + 1 = rs.length) : rs.set i (strOfNums r) = (splitP l).map strOfNums := by
 obtain ⟨done, e1, e2, e3⟩ := h.eq
 have hlen := h.len
 rw [e2, List.length_append] at hlen
 have h1 : (splitP r).length = 1 := by omega
 have h2 : splitP r = [r] := by
   rcases Int.lt_or_le (ptI r) 0 with h3 | h3
   · exact splitP_no h3
   · obtain ⟨k, hk⟩ : ∃ k : Nat, ptI r = k := ⟨(ptI r).toNat, by omega⟩
     rw [splitP_at hk, List.length_cons] at h1
     exact absurd (List.eq_nil_of_length_eq_zero (show (splitP (r.drop (k + 1))).length = 0 by omega)) (splitP_ne _)
 rw [e2, h2, List.map_append, ← e3]
 have h4 : rs = rs.take i ++ rs.drop i := (List.take_append_drop i rs).symm
 have h5 : (rs.set i (strOfNums r)) = rs.take i ++ strOfNums r :: rs.drop (i + 1) := by
   rw [List.set_eq_take_append_cons_drop, if_pos (by omega)]
 rw [h5, List.drop_eq_nil_of_le (by omega)]
 rfl
set_option maxHeartbeats 8000000 in
theorem gsplit_ok (l : List Int) (hl : l.length ≤ 100000) (hw : WfB l) : Ct Tryd.prog 40 [strA l, lv (.string dotS), lv (.int .i64 0), lv (.int .i64 (-1))] [] (prtR (splitP l)) [] [] := by
 have hd : (dotS.size : Int) = 1 := rfl
 have he : (dotS.toList == (ByteArray.mk #[]).toList) = false := by
   rw [show dotS = strOfNums [46] from rfl, show ByteArray.mk #[] = strOfNums [] from rfl, byte_string_eq [46] [] (fun x hx => by simp at hx; omega) (fun x hx => by cases hx)]
   rfl
 have hsz : ((strOfNums l).size : Int) = l.length := by rw [strOfNums_size]
 have h1 := count46_ok l (by omega) hw
 have hlen := splitP_len l
 have hcl := count_le46 l
 have hmin : min (((l.count 46 : Nat) : Int) + 1) ((l.length : Int) + 1) = ((splitP l).length : Int) := by omega
 generalize hN : (splitP l).length = N at *
 refine Ct_intro Tryd.func40 rfl rfl rfl rfl rfl (fun E hn hb => ?_)
 repeat (first | refine nx ?_ | rw [he])
 rw [hsz, hmin]
 repeat refine nx ?_
 refine s_makeS (u := ByteArray.mk #[]) N rfl rfl rfl (by rw [hn]; rfl) (elt_mk Tryd.underlying43 rfl rfl) (by kernel_rfl) rfl rfl (by trivial) rfl ⟨by omega, ?_⟩ ?_
 · have : (16 : Int) * (N : Int) ≤ 281474976710656 := by omega
   exact this
 repeat refine nx ?_
 have e0 : List.replicate N [Leaf.v (.string (ByteArray.mk #[]))] = (List.replicate N (ByteArray.mk #[])).map strL1 := by simp
 rw [e0]
 have hN1 : 1 ≤ N := by omega
 refine W_weaken (St.le_of (l := [(0, strA l), (1, lv (.string dotS)), (2, lv (.int .i64 0)), (3, lv (.int .i64 ((N : Int) - 1))), (9, .c (.own 95 1 0 N)), (10, lv (.int .i64 ((0 : Nat) : Int)))]) (h := [(95, .row (.recs 1 ((List.replicate N (ByteArray.mk #[])).map strL1)))]) (by refine ⟨?_, ?_⟩ <;> (repeat' (first | exact trivial | exact rfl | refine ⟨?_, ?_⟩)) <;> first | exact rfl | (simp; done) | skip)) ?_
 refine W_loop (ι := {q : List Int × List ByteArray × Nat // SplI l q.1 q.2.1 q.2.2}) (fun q => St.of [(0, strA q.1.1), (1, lv (.string dotS)), (2, lv (.int .i64 0)), (3, lv (.int .i64 ((N : Int) - 1))), (9, .c (.own 95 1 0 N)), (10, lv (.int .i64 (q.1.2.2 : Int)))] [(95, .row (.recs 1 (q.1.2.1.map strL1)))]) (fun q => N - q.1.2.2) (fun q => ?_) ⟨(l, List.replicate N (ByteArray.mk #[]), 0), ⟨hw, Nat.le_refl _, by simp [hN], [], rfl, rfl, rfl⟩⟩
 obtain ⟨⟨r, rs, i⟩, hq⟩ := q
 dsimp only at hq ⊢
 have hrl := hq.len
 have hrle := hq.le
 have hrw := hq.wf
 have hrz : (strOfNums r).size = r.length := strOfNums_size r
 rw [hN] at hrl
 have hiN : i < N := by
   obtain ⟨done, e1, e2, e3⟩ := hq.eq
   have := congrArg List.length e2
   have h2 := splitP_ne r
   have h3 : (splitP r).length ≠ 0 := fun e => h2 (List.eq_nil_of_length_eq_zero e)
   rw [hN, List.length_append] at this
   omega
 by_cases hi2 : i + 1 < N
 · have hk : 0 ≤ ptI r := by
     rcases Int.lt_or_le (ptI r) 0 with h3 | h3
     · obtain ⟨done, e1, e2, e3⟩ := hq.eq
       have := congrArg List.length e2
       rw [splitP_no h3, hN, List.length_append] at this
       simp at this
       omega
     · exact h3
   obtain ⟨k, hk⟩ : ∃ k : Nat, ptI r = k := ⟨(ptI r).toNat, by omega⟩
   have hkl := (ptI_ge r).2
   have hx := index46_ok r (by omega) hrw
   rw [hk] at hx
   have hnx := hq.next hk
   have x1 : (strOfNums r).extract 0 ((k : Int) + 0).toNat = strOfNums (r.take k) := by
     rw [ext_str, show ((k : Int) + 0).toNat = k by omega, List.drop_zero]
   have xi : 0 + (i : Int).toNat = i := by omega
   have x2 : (strOfNums r).extract ((k : Int) + 1).toNat (strOfNums r).size = strOfNums (r.drop (k + 1)) := by
     rw [ext_str, hrz, List.take_length, show ((k : Int) + 1).toNat = k + 1 by omega]
   repeat (first | refine nx ?_ | rw [hd] | rw [x1] | rw [x2] | rw [xi])
   refine N_round ⟨(r.drop (k + 1), rs.set i (strOfNums (r.take k)), i + 1), hnx⟩ (by dsimp only; omega) (St.le_of ⟨⟨rfl, rfl, rfl, rfl, rfl, rfl⟩, rfl⟩)
 · have hlast := hq.last (by omega)
   have : i + 1 = N := by omega
   subst this
   have xi : 0 + (i : Int).toNat = i := by omega
   have xj : ((i : Int) + 1).toNat = (((splitP l).map strOfNums).map strL1).length := by rw [List.length_map, List.length_map, hN]; omega
   repeat refine nx ?_
   rw [xi, xj, hlast]
   refine frzN 8 ?_
   exact rt1 []
theorem ssplit_ok (l : List Int) (hl : l.length ≤ 100000) (hw : WfB l) : Ct Tryd.prog 17 [strA l, lv (.string dotS)] [] (prtR (splitP l)) [] [] := by
 have h1 := gsplit_ok l hl hw
 refine Ct_intro Tryd.func17 rfl rfl rfl rfl rfl (fun E hn hb => ?_)
 repeat refine nx ?_
 exact rt1 []

abbrev numRes (o : Option Nat) : Av := .tup [lv (.int .i64 ((o.getD 0 : Nat) : Int)), lv (.bool o.isSome)]
theorem numT_bad {p : List Int} (h : p.length = 0 ∨ 10 < p.length ∨ (p.getD 0 0 = 48 ∧ 1 < p.length)) : numT p = none := if_pos h
theorem numT_val {p : List Int} (h : ¬ (p.length = 0 ∨ 10 < p.length ∨ (p.getD 0 0 = 48 ∧ 1 < p.length))) : numT p = if p.all isDig = true then some (decV p) else none := if_neg h
theorem decV_ten {l : List Int} (h : l.all isDig = true) (hl : l.length ≤ 10) : decV l < 10000000000 := by
 have key : ∀ (l : List Int) (a : Nat), l.all isDig = true → l.foldl (fun a x => 10 * a + (x - 48).toNat) a < (a + 1) * 10 ^ l.length := by
   intro l
   induction l with
   | nil => intro a _; simp
   | cons x l ih =>
     intro a h
     simp only [List.all_cons, Bool.and_eq_true] at h
     have hx : 48 ≤ x ∧ x ≤ 57 := by simpa [isDig] using h.1
     have := ih (10 * a + (x - 48).toNat) h.2
     have h2 : (10 * a + (x - 48).toNat + 1) * 10 ^ l.length ≤ ((a + 1) * 10) * 10 ^ l.length := Nat.mul_le_mul_right _ (by omega)
     rw [List.foldl_cons, List.length_cons, Nat.pow_succ, Nat.mul_comm (10 ^ l.length) 10, ← Nat.mul_assoc]
     omega
 have h1 := key l 0 h
 have h2 : 10 ^ l.length ≤ 10 ^ 10 := Nat.pow_le_pow_right (by omega) hl
 have h3 : decV l < 10 ^ l.length := by simpa [decV] using h1
 omega
set_option maxHeartbeats 4000000 in
theorem onum_ok (p : List Int) (hl : p.length ≤ 100000) (hw : WfB p) : Ct Tryd.prog 18 [strA p] [] (numRes (numT p)) [] [] := by
 have hsz : (strOfNums p).size = p.length := strOfNums_size p
 have hbs := bs_str hw
 refine Ct_intro Tryd.func18 rfl rfl rfl rfl rfl (fun E hn hb => ?_)
 repeat (refine nst ?_)
 rw [hsz]
 refine sg true rfl rfl rfl (by rw [hn]; rfl) ?_ ?_
 · intro hG
   have hG2 : (!(bif ((p.length : Int) == 0) then true else decide (10 < (p.length : Int)))) = true := hG
   have h0 : 0 < p.length := by
     rcases Nat.eq_zero_or_pos p.length with h | h
     · rw [h] at hG2; simp at hG2
     · exact h
   refine ⟨hG2, Tryd.underlying9, by decide, ?_⟩
   show (0 : Int) < ((strOfNums p).size : Int)
   rw [hsz]
   exact Int.ofNat_lt.2 h0
 repeat (refine nst ?_)
 rw [hbs]
 generalize hc1 : (p.getD (Int.toNat 0) 0 == 48) = c1
 generalize hc2 : decide (1 < ((strOfNums p).size : Int)) = c2
 generalize hc0 : ((p.length : Int) == 0) = c0
 generalize hc3 : decide (10 < (p.length : Int)) = c3
 refine sg true rfl rfl rfl (by rw [hn]; rfl) ?_ ?_
 · intro hG
   cases c0 <;> cases c1 <;> cases c2 <;> cases c3 <;> simp at hG ⊢
 refine sp true rfl rfl (by rw [hn]; rfl) ?_ ?_
 · cases c0 <;> cases c1 <;> cases c2 <;> cases c3 <;> simp
 repeat (refine nst ?_)
 refine W_cond rfl (by simp) (fun hq => ?_) (fun hq => ?_)
 · have hbad : p.length = 0 ∨ 10 < p.length ∨ (p.getD 0 0 = 48 ∧ 1 < p.length) := by
     subst hc0 hc1 hc2 hc3
     rw [hsz] at hq
     have hm : (if p.length = 0 ∨ 10 < p.length ∨ (p.getD 0 0 = 48 ∧ 1 < p.length) then true else false) = true := by
       rw [← hq]
       by_cases a0 : p.length = 0 <;> by_cases a1 : 10 < p.length <;> by_cases a2 : p.getD 0 0 = 48 <;> by_cases a3 : 1 < p.length <;> simp [a0, a1, a2, a3, -List.getD_eq_getElem?_getD, -List.length_eq_zero_iff] <;> omega
     simpa using hm
   rw [numT_bad hbad]
   repeat (refine nst ?_)
   exact rt1 []
 have hgood : ¬ (p.length = 0 ∨ 10 < p.length ∨ (p.getD 0 0 = 48 ∧ 1 < p.length)) := by
   subst hc0 hc1 hc2 hc3
   rw [hsz] at hq
   intro hm
   rw [show (bif bif ((p.length : Int) == 0) then true else decide (10 < (p.length : Int)) then true else bif p.getD (Int.toNat 0) 0 == 48 then decide (1 < (p.length : Int)) else false) = true from ?_] at hq
   · cases hq
   · rcases hm with h | h | ⟨h, h2⟩
     · rw [h]; rfl
     · rw [show decide (10 < (p.length : Int)) = true by simp; omega]; cases ((p.length : Int) == 0) <;> rfl
     · rw [show (p.getD (Int.toNat 0) 0 == 48) = true by rw [show Int.toNat 0 = 0 from rfl, h]; rfl, show decide (1 < (p.length : Int)) = true by simp; omega]; cases ((p.length : Int) == 0) <;> cases decide (10 < (p.length : Int)) <;> rfl
 rw [numT_val hgood]
 clear hc0 hc1 hc2 hc3 hq
 have h10 : p.length ≤ 10 := by omega
 repeat (refine nst ?_)
 refine WL_q (opq_of (opy_bytes rfl Tryd.underlying9 Tryd.underlying33 Tryd.underlying5 rfl (by exact vcs) (by simp [maxLen]; omega)) rfl) (by rw [hn]; rfl) ?_
 rw [hbs]
 repeat (refine nst ?_)
 refine W_weaken (St.le_of (l := [(0, strA p), (4, lv (.int .i64 ((decV (p.take 0) : Nat) : Int))), (26, B8 p), (27, lv (.int .i64 (p.length : Int))), (28, lv (.int .i64 ((0 : Nat) : Int)))]) (h := []) (by refine ⟨?_, ?_⟩ <;> (repeat' (first | exact trivial | exact rfl | refine ⟨?_, ?_⟩)) <;> first | exact rfl | (simp; done) | skip)) ?_
 refine W_loop (ι := {i : Nat // i ≤ p.length ∧ (p.take i).all isDig = true}) (fun i => St.of [(0, strA p), (4, lv (.int .i64 ((decV (p.take i.1) : Nat) : Int))), (26, B8 p), (27, lv (.int .i64 (p.length : Int))), (28, lv (.int .i64 (i.1 : Int)))] []) (fun i => p.length - i.1) (fun i => ?_) ⟨0, by omega, rfl⟩
 obtain ⟨i, hi, hall⟩ := i
 dsimp only
 have hv := decV_ten hall (by rw [List.length_take]; omega)
 generalize hV : decV (p.take i) = V at *
 repeat (refine nst ?_)
 refine W_cond rfl (by simp) (fun hq => ?_) (fun hq => ?_)
 · have hi8 : i < p.length := by simp at hq; omega
   have hg : p.getD (i : Int).toNat 0 = p[i] := by simp [hi8]
   have hT : p.take (i + 1) = p.take i ++ [p[i]] := by rw [List.take_add_one, List.getElem?_eq_getElem hi8]; rfl
   have hx := hw p[i] (List.getElem_mem hi8)
   repeat (refine nst ?_)
   rw [hg]
   repeat (refine nst ?_)
   refine W_cond rfl (by simp) (fun hr => ?_) (fun hr => ?_)
   · have hnd : isDig p[i] = false := by
       simp [isDig, Bool.cond_eq_ite] at hr ⊢
       omega
     have e : p.all isDig = false := by
       rw [Bool.eq_false_iff]
       intro h
       have := List.all_eq_true.1 h p[i] (List.getElem_mem hi8)
       rw [hnd] at this; cases this
     rw [e]
     repeat (refine nst ?_)
     exact rt1 []
   · have hnd : isDig p[i] = true := by
       simp [isDig, Bool.cond_eq_ite] at hr ⊢
       omega
     have h2 : 48 ≤ p[i] ∧ p[i] ≤ 57 := by simpa [isDig] using hnd
     have hd : decV (p.take (i + 1)) = 10 * V + (p[i] - 48).toNat := by rw [hT, decV_snoc, hV]
     have hz : ((decV (p.take (i + 1)) : Nat) : Int) = 10 * (V : Int) + (p[i] - 48) := by rw [hd]; omega
     repeat (refine nst ?_)
     refine N_round ⟨i + 1, by omega, by rw [hT, List.all_append, hall]; simp [hnd]⟩ (by dsimp only; omega) ?_
     dsimp only
     rw [hz]
     exact St.le_of ⟨⟨rfl, rfl, rfl, rfl, rfl⟩, trivial⟩
 · have : i = p.length := by simp at hq; omega
   subst this
   rw [List.take_length] at hall hV
   rw [hall, if_pos rfl, hV]
   repeat (refine nst ?_)
   exact rt1 []

theorem splitP_wf : ∀ {l : List Int}, WfB l → ∀ p ∈ splitP l, WfB p ∧ p.length ≤ l.length
 | [], _, p, hp => by
   simp [splitP] at hp
   subst hp
   exact ⟨fun x hx => (by cases hx), Nat.le_refl _⟩
 | x :: l, h, p, hp => by
   have ih := splitP_wf (l := l) fun y hy => h y (List.mem_cons_of_mem _ hy)
   rw [splitP] at hp
   by_cases h1 : x = 46
   · rw [if_pos h1] at hp
     rcases List.mem_cons.1 hp with rfl | hp
     · exact ⟨fun x hx => (by cases hx), by simp⟩
     · have := ih p hp
       exact ⟨this.1, by simp only [List.length_cons]; omega⟩
   · rw [if_neg h1] at hp
     have hne := splitP_ne l
     match hs : splitP l, hne with
     | q :: qs, _ =>
       rw [hs] at hp ih
       dsimp only at hp
       rcases List.mem_cons.1 hp with rfl | hp
       · have := ih q (List.mem_cons_self ..)
         refine ⟨fun y hy => ?_, by simp only [List.length_cons]; omega⟩
         rcases List.mem_cons.1 hy with rfl | hy
         · exact h y (List.mem_cons_self ..)
         · exact this.1 y hy
       · have := ih p (List.mem_cons_of_mem _ hp)
         exact ⟨this.1, by simp only [List.length_cons]; omega⟩
theorem numsT_len : ∀ {ps : List (List Int)} {o : List Int}, numsT ps = some o → o.length = ps.length := fun {ps o} h => by
 have := (numsT_back h).1
 rw [← this, List.length_map]
theorem numsT_bad {ps : List (List Int)} {p : List Int} (hp : p ∈ ps) (h : numT p = none) : numsT ps = none := by
 induction ps with
 | nil => cases hp
 | cons q ps ih =>
   rw [numsT]
   rcases List.mem_cons.1 hp with rfl | hp
   · rw [h]
   · rw [ih hp]; cases numT q <;> rfl
theorem numsT_snoc : ∀ {ps : List (List Int)} {o : List Int} {p : List Int} {n : Nat}, numsT ps = some o → numT p = some n → numsT (ps ++ [p]) = some (o ++ [(n : Int)])
 | [], o, p, n, h, h2 => by
   simp [numsT] at h
   subst h
   simp [numsT, h2]
 | q :: ps, o, p, n, h, h2 => by
   rw [numsT] at h
   cases h1 : numT q with
   | none => rw [h1] at h; cases h
   | some m =>
     rw [h1] at h
     cases h3 : numsT ps with
     | none => rw [h3] at h; cases h
     | some ns =>
       rw [h3] at h
       have h := Option.some.inj h
       subst h
       rw [List.cons_append, numsT, h1, numsT_snoc h3 h2]
       rfl
theorem frT_none {l : List Int} (h : numsT (splitP l) = none) : frT l = ([], 6) := by rw [frT, h]
theorem frT_some {l o : List Int} (h : numsT (splitP l) = some o) : frT l = if rightO o = true then (o, 0) else ([], 1) := by rw [frT, h]
abbrev frRes (q : List Int × Int) : Av := .tup [I64 q.1, lv (.int .i64 q.2)]
set_option maxHeartbeats 4000000 in
theorem ofromText_ok (l : List Int) (hl : l.length ≤ 100000) (hw : WfB l) : Ct Tryd.prog 5 [strA l] [] (frRes (frT l)) [] [] := by
 have hsp := ssplit_ok l hl hw
 have hlen := splitP_len l
 have hcl := count_le46 l
 have hpw := splitP_wf hw
 generalize hP : splitP l = P at *
 refine Ct_intro Tryd.func5 rfl rfl rfl rfl rfl (fun E hn hb => ?_)
 repeat refine nx ?_
 have hpl : (((P.map strOfNums).map strL1).length : Int) = (P.length : Int) := by simp
 rw [hpl]
 refine W_own_nil 4 95 1 (.ints .i64 []) rfl rfl (.inr (.inl ⟨_, rfl⟩)) ?_
 refine W_weaken (St.le_of (l := [(4, .c (.own 95 1 0 ([] : List Int).length)), (10, prtR P), (11, lv (.int .i64 (P.length : Int))), (12, lv (.int .i64 ((0 : Nat) : Int)))]) (h := [(95, .row (.ints .i64 []))]) (by refine ⟨?_, ?_⟩ <;> (repeat' (first | exact trivial | exact rfl | refine ⟨?_, ?_⟩)) <;> first | exact rfl | (simp; done) | skip)) ?_
 refine W_loop (ι := {q : Nat × List Int // q.1 ≤ P.length ∧ numsT (P.take q.1) = some q.2}) (fun q => St.of [(4, .c (.own 95 1 0 q.1.2.length)), (10, prtR P), (11, lv (.int .i64 (P.length : Int))), (12, lv (.int .i64 (q.1.1 : Int)))] [(95, .row (.ints .i64 q.1.2))]) (fun q => P.length - q.1.1) (fun q => ?_) ⟨(0, []), by dsimp only; omega, rfl⟩
 obtain ⟨⟨i, o⟩, hi, ho⟩ := q
 dsimp only at hi ho ⊢
 have hol := numsT_len ho
 rw [List.length_take] at hol
 repeat refine nx ?_
 refine W_cond rfl (by simp) (fun hc => ?_) (fun hc => ?_)
 · have hi2 : i < P.length := by simpa using hc
   have hpi := hpw P[i] (List.getElem_mem hi2)
   have hnu := onum_ok P[i] (by omega) hpi.1
   have hx : (List.map strOfNums P).getD (i : Int).toNat default = strOfNums P[i] := by
     simp [List.getD_eq_getElem?_getD, List.getElem?_eq_getElem hi2]
   repeat (first | refine nx ?_ | rw [hx])
   refine W_cond rfl (by simp) (fun hr => ?_) (fun hr => ?_)
   · have hno : numT P[i] = none := by simpa using hr
     rw [frT_none (by rw [hP]; exact numsT_bad (List.getElem_mem hi2) hno)]
     repeat refine nx ?_
     refine N_retU [] rfl (by simp) (r' := .tup [I64 [], lv (.int .i64 6)]) ⟨.inr ⟨rfl, .inl ⟨_, rfl⟩⟩, .inl rfl, trivial⟩ ⟨rfl, trivial, trivial, rfl⟩ hb rfl trivial
   · obtain ⟨n, hno⟩ : ∃ n, numT P[i] = some n := by
       cases h : numT P[i] with
       | none => rw [h] at hr; simp at hr
       | some n => exact ⟨n, rfl⟩
     rw [hno]
     have hT : P.take (i + 1) = P.take i ++ [P[i]] := by rw [List.take_add_one, List.getElem?_eq_getElem hi2]; rfl
     have hs := numsT_snoc ho hno
     rw [← hT] at hs
     repeat refine nx ?_
     have hlen2 : o.length + 1 = (o ++ [(n : Int)]).length := by simp
     refine N_round ⟨(i + 1, o ++ [(n : Int)]), by dsimp only; omega, hs⟩ (by dsimp only; omega) ?_
     exact St.le_of ⟨⟨by first | rfl | exact congrArg (fun k => Av.c (Cell.own 95 1 0 k)) hlen2, rfl, rfl, rfl⟩, rfl⟩
 · have hi2 : i = P.length := by simp at hc; omega
   subst hi2
   rw [List.take_length] at ho
   have h19 := oright_ok o (by omega)
   rw [frT_some (by rw [hP]; exact ho)]
   refine frzW 4 ?_
   repeat refine nx ?_
   refine W_cond rfl (by simp) (fun hr => ?_) (fun hr => ?_)
   · have hR : rightO o = false := by simpa using hr
     rw [hR, if_neg (by simp)]
     repeat refine nx ?_
     refine N_retU [] rfl (by simp) (r' := .tup [I64 [], lv (.int .i64 1)]) ⟨.inr ⟨rfl, .inl ⟨_, rfl⟩⟩, .inl rfl, trivial⟩ ⟨rfl, trivial, trivial, rfl⟩ hb rfl trivial
   · have hR : rightO o = true := by simpa using hr
     rw [hR, if_pos rfl]
     repeat refine nx ?_
     exact rt1 []

theorem get_drop {l : List Int} {i : Nat} (h : i < l.length) : l.drop i = l.getD i 0 :: l.drop (i + 1) := by
 rw [List.drop_eq_getElem_cons h, List.getD_eq_getElem?_getD, List.getElem?_eq_getElem h]
 rfl
structure RdI (l : List Int) (i : Nat) (one o : List Int) : Prop where
 le : i ≤ l.length + 1
 begun : one.length ≤ i ∧ WfB one ∧ (∀ x ∈ one, x ≠ 46)
 eq : ∃ done, numsT done = some o ∧ ((i ≤ l.length ∧ splitP l = done ++ splitP (one ++ l.drop i)) ∨ (i = l.length + 1 ∧ splitP l = done))
theorem RdI.zero (l : List Int) : RdI l 0 [] [] := ⟨by omega, ⟨by simp, fun x hx => (by cases hx), fun x hx => (by cases hx)⟩, [], rfl, .inl ⟨by omega, by simp⟩⟩
theorem RdI.len {l one o : List Int} {i : Nat} (h : RdI l i one o) : o.length ≤ l.length + 1 := by
 obtain ⟨done, h1, h2⟩ := h.eq
 have := numsT_len h1
 have h3 := splitP_len l
 have h4 := count_le46 l
 rcases h2 with ⟨_, h2⟩ | ⟨_, h2⟩ <;> rw [h2] at h3
 · rw [List.length_append] at h3; omega
 · omega
theorem RdI.step {l one o : List Int} {i : Nat} (hw : WfB l) (h : RdI l i one o) (hi : i < l.length) (hx : l.getD i 0 ≠ 46) : RdI l (i + 1) (one ++ [l.getD i 0]) o := by
 obtain ⟨done, h1, h2⟩ := h.eq
 obtain ⟨o1, o2, o3⟩ := h.begun
 have hm : l.getD i 0 ∈ l := by rw [List.getD_eq_getElem?_getD, List.getElem?_eq_getElem hi]; exact List.getElem_mem hi
 refine ⟨by omega, ⟨by simp; omega, fun x hx2 => ?_, fun x hx2 => ?_⟩, done, h1, ?_⟩
 · rcases List.mem_append.1 hx2 with h | h
   · exact o2 x h
   · rw [List.mem_singleton.1 h]; exact hw _ hm
 · rcases List.mem_append.1 hx2 with h | h
   · exact o3 x h
   · rw [List.mem_singleton.1 h]; exact hx
 · rcases h2 with ⟨_, h2⟩ | ⟨h2, _⟩
   · rw [get_drop hi] at h2
     exact .inl ⟨by omega, by rw [h2]; simp⟩
   · omega
theorem RdI.next {l one o : List Int} {i n : Nat} (h : RdI l i one o) (hi : i ≤ l.length) (hx : ¬ (i < l.length ∧ l.getD i 0 ≠ 46)) (hb : numT one = some n) : RdI l (i + 1) [] (o ++ [(n : Int)]) := by
 obtain ⟨done, h1, h2⟩ := h.eq
 obtain ⟨o1, o2, o3⟩ := h.begun
 refine ⟨by omega, ⟨by simp, fun x hx => (by cases hx), fun x hx => (by cases hx)⟩, done ++ [one], numsT_snoc h1 hb, ?_⟩
 rcases h2 with ⟨_, h2⟩ | ⟨h2, _⟩
 · by_cases h3 : i < l.length
   · have h4 : l.getD i 0 = 46 := Decidable.byContradiction fun h4 => hx ⟨h3, h4⟩
     rw [get_drop h3, h4, split_app _ o3] at h2
     exact .inl ⟨by omega, by rw [h2]; simp⟩
   · rw [List.drop_eq_nil_of_le (by omega), List.append_nil, split_part o3] at h2
     exact .inr ⟨by omega, h2⟩
 · omega
theorem RdI.done {l one o : List Int} {i : Nat} (h : RdI l i one o) (hi : ¬ i ≤ l.length) : numsT (splitP l) = some o := by
 obtain ⟨done, h1, h2⟩ := h.eq
 rcases h2 with ⟨h2, _⟩ | ⟨_, h2⟩
 · omega
 · rw [h2]; exact h1

theorem wfb_take {l : List Int} (h : WfB l) (n : Nat) : WfB (l.take n) := fun x hx => h x (List.mem_of_mem_take hx)
end Go.Proofs.YtohfhephkjihfaaDoor

/-
  Chapter 03: numbers as text, the program's way: in a row's latter part. The conditions: rows of at most a million bytes.
-/
import Derived.Test.YtppmfjopokkhmaaW10
namespace Go.Proofs.Ytppmfjopokkhmaa
set_option linter.unusedSimpArgs false
set_option linter.unusedVariables false
open Go.Sx

set_option maxRecDepth 10000

theorem getD_off (p A B : List Int) (i : Nat) : (p ++ (A ++ B)).getD (p.length + i) 0 = (A ++ B).getD i 0 := by
  simp [List.getD_eq_getElem?_getD, List.getElem?_append_right]
theorem set_off (p A : List Int) (i : Nat) (x : Int) : (p ++ A).set (p.length + i) x = p ++ A.set i x := by
  rw [List.set_append_right _ _ (by omega)]
  congr 2
  omega

theorem trim_at (p l : List Int) (hl : p.length + l.length ≤ 1000000) : Ct Try.prog 71 [.c (.own 0 1 p.length l.length)] [.row (.ints .u8 (p ++ l))] (.c (.own 0 1 (p.length + (l.length - (trimL l).length)) (trimL l).length)) [.row (.ints .u8 (p ++ l))] [] := by
  refine Ct_intro Try.func71 rfl rfl rfl rfl rfl (fun E hn hb => ?_)
  repeat (first | refine W_seq ?_ | refine W_region ?_ | refine W_block ?_ | refine W_skip ?_ | refine W_ret ?_ | refine W_exit ?_ | refine WL_nil ?_ | refine N_then ?_ | refine N_then_exit ?_ | refine N_then_ret ?_ | refine N_block ?_ | refine N_block_ret ?_ | refine N_block_exit ?_ | refine N_block_pass rfl ?_ | refine sp true rfl rfl (by rw [hn]; rfl) (by first | trivial | (simp; done) | (simp; omega) | (simp at *; done) | (simp at *; omega)) ?_ | refine sg true rfl rfl rfl (by rw [hn]; rfl) (by intro hG; first | trivial | (simp; done) | (simp; omega) | (simp at *; done) | (simp at *; omega)) ?_)
  refine W_weaken (St.le_of (l := [(0, .c (.own 0 1 p.length l.length))]) (h := [(0, .row (.ints .u8 (p ++ l)))]) (by refine ⟨?_, ?_⟩ <;> (repeat' (first | exact trivial | exact rfl | refine ⟨?_, ?_⟩)) <;> first | exact rfl | (simp; done) | skip)) ?_
  refine W_weaken (τ := St.of [(0, .c (.own 0 1 (p.length + (l.length - l.length)) l.length))] [(0, .row (.ints .u8 (p ++ l)))]) ?_ ?_
  · rw [Nat.sub_self, Nat.add_zero]; exact ⟨fun _ => .inl rfl, fun _ => .inl rfl⟩
  refine W_loop (ι := {l' : List Int // trimL l' = trimL l ∧ ∃ q, l = q ++ l'}) (fun i => St.of [(0, .c (.own 0 1 (p.length + (l.length - i.1.length)) i.1.length))] [(0, .row (.ints .u8 (p ++ l)))]) (fun i => i.1.length) (fun i => ?_) ⟨l, rfl, [], rfl⟩
  obtain ⟨l', he, q, hq⟩ := i
  dsimp only
  have hql : l.length = q.length + l'.length := by rw [hq]; simp
  have hg : ∀ x t, l' = x :: t → (p ++ l).getD (p.length + (l.length - l'.length) + Int.toNat 0) 0 = x := by
    intro x t h
    rw [hql, hq, h]
    simp [List.getD_eq_getElem?_getD, List.getElem?_append_right]
  repeat (first | refine W_seq ?_ | refine W_region ?_ | refine W_block ?_ | refine W_skip ?_ | refine W_ret ?_ | refine W_exit ?_ | refine WL_nil ?_ | refine N_then ?_ | refine N_then_exit ?_ | refine N_then_ret ?_ | refine N_block ?_ | refine N_block_ret ?_ | refine N_block_exit ?_ | refine N_block_pass rfl ?_ | refine sp true rfl rfl (by rw [hn]; rfl) (by first | trivial | (simp; done) | (simp; omega) | (simp at *; done) | (simp at *; omega)) ?_ | refine sg true rfl rfl rfl (by rw [hn]; rfl) (by intro hG; first | trivial | (simp; done) | (simp; omega) | (simp at *; done) | (simp at *; omega)) ?_)
  refine W_cond rfl (by simp) (fun hc => ?_) (fun hc => ?_)
  · match l', hc, hg, hql, he, hq with
    | x :: l', hc, hg, hql, he, hq =>
    have hx0 : x = 0 := by
      rw [hg x l' rfl] at hc
      simp [Bool.cond_eq_ite] at hc
      exact hc
    subst hx0
    have e1 : trimL (0 :: l') = trimL l' := by simp [trimL]
    have e2 : l = (q ++ [0]) ++ l' := by rw [hq]; simp
    have hq2 : (0 :: l').length = l'.length + 1 := rfl
    repeat (first | refine W_seq ?_ | refine W_region ?_ | refine W_block ?_ | refine W_skip ?_ | refine W_ret ?_ | refine W_exit ?_ | refine WL_nil ?_ | refine N_then ?_ | refine N_then_exit ?_ | refine N_then_ret ?_ | refine N_block ?_ | refine N_block_ret ?_ | refine N_block_exit ?_ | refine N_block_pass rfl ?_ | refine sp true rfl rfl (by rw [hn]; rfl) (by first | trivial | (simp; done) | (simp; omega) | (simp at *; done) | (simp at *; omega)) ?_ | refine sg true rfl rfl rfl (by rw [hn]; rfl) (by intro hG; first | trivial | (simp; done) | (simp; omega) | (simp at *; done) | (simp at *; omega)) ?_)
    refine N_round ⟨l', by rw [← e1]; exact he, q ++ [0], e2⟩ (by simp) (St.le_of ⟨?_, rfl⟩)
    refine congrArg Av.c (congr (congrArg (Cell.own 0 1) ?_) ?_)
    · have h1 : (1 : Int).toNat = 1 := rfl
      simp only [h1, hq2]
      omega
    · simp
  · have hl' : l' = trimL l := by
      rw [← he]
      match l', hc, hg with
      | [], _, _ => rfl
      | x :: t, hc, hg =>
        rw [hg x t rfl] at hc
        simp [Bool.cond_eq_ite] at hc
        simp [trimL, hc]
    repeat (first | refine W_seq ?_ | refine W_region ?_ | refine W_block ?_ | refine W_skip ?_ | refine W_ret ?_ | refine W_exit ?_ | refine WL_nil ?_ | refine N_then ?_ | refine N_then_exit ?_ | refine N_then_ret ?_ | refine N_block ?_ | refine N_block_ret ?_ | refine N_block_exit ?_ | refine N_block_pass rfl ?_ | refine sp true rfl rfl (by rw [hn]; rfl) (by first | trivial | (simp; done) | (simp; omega) | (simp at *; done) | (simp at *; omega)) ?_ | refine sg true rfl rfl rfl (by rw [hn]; rfl) (by intro hG; first | trivial | (simp; done) | (simp; omega) | (simp at *; done) | (simp at *; omega)) ?_)
    refine N_retN [] rfl trivial ⟨?_, rfl, trivial, rfl⟩ hb rfl (by simp [ordL])
    rw [hl']; rfl

theorem tenth_at (p l : List Int) (hl : p.length + l.length ≤ 1000000) (hw : WfB l) : Ct Try.prog 72 [.c (.own 0 1 p.length l.length)] [.row (.ints .u8 (p ++ l))] (lv (.int .u8 (tenC 0 l).2)) [.row (.ints .u8 (p ++ (tenC 0 l).1))] [] := by
  refine Ct_intro Try.func72 rfl rfl rfl rfl rfl (fun E hn hb => ?_)
  repeat (first | refine W_seq ?_ | refine W_region ?_ | refine W_block ?_ | refine W_skip ?_ | refine W_ret ?_ | refine W_exit ?_ | refine WL_nil ?_ | refine N_then ?_ | refine N_then_exit ?_ | refine N_then_ret ?_ | refine N_block ?_ | refine N_block_ret ?_ | refine N_block_exit ?_ | refine N_block_pass rfl ?_ | refine sp true rfl rfl (by rw [hn]; rfl) (by first | trivial | (simp; done) | (simp; omega) | (simp at *; done) | (simp at *; omega)) ?_ | refine sg true rfl rfl rfl (by rw [hn]; rfl) (by intro hG; first | trivial | (simp; done) | (simp; omega) | (simp at *; done) | (simp at *; omega)) ?_)
  refine W_weaken (St.le_of (l := [(0, .c (.own 0 1 p.length l.length)), (3, lv (.int .i64 0)), (7, .c (.own 0 1 p.length l.length)), (8, lv (.int .i64 (l.length : Int))), (9, lv (.int .i64 0))]) (h := [(0, .row (.ints .u8 (p ++ l)))]) (by refine ⟨?_, ?_⟩ <;> (repeat' (first | exact trivial | exact rfl | refine ⟨?_, ?_⟩)) <;> first | exact rfl | (simp; done) | skip)) ?_
  refine W_loop (ι := {i : Nat // i ≤ l.length}) (fun i => St.of [(0, .c (.own 0 1 p.length l.length)), (3, lv (.int .i64 (tenC 0 (l.take i.1)).2)), (7, .c (.own 0 1 p.length l.length)), (8, lv (.int .i64 (l.length : Int))), (9, lv (.int .i64 (i.1 : Int)))] [(0, .row (.ints .u8 (p ++ ((tenC 0 (l.take i.1)).1 ++ l.drop i.1))))]) (fun i => l.length - i.1) (fun i => ?_) ⟨0, by omega⟩
  obtain ⟨i, hi⟩ := i
  dsimp only
  have hlow := tenC_low (l.take i) 0 (by omega)
  have hAl : (tenC 0 (l.take i)).1.length = i := by rw [tenC_len]; simp; omega
  have hApp := tenC_app (l.take i) 0
  generalize hc0 : (tenC 0 (l.take i)).2 = c at *
  generalize hA0 : (tenC 0 (l.take i)).1 = A at *
  repeat (first | refine W_seq ?_ | refine W_region ?_ | refine W_block ?_ | refine W_skip ?_ | refine W_ret ?_ | refine W_exit ?_ | refine WL_nil ?_ | refine N_then ?_ | refine N_then_exit ?_ | refine N_then_ret ?_ | refine N_block ?_ | refine N_block_ret ?_ | refine N_block_exit ?_ | refine N_block_pass rfl ?_ | refine sp true rfl rfl (by rw [hn]; rfl) (by first | trivial | (simp; done) | (simp; omega) | (simp at *; done) | (simp at *; omega)) ?_ | refine sg true rfl rfl rfl (by rw [hn]; rfl) (by intro hG; first | trivial | (simp; done) | (simp; omega) | (simp at *; done) | (simp at *; omega)) ?_)
  refine W_cond rfl (by simp) (fun hc => ?_) (fun hc => ?_)
  · have hi8 : i < l.length := by simp at hc; omega
    have hx := hw l[i] (List.getElem_mem hi8)
    have hd : l.drop i = l[i] :: l.drop (i + 1) := List.drop_eq_getElem_cons hi8
    have hL : (A ++ l.drop i).length = l.length := by simp; omega
    have hg : (p ++ (A ++ l.drop i)).getD (p.length + (i : Int).toNat) 0 = l[i] := by
      rw [getD_off, hd]; simp [List.getElem?_append_right, hAl, hi8]
    have e8 : c * 2 ^ min (Int.toNat 8) IntKind.i64.bits = 256 * c := by
      have : min (Int.toNat 8) IntKind.i64.bits = 8 := by decide
      rw [this]; omega
    repeat (first | refine W_seq ?_ | refine W_region ?_ | refine W_block ?_ | refine W_skip ?_ | refine W_ret ?_ | refine W_exit ?_ | refine WL_nil ?_ | refine N_then ?_ | refine N_then_exit ?_ | refine N_then_ret ?_ | refine N_block ?_ | refine N_block_ret ?_ | refine N_block_exit ?_ | refine N_block_pass rfl ?_ | refine sp true rfl rfl (by rw [hn]; rfl) (by first | trivial | (simp; done) | (simp; omega) | (simp at *; done) | (simp at *; omega)) ?_ | refine sg true rfl rfl rfl (by rw [hn]; rfl) (by intro hG; first | trivial | (simp; done) | (simp; omega) | (simp at *; done) | (simp at *; omega)) ?_)
    rw [hg]
    rw [e8]
    rw [or_shl c l[i] hlow hx]
    repeat (first | refine W_seq ?_ | refine W_region ?_ | refine W_block ?_ | refine W_skip ?_ | refine W_ret ?_ | refine W_exit ?_ | refine WL_nil ?_ | refine N_then ?_ | refine N_then_exit ?_ | refine N_then_ret ?_ | refine N_block ?_ | refine N_block_ret ?_ | refine N_block_exit ?_ | refine N_block_pass rfl ?_ | refine sp true rfl rfl (by rw [hn]; rfl) (by first | trivial | (simp; done) | (simp; omega) | (simp at *; done) | (simp at *; omega)) ?_ | refine sg true rfl rfl rfl (by rw [hn]; rfl) (by intro hG; first | trivial | (simp; done) | (simp; omega) | (simp at *; done) | (simp at *; omega)) ?_)
    refine s_storeI rfl rfl rfl rfl rfl (by first | trivial | (simp; done) | (simp; omega) | (simp at *; done) | (simp at *; omega)) rfl (by rw [cellsOf5]) (by first | (simp; done) | (simp; omega) | (simp at *; omega)) ?_
    repeat (first | refine W_seq ?_ | refine W_region ?_ | refine W_block ?_ | refine W_skip ?_ | refine W_ret ?_ | refine W_exit ?_ | refine WL_nil ?_ | refine N_then ?_ | refine N_then_exit ?_ | refine N_then_ret ?_ | refine N_block ?_ | refine N_block_ret ?_ | refine N_block_exit ?_ | refine N_block_pass rfl ?_ | refine sp true rfl rfl (by rw [hn]; rfl) (by first | trivial | (simp; done) | (simp; omega) | (simp at *; done) | (simp at *; omega)) ?_ | refine sg true rfl rfl rfl (by rw [hn]; rfl) (by intro hG; first | trivial | (simp; done) | (simp; omega) | (simp at *; done) | (simp at *; omega)) ?_)
    have hT : l.take (i + 1) = l.take i ++ [l[i]] := by rw [List.take_add_one, List.getElem?_eq_getElem hi8]; rfl
    refine N_round ⟨i + 1, by omega⟩ (by dsimp only; omega) (St.le_of ⟨⟨rfl, ?_, rfl, rfl, rfl⟩, ?_⟩)
    · show lv (.int .i64 ((256 * c + l[i]) % 10)) = lv (.int .i64 (tenC 0 (l.take (i + 1))).2)
      rw [hT, hApp]
    · show Blk.row (.ints .u8 ((p ++ (A ++ l.drop i)).set (p.length + (i : Int).toNat) ((256 * c + l[i]) / 10))) = Blk.row (.ints .u8 (p ++ ((tenC 0 (l.take (i + 1))).1 ++ l.drop (i + 1))))
      rw [set_off, hT, hApp, hd]
      have := set_mid A (l.drop (i + 1)) l[i] ((256 * c + l[i]) / 10) (i : Int).toNat (by rw [hAl]; simp)
      rw [this]
      simp
  · have : i = l.length := by simp at hc; omega
    subst this
    repeat (first | refine W_seq ?_ | refine W_region ?_ | refine W_block ?_ | refine W_skip ?_ | refine W_ret ?_ | refine W_exit ?_ | refine WL_nil ?_ | refine N_then ?_ | refine N_then_exit ?_ | refine N_then_ret ?_ | refine N_block ?_ | refine N_block_ret ?_ | refine N_block_exit ?_ | refine N_block_pass rfl ?_ | refine sp true rfl rfl (by rw [hn]; rfl) (by first | trivial | (simp; done) | (simp; omega) | (simp at *; done) | (simp at *; omega)) ?_ | refine sg true rfl rfl rfl (by rw [hn]; rfl) (by intro hG; first | trivial | (simp; done) | (simp; omega) | (simp at *; done) | (simp at *; omega)) ?_)
    rw [List.take_length] at hc0 hA0
    refine N_retN [] rfl trivial ⟨?_, ?_, trivial, rfl⟩ hb rfl (by simp [ordL])
    · rw [hc0]; rfl
    · show Blk.row (.ints .u8 (p ++ (A ++ l.drop l.length))) = Blk.row (.ints .u8 (p ++ (tenC 0 l).1))
      rw [hA0, List.drop_length, List.append_nil]
end Go.Proofs.Ytppmfjopokkhmaa

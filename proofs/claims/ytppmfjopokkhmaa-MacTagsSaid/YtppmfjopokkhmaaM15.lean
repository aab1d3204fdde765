/-
  Chapter 12: tags checked, the document's tags. The conditions: bytes that are bytes, at most half a million of them.
-/
import Derived.Test.YtppmfjopokkhmaaM12
import Derived.Test.YtppmfjopokkhmaaM10
namespace Go.Proofs.Ytppmfjopokkhmaa
set_option linter.unusedSimpArgs false
set_option linter.unusedVariables false
open Go.Sx

set_option maxRecDepth 10000

theorem ne32 {l : List Int} (h : l.length = 32) : l ≠ [] := fun h2 => by rw [h2] at h; simp at h
theorem check_ok (k t : List Int) (bs : List (List Int)) (hk : WfB k) (hkl : k.length ≤ 1000000) (ht : WfB t) (htl : t.length ≤ 1000000) (hbs : ∀ b ∈ bs, WfB b) (hbl : bs.length ≤ 1000) (hn1 : bs.flatten.length ≤ 900000) :
    Ct Try.prog 48 [B8 k, B8 t, partsA bs] [] (lv (.bool (decide (tagS k bs.flatten = t)))) [] [] := by
  have htag := tag_ok k bs hk hkl hbs hbl hn1
  have hdl : (tagS k bs.flatten).length = 32 := digS_len _
  have hdw : WfB (tagS k bs.flatten) := digS_wf _
  generalize tagS k bs.flatten = D at *
  have hdn := ne32 hdl
  have d1 : (D.drop 0).take 32 = D := by rw [List.drop_zero, List.take_of_length_le (by omega)]
  have hs := msame_ok D t (by omega) htl hdw ht
  have hs2 : Ct Try.prog 46 [B8 ((D.drop 0).take 32), B8 t] [] (lv (.bool (decide (D = t)))) [] [] := by rw [d1]; exact hs
  refine Ct_intro Try.func48 rfl rfl rfl rfl rfl (fun E hn hb => ?_)
  repeat (first | refine W_seq ?_ | refine W_region ?_ | refine W_block ?_ | refine W_skip ?_ | refine W_ret ?_ | refine W_exit ?_ | refine WL_nil ?_ | refine N_then ?_ | refine N_then_exit ?_ | refine N_then_ret ?_ | refine N_block ?_ | refine N_block_ret ?_ | refine N_block_exit ?_ | refine N_block_pass rfl ?_ | refine sp true rfl rfl (by rw [hn]; rfl) (by first | trivial | (simp; done) | (simp; omega) | (simp at *; done) | (simp at *; omega)) ?_ | refine sg true rfl rfl rfl (by rw [hn]; rfl) (by intro hG; first | trivial | (simp; done) | (simp; omega) | (simp at *; done) | (simp at *; omega)) ?_)
  refine s_call0 (htag) rfl rfl rfl (by rw [hn]; rfl) rfl rfl (by first | trivial | (simp; done) | (simp; omega) | (simp at *; done) | (simp at *; omega)) rfl rfl rfl ?_
  refine s_allocAN .u8 32 rfl rfl rfl (by rw [hn]; rfl) (by kernel_rfl) ?_
  repeat (first | refine W_seq ?_ | refine W_region ?_ | refine W_block ?_ | refine W_skip ?_ | refine W_ret ?_ | refine W_exit ?_ | refine WL_nil ?_ | refine N_then ?_ | refine N_then_exit ?_ | refine N_then_ret ?_ | refine N_block ?_ | refine N_block_ret ?_ | refine N_block_exit ?_ | refine N_block_pass rfl ?_ | refine sp true rfl rfl (by rw [hn]; rfl) (by first | trivial | (simp; done) | (simp; omega) | (simp at *; done) | (simp at *; omega)) ?_ | refine sg true rfl rfl rfl (by rw [hn]; rfl) (by intro hG; first | trivial | (simp; done) | (simp; omega) | (simp at *; done) | (simp at *; omega)) ?_)
  refine s_storeA rfl rfl rfl rfl rfl (by first | trivial | (simp; done) | (simp; omega) | (simp at *; done) | (simp at *; omega)) rfl (by rw [cellsOf56]; first | rfl | assumption | omega | kernel_rfl | (simp; done) | (simp; omega) | (simp at *; omega)) (by first | rfl | assumption | omega | kernel_rfl | (simp; done) | (simp; omega) | (simp at *; omega)) (by first | assumption | (simp; done) | exact List.cons_ne_nil _ _) ?_
  repeat (first | refine W_seq ?_ | refine W_region ?_ | refine W_block ?_ | refine W_skip ?_ | refine W_ret ?_ | refine W_exit ?_ | refine WL_nil ?_ | refine N_then ?_ | refine N_then_exit ?_ | refine N_then_ret ?_ | refine N_block ?_ | refine N_block_ret ?_ | refine N_block_exit ?_ | refine N_block_pass rfl ?_ | refine sp true rfl rfl (by rw [hn]; rfl) (by first | trivial | (simp; done) | (simp; omega) | (simp at *; done) | (simp at *; omega)) ?_ | refine sg true rfl rfl rfl (by rw [hn]; rfl) (by intro hG; first | trivial | (simp; done) | (simp; omega) | (simp at *; done) | (simp at *; omega)) ?_)
  refine sp true rfl rfl (by rw [hn]; rfl) ?_ ?_
  · exact ⟨rfl, by omega, hdn, show 32 ≤ maxLen from by decide⟩
  repeat (first | refine W_seq ?_ | refine W_region ?_ | refine W_block ?_ | refine W_skip ?_ | refine W_ret ?_ | refine W_exit ?_ | refine WL_nil ?_ | refine N_then ?_ | refine N_then_exit ?_ | refine N_then_ret ?_ | refine N_block ?_ | refine N_block_ret ?_ | refine N_block_exit ?_ | refine N_block_pass rfl ?_ | refine sp true rfl rfl (by rw [hn]; rfl) (by first | trivial | (simp; done) | (simp; omega) | (simp at *; done) | (simp at *; omega)) ?_ | refine sg true rfl rfl rfl (by rw [hn]; rfl) (by intro hG; first | trivial | (simp; done) | (simp; omega) | (simp at *; done) | (simp at *; omega)) ?_)
  refine WL_q (opq_of (opy_callL hs2 rfl rfl rfl (by trivial) ⟨.inr (.inl ⟨71, 0, 32, .u8, D, rfl, rfl, by omega, rfl⟩), .inl rfl, trivial⟩ rfl) rfl) (by rw [hn]; rfl) ?_
  repeat (first | refine W_seq ?_ | refine W_region ?_ | refine W_block ?_ | refine W_skip ?_ | refine W_ret ?_ | refine W_exit ?_ | refine WL_nil ?_ | refine N_then ?_ | refine N_then_exit ?_ | refine N_then_ret ?_ | refine N_block ?_ | refine N_block_ret ?_ | refine N_block_exit ?_ | refine N_block_pass rfl ?_ | refine sp true rfl rfl (by rw [hn]; rfl) (by first | trivial | (simp; done) | (simp; omega) | (simp at *; done) | (simp at *; omega)) ?_ | refine sg true rfl rfl rfl (by rw [hn]; rfl) (by intro hG; first | trivial | (simp; done) | (simp; omega) | (simp at *; done) | (simp at *; omega)) ?_)
  exact N_retN [] rfl (by first | trivial | (simp; done) | (simp; omega) | (simp at *; done) | (simp at *; omega)) ⟨rfl, by first | trivial | exact ⟨rfl, rfl⟩, by first | trivial | exact rfl | exact ⟨rfl, rfl⟩, rfl⟩ hb rfl (by first | trivial | (simp; done) | (simp [ordL]; done))
set_option maxHeartbeats 4000000 in
theorem reftag_ok (k b : List Int) (hk : WfB k) (hkl : k.length ≤ 1000000) (hb' : WfB b) (hbl : b.length ≤ 500000) : Ct Try.prog 47 [B8 k, B8 b] [] (.ai .u8 (tagS k b)) [] [] := by
  have hl1 := padK_len k 54
  have hl2 := padK_len k 92
  have hw1 := padK_wf hk (c := 54) (by omega)
  have hw2 := padK_wf hk (c := 92) (by omega)
  have hks := keyS_len k
  have hkw := keyS_wf hk
  have h6l := pad64_len hks
  have h6w := pad64_wf hkw
  have hg1 : ∀ i, i < 64 → (padK k 54)[i]? = some (xI ((pad64 (keyS k)).getD i 0) 54) := by
    intro i hi
    have hlt : i < (pad64 (keyS k)).length := by omega
    rw [padK, List.getElem?_map, List.getElem?_eq_getElem hlt]
    simp [hlt]
  have hg2 : ∀ i, i < 64 → (padK k 92)[i]? = some (xI ((pad64 (keyS k)).getD i 0) 92) := by
    intro i hi
    have hlt : i < (pad64 (keyS k)).length := by omega
    rw [padK, List.getElem?_map, List.getElem?_eq_getElem hlt]
    simp [hlt]
  have hqg : ∀ i, (pad64 (keyS k)).getD i 0 = if i < (keyS k).length then (keyS k).getD i 0 else 0 := by
    intro i
    unfold pad64
    rw [List.getD_eq_getElem?_getD]
    split
    · rename_i h
      rw [List.getElem?_append_left h, List.getD_eq_getElem?_getD]
    · rename_i h
      rw [List.getElem?_append_right (by omega), List.getElem?_replicate]
      split <;> rfl
  have hrk := refsum_ok k hk hkl
  have hdk := digS_len k
  have hdkn := ne32 hdk
  have eD : 64 < k.length → keyS k = digS k := fun h => by rw [keyS, if_pos h]
  have eK : ¬ 64 < k.length → keyS k = k := fun h => by rw [keyS, if_neg h]
  have htag : tagS k b = digS (padK k 92 ++ digS (padK k 54 ++ b)) := rfl
  rw [htag]
  clear htag
  generalize padK k 54 = P at *
  generalize padK k 92 = R at *
  have hr1 := refsum_ok (P ++ b) (wf_app hw1 hb') (by simp; omega)
  have hd1 := digS_len (P ++ b)
  have hdw1 := digS_wf (P ++ b)
  generalize digS (P ++ b) = D at *
  have hdn1 := ne32 hd1
  have eDt : D.take 32 = D := List.take_of_length_le (by omega)
  have hr2 := refsum_ok (R ++ D) (wf_app hw2 hdw1) (by simp; omega)
  have hd2 := digS_len (R ++ D)
  generalize digS (R ++ D) = O at *
  have hdn2 := ne32 hd2
  generalize keyS k = q at *
  generalize pad64 q = Q at *
  generalize digS k = DK at *
  refine Ct_intro Try.func47 rfl rfl rfl rfl rfl (fun E hn hb => ?_)
  repeat (first | refine W_seq ?_ | refine W_region ?_ | refine W_block ?_ | refine W_skip ?_ | refine W_ret ?_ | refine W_exit ?_ | refine WL_nil ?_ | refine N_then ?_ | refine N_then_exit ?_ | refine N_then_ret ?_ | refine N_block ?_ | refine N_block_ret ?_ | refine N_block_exit ?_ | refine N_block_pass rfl ?_ | refine sp true rfl rfl (by rw [hn]; rfl) (by first | trivial | (simp; done) | (simp; omega) | (simp at *; done) | (simp at *; omega)) ?_ | refine sg true rfl rfl rfl (by rw [hn]; rfl) (by intro hG; first | trivial | (simp; done) | (simp; omega) | (simp at *; done) | (simp at *; omega)) ?_)
  refine s_allocAN .u8 32 rfl rfl rfl (by rw [hn]; rfl) (by kernel_rfl) ?_
  repeat (first | refine W_seq ?_ | refine W_region ?_ | refine W_block ?_ | refine W_skip ?_ | refine W_ret ?_ | refine W_exit ?_ | refine WL_nil ?_ | refine N_then ?_ | refine N_then_exit ?_ | refine N_then_ret ?_ | refine N_block ?_ | refine N_block_ret ?_ | refine N_block_exit ?_ | refine N_block_pass rfl ?_ | refine sp true rfl rfl (by rw [hn]; rfl) (by first | trivial | (simp; done) | (simp; omega) | (simp at *; done) | (simp at *; omega)) ?_ | refine sg true rfl rfl rfl (by rw [hn]; rfl) (by intro hG; first | trivial | (simp; done) | (simp; omega) | (simp at *; done) | (simp at *; omega)) ?_)
  refine W_join (St.of [(0, B8 q), (1, B8 b), (4, .c (.ptr 68 0))] [(68, .row (.ints .u8 (List.replicate 32 0)))]) ?_ ?_
  · refine W_cond rfl (by simp) (fun hq => ?_) (fun hq => ?_)
    · have h64 : 64 < k.length := by simp at hq; omega
      rw [eD h64]
      repeat (first | refine W_seq ?_ | refine W_region ?_ | refine W_block ?_ | refine W_skip ?_ | refine W_ret ?_ | refine W_exit ?_ | refine WL_nil ?_ | refine N_then ?_ | refine N_then_exit ?_ | refine N_then_ret ?_ | refine N_block ?_ | refine N_block_ret ?_ | refine N_block_exit ?_ | refine N_block_pass rfl ?_ | refine sp true rfl rfl (by rw [hn]; rfl) (by first | trivial | (simp; done) | (simp; omega) | (simp at *; done) | (simp at *; omega)) ?_ | refine sg true rfl rfl rfl (by rw [hn]; rfl) (by intro hG; first | trivial | (simp; done) | (simp; omega) | (simp at *; done) | (simp at *; omega)) ?_)
      refine s_call0 (hrk) rfl rfl rfl (by rw [hn]; rfl) rfl rfl (by first | trivial | (simp; done) | (simp; omega) | (simp at *; done) | (simp at *; omega)) rfl rfl rfl ?_
      refine s_allocAN .u8 32 rfl rfl rfl (by rw [hn]; rfl) (by kernel_rfl) ?_
      repeat (first | refine W_seq ?_ | refine W_region ?_ | refine W_block ?_ | refine W_skip ?_ | refine W_ret ?_ | refine W_exit ?_ | refine WL_nil ?_ | refine N_then ?_ | refine N_then_exit ?_ | refine N_then_ret ?_ | refine N_block ?_ | refine N_block_ret ?_ | refine N_block_exit ?_ | refine N_block_pass rfl ?_ | refine sp true rfl rfl (by rw [hn]; rfl) (by first | trivial | (simp; done) | (simp; omega) | (simp at *; done) | (simp at *; omega)) ?_ | refine sg true rfl rfl rfl (by rw [hn]; rfl) (by intro hG; first | trivial | (simp; done) | (simp; omega) | (simp at *; done) | (simp at *; omega)) ?_)
      refine s_storeA rfl rfl rfl rfl rfl (by first | trivial | (simp; done) | (simp; omega) | (simp at *; done) | (simp at *; omega)) rfl (by rw [cellsOf56]; first | rfl | assumption | omega | kernel_rfl | (simp; done) | (simp; omega) | (simp at *; omega)) (by first | rfl | assumption | omega | kernel_rfl | (simp; done) | (simp; omega) | (simp at *; omega)) (by first | assumption | (simp; done) | exact List.cons_ne_nil _ _) ?_
      repeat (first | refine W_seq ?_ | refine W_region ?_ | refine W_block ?_ | refine W_skip ?_ | refine W_ret ?_ | refine W_exit ?_ | refine WL_nil ?_ | refine N_then ?_ | refine N_then_exit ?_ | refine N_then_ret ?_ | refine N_block ?_ | refine N_block_ret ?_ | refine N_block_exit ?_ | refine N_block_pass rfl ?_ | refine sp true rfl rfl (by rw [hn]; rfl) (by first | trivial | (simp; done) | (simp; omega) | (simp at *; done) | (simp at *; omega)) ?_ | refine sg true rfl rfl rfl (by rw [hn]; rfl) (by intro hG; first | trivial | (simp; done) | (simp; omega) | (simp at *; done) | (simp at *; omega)) ?_)
      refine sp true rfl rfl (by rw [hn]; rfl) ?_ ?_
      · exact ⟨rfl, by omega, hdkn, show 32 ≤ maxLen from by decide⟩
      repeat (first | refine W_seq ?_ | refine W_region ?_ | refine W_block ?_ | refine W_skip ?_ | refine W_ret ?_ | refine W_exit ?_ | refine WL_nil ?_ | refine N_then ?_ | refine N_then_exit ?_ | refine N_then_ret ?_ | refine N_block ?_ | refine N_block_ret ?_ | refine N_block_exit ?_ | refine N_block_pass rfl ?_ | refine sp true rfl rfl (by rw [hn]; rfl) (by first | trivial | (simp; done) | (simp; omega) | (simp at *; done) | (simp at *; omega)) ?_ | refine sg true rfl rfl rfl (by rw [hn]; rfl) (by intro hG; first | trivial | (simp; done) | (simp; omega) | (simp at *; done) | (simp at *; omega)) ?_)
      refine N_freeze 69 [(0, B8 DK)] rfl hb ⟨⟨rfl, rfl, rfl, by omega, by rw [List.drop_zero, List.take_of_length_le (by omega)]⟩, rfl⟩ ?_
      (refine N_join ?_; refine St.le_of ⟨?_, ?_⟩ <;> (repeat' (first | exact trivial | exact rfl | refine ⟨?_, ?_⟩)) <;> first | exact rfl | (simp; done) | skip)
    · have h64 : ¬ 64 < k.length := by simp at hq; omega
      rw [eK h64]
      repeat (first | refine W_seq ?_ | refine W_region ?_ | refine W_block ?_ | refine W_skip ?_ | refine W_ret ?_ | refine W_exit ?_ | refine WL_nil ?_ | refine N_then ?_ | refine N_then_exit ?_ | refine N_then_ret ?_ | refine N_block ?_ | refine N_block_ret ?_ | refine N_block_exit ?_ | refine N_block_pass rfl ?_ | refine sp true rfl rfl (by rw [hn]; rfl) (by first | trivial | (simp; done) | (simp; omega) | (simp at *; done) | (simp at *; omega)) ?_ | refine sg true rfl rfl rfl (by rw [hn]; rfl) (by intro hG; first | trivial | (simp; done) | (simp; omega) | (simp at *; done) | (simp at *; omega)) ?_)
      (refine N_join ?_; refine St.le_of ⟨?_, ?_⟩ <;> (repeat' (first | exact trivial | exact rfl | refine ⟨?_, ?_⟩)) <;> first | exact rfl | (simp; done) | skip)
  repeat (first | refine W_seq ?_ | refine W_region ?_ | refine W_block ?_ | refine W_skip ?_ | refine W_ret ?_ | refine W_exit ?_ | refine WL_nil ?_ | refine N_then ?_ | refine N_then_exit ?_ | refine N_then_ret ?_ | refine N_block ?_ | refine N_block_ret ?_ | refine N_block_exit ?_ | refine N_block_pass rfl ?_ | refine sp true rfl rfl (by rw [hn]; rfl) (by first | trivial | (simp; done) | (simp; omega) | (simp at *; done) | (simp at *; omega)) ?_ | refine sg true rfl rfl rfl (by rw [hn]; rfl) (by intro hG; first | trivial | (simp; done) | (simp; omega) | (simp at *; done) | (simp at *; omega)) ?_)
  refine W_own_nil 6 300 1 (.ints .u8 []) rfl rfl (.inl rfl) ?_
  refine W_own_nil 7 301 1 (.ints .u8 []) rfl rfl (.inl rfl) ?_
  refine W_weaken (St.le_of (l := [(0, B8 q), (1, B8 b), (4, .c (.ptr 68 0)), (6, .c (.own 300 1 0 0)), (7, .c (.own 301 1 0 0)), (8, lv (.int .i64 0))]) (h := [(68, .row (.ints .u8 (List.replicate 32 0))), (300, .row (.ints .u8 [])), (301, .row (.ints .u8 []))]) (by refine ⟨?_, ?_⟩ <;> (repeat' (first | exact trivial | exact rfl | refine ⟨?_, ?_⟩)) <;> first | exact rfl | (simp; done) | skip)) ?_
  refine W_loop (ι := {i : Nat // i ≤ 64}) (fun i => St.of [(0, B8 q), (1, B8 b), (4, .c (.ptr 68 0)), (6, .c (.own 300 1 0 (P.take i.1).length)), (7, .c (.own 301 1 0 (R.take i.1).length)), (8, lv (.int .i64 (i.1 : Int)))] [(68, .row (.ints .u8 (List.replicate 32 0))), (300, .row (.ints .u8 (P.take i.1))), (301, .row (.ints .u8 (R.take i.1)))]) (fun i => 64 - i.1) (fun i => ?_) ⟨0, by omega⟩
  obtain ⟨i, hi⟩ := i
  dsimp only
  repeat (first | refine W_seq ?_ | refine W_region ?_ | refine W_block ?_ | refine W_skip ?_ | refine W_ret ?_ | refine W_exit ?_ | refine WL_nil ?_ | refine N_then ?_ | refine N_then_exit ?_ | refine N_then_ret ?_ | refine N_block ?_ | refine N_block_ret ?_ | refine N_block_exit ?_ | refine N_block_pass rfl ?_ | refine sp true rfl rfl (by rw [hn]; rfl) (by first | trivial | (simp; done) | (simp; omega) | (simp at *; done) | (simp at *; omega)) ?_ | refine sg true rfl rfl rfl (by rw [hn]; rfl) (by intro hG; first | trivial | (simp; done) | (simp; omega) | (simp at *; done) | (simp at *; omega)) ?_)
  refine W_cond rfl (by simp) (fun hc => ?_) (fun hc => ?_)
  · have hi64 : i < 64 := by simp at hc; omega
    have hby := wf_get h6w i
    obtain ⟨x1, x2⟩ := xor8 hby (show (0 : Int) ≤ 54 ∧ (54 : Int) < 256 by omega)
    obtain ⟨y1, y2⟩ := xor8 hby (show (0 : Int) ≤ 92 ∧ (92 : Int) < 256 by omega)
    have g1 := hg1 i hi64
    have g2 := hg2 i hi64
    have hqi := hqg i
    have t1 : P.take i ++ [xI (Q.getD i 0) 54] = P.take (i + 1) := by
      have hlt : i < P.length := by omega
      rw [List.getElem?_eq_getElem hlt] at g1
      rw [List.take_succ_eq_append_getElem hlt, Option.some.inj g1]
    have t2 : R.take i ++ [xI (Q.getD i 0) 92] = R.take (i + 1) := by
      have hlt : i < R.length := by omega
      rw [List.getElem?_eq_getElem hlt] at g2
      rw [List.take_succ_eq_append_getElem hlt, Option.some.inj g2]
    clear g1 g2
    generalize Q.getD i 0 = c at *
    repeat (first | refine W_seq ?_ | refine W_region ?_ | refine W_block ?_ | refine W_skip ?_ | refine W_ret ?_ | refine W_exit ?_ | refine WL_nil ?_ | refine N_then ?_ | refine N_then_exit ?_ | refine N_then_ret ?_ | refine N_block ?_ | refine N_block_ret ?_ | refine N_block_exit ?_ | refine N_block_pass rfl ?_ | refine sp true rfl rfl (by rw [hn]; rfl) (by first | trivial | (simp; done) | (simp; omega) | (simp at *; done) | (simp at *; omega)) ?_ | refine sg true rfl rfl rfl (by rw [hn]; rfl) (by intro hG; first | trivial | (simp; done) | (simp; omega) | (simp at *; done) | (simp at *; omega)) ?_)
    refine W_join (St.of [(0, B8 q), (1, B8 b), (4, .c (.ptr 68 0)), (6, .c (.own 300 1 0 (P.take i).length)), (7, .c (.own 301 1 0 (R.take i).length)), (8, lv (.int .i64 (i : Int))), (9, lv (.int .u8 c))] [(68, .row (.ints .u8 (List.replicate 32 0))), (300, .row (.ints .u8 (P.take i))), (301, .row (.ints .u8 (R.take i)))]) ?_ ?_
    · refine W_cond rfl (by simp) (fun hu => ?_) (fun hu => ?_)
      · have hiq : i < q.length := by simpa using hu
        rw [if_pos hiq] at hqi
        have hgi : q.getD (i : Int).toNat 0 = c := by rw [Int.toNat_natCast]; exact hqi.symm
        repeat (first | refine W_seq ?_ | refine W_region ?_ | refine W_block ?_ | refine W_skip ?_ | refine W_ret ?_ | refine W_exit ?_ | refine WL_nil ?_ | refine N_then ?_ | refine N_then_exit ?_ | refine N_then_ret ?_ | refine N_block ?_ | refine N_block_ret ?_ | refine N_block_exit ?_ | refine N_block_pass rfl ?_ | refine sp true rfl rfl (by rw [hn]; rfl) (by first | trivial | (simp; done) | (simp; omega) | (simp at *; done) | (simp at *; omega)) ?_ | refine sg true rfl rfl rfl (by rw [hn]; rfl) (by intro hG; first | trivial | (simp; done) | (simp; omega) | (simp at *; done) | (simp at *; omega)) ?_)
        rw [hgi]
        repeat (first | refine W_seq ?_ | refine W_region ?_ | refine W_block ?_ | refine W_skip ?_ | refine W_ret ?_ | refine W_exit ?_ | refine WL_nil ?_ | refine N_then ?_ | refine N_then_exit ?_ | refine N_then_ret ?_ | refine N_block ?_ | refine N_block_ret ?_ | refine N_block_exit ?_ | refine N_block_pass rfl ?_ | refine sp true rfl rfl (by rw [hn]; rfl) (by first | trivial | (simp; done) | (simp; omega) | (simp at *; done) | (simp at *; omega)) ?_ | refine sg true rfl rfl rfl (by rw [hn]; rfl) (by intro hG; first | trivial | (simp; done) | (simp; omega) | (simp at *; done) | (simp at *; omega)) ?_)
        (refine N_join ?_; refine St.le_of ⟨?_, ?_⟩ <;> (repeat' (first | exact trivial | exact rfl | refine ⟨?_, ?_⟩)) <;> first | exact rfl | (simp; done) | skip)
      · have hiq : ¬ i < q.length := by simp at hu; omega
        rw [if_neg hiq] at hqi
        subst hqi
        repeat (first | refine W_seq ?_ | refine W_region ?_ | refine W_block ?_ | refine W_skip ?_ | refine W_ret ?_ | refine W_exit ?_ | refine WL_nil ?_ | refine N_then ?_ | refine N_then_exit ?_ | refine N_then_ret ?_ | refine N_block ?_ | refine N_block_ret ?_ | refine N_block_exit ?_ | refine N_block_pass rfl ?_ | refine sp true rfl rfl (by rw [hn]; rfl) (by first | trivial | (simp; done) | (simp; omega) | (simp at *; done) | (simp at *; omega)) ?_ | refine sg true rfl rfl rfl (by rw [hn]; rfl) (by intro hG; first | trivial | (simp; done) | (simp; omega) | (simp at *; done) | (simp at *; omega)) ?_)
        (refine N_join ?_; refine St.le_of ⟨?_, ?_⟩ <;> (repeat' (first | exact trivial | exact rfl | refine ⟨?_, ?_⟩)) <;> first | exact rfl | (simp; done) | skip)
    repeat (first | refine W_seq ?_ | refine W_region ?_ | refine W_block ?_ | refine W_skip ?_ | refine W_ret ?_ | refine W_exit ?_ | refine WL_nil ?_ | refine N_then ?_ | refine N_then_exit ?_ | refine N_then_ret ?_ | refine N_block ?_ | refine N_block_ret ?_ | refine N_block_exit ?_ | refine N_block_pass rfl ?_ | refine sp true rfl rfl (by rw [hn]; rfl) (by first | trivial | (simp; done) | (simp; omega) | (simp at *; done) | (simp at *; omega)) ?_ | refine sg true rfl rfl rfl (by rw [hn]; rfl) (by intro hG; first | trivial | (simp; done) | (simp; omega) | (simp at *; done) | (simp at *; omega)) ?_)
    rw [x1]
    refine s_litI rfl rfl rfl (by rw [hn]; rfl) (elt_mk Try.underlying22 rfl rfl) (zok5) (by first | trivial | (simp; done) | (simp; omega) | (simp at *; done) | (simp at *; omega)) ⟨by decide, rfl⟩ ?_
    repeat (first | refine W_seq ?_ | refine W_region ?_ | refine W_block ?_ | refine W_skip ?_ | refine W_ret ?_ | refine W_exit ?_ | refine WL_nil ?_ | refine N_then ?_ | refine N_then_exit ?_ | refine N_then_ret ?_ | refine N_block ?_ | refine N_block_ret ?_ | refine N_block_exit ?_ | refine N_block_pass rfl ?_ | refine sp true rfl rfl (by rw [hn]; rfl) (by first | trivial | (simp; done) | (simp; omega) | (simp at *; done) | (simp at *; omega)) ?_ | refine sg true rfl rfl rfl (by rw [hn]; rfl) (by intro hG; first | trivial | (simp; done) | (simp; omega) | (simp at *; done) | (simp at *; omega)) ?_)
    refine s_appI rfl rfl rfl rfl rfl rfl (by rw [hn]; rfl) (elt_mk Try.underlying22 rfl rfl) rfl rfl rfl rfl (by first | trivial | (simp; done) | (simp; omega) | (simp at *; done) | (simp at *; omega)) (by first | rfl | (simp; done) | (simp; omega)) ⟨by first | (simp; done) | (simp; omega) | (simp at *; omega), by decide⟩ ?_
    repeat (first | refine W_seq ?_ | refine W_region ?_ | refine W_block ?_ | refine W_skip ?_ | refine W_ret ?_ | refine W_exit ?_ | refine WL_nil ?_ | refine N_then ?_ | refine N_then_exit ?_ | refine N_then_ret ?_ | refine N_block ?_ | refine N_block_ret ?_ | refine N_block_exit ?_ | refine N_block_pass rfl ?_ | refine sp true rfl rfl (by rw [hn]; rfl) (by first | trivial | (simp; done) | (simp; omega) | (simp at *; done) | (simp at *; omega)) ?_ | refine sg true rfl rfl rfl (by rw [hn]; rfl) (by intro hG; first | trivial | (simp; done) | (simp; omega) | (simp at *; done) | (simp at *; omega)) ?_)
    rw [y1]
    refine s_litI rfl rfl rfl (by rw [hn]; rfl) (elt_mk Try.underlying22 rfl rfl) (zok5) (by first | trivial | (simp; done) | (simp; omega) | (simp at *; done) | (simp at *; omega)) ⟨by decide, rfl⟩ ?_
    repeat (first | refine W_seq ?_ | refine W_region ?_ | refine W_block ?_ | refine W_skip ?_ | refine W_ret ?_ | refine W_exit ?_ | refine WL_nil ?_ | refine N_then ?_ | refine N_then_exit ?_ | refine N_then_ret ?_ | refine N_block ?_ | refine N_block_ret ?_ | refine N_block_exit ?_ | refine N_block_pass rfl ?_ | refine sp true rfl rfl (by rw [hn]; rfl) (by first | trivial | (simp; done) | (simp; omega) | (simp at *; done) | (simp at *; omega)) ?_ | refine sg true rfl rfl rfl (by rw [hn]; rfl) (by intro hG; first | trivial | (simp; done) | (simp; omega) | (simp at *; done) | (simp at *; omega)) ?_)
    refine s_appI rfl rfl rfl rfl rfl rfl (by rw [hn]; rfl) (elt_mk Try.underlying22 rfl rfl) rfl rfl rfl rfl (by first | trivial | (simp; done) | (simp; omega) | (simp at *; done) | (simp at *; omega)) (by first | rfl | (simp; done) | (simp; omega)) ⟨by first | (simp; done) | (simp; omega) | (simp at *; omega), by decide⟩ ?_
    repeat (first | refine W_seq ?_ | refine W_region ?_ | refine W_block ?_ | refine W_skip ?_ | refine W_ret ?_ | refine W_exit ?_ | refine WL_nil ?_ | refine N_then ?_ | refine N_then_exit ?_ | refine N_then_ret ?_ | refine N_block ?_ | refine N_block_ret ?_ | refine N_block_exit ?_ | refine N_block_pass rfl ?_ | refine sp true rfl rfl (by rw [hn]; rfl) (by first | trivial | (simp; done) | (simp; omega) | (simp at *; done) | (simp at *; omega)) ?_ | refine sg true rfl rfl rfl (by rw [hn]; rfl) (by intro hG; first | trivial | (simp; done) | (simp; omega) | (simp at *; done) | (simp at *; omega)) ?_)
    refine N_round ⟨i + 1, by omega⟩ (by dsimp only; omega) (St.le_of ⟨⟨rfl, rfl, rfl, congrArg (fun E : List Int => Av.c (.own 300 1 0 E.length)) t1, congrArg (fun E : List Int => Av.c (.own 301 1 0 E.length)) t2, rfl⟩, ⟨rfl, congrArg (fun l => Blk.row (.ints .u8 l)) t1, congrArg (fun l => Blk.row (.ints .u8 l)) t2⟩⟩)
  · have h64 : i = 64 := by simp at hc; omega
    subst h64
    rw [List.take_of_length_le (show P.length ≤ 64 by omega), List.take_of_length_le (show R.length ≤ 64 by omega)]
    repeat (first | refine W_seq ?_ | refine W_region ?_ | refine W_block ?_ | refine W_skip ?_ | refine W_ret ?_ | refine W_exit ?_ | refine WL_nil ?_ | refine N_then ?_ | refine N_then_exit ?_ | refine N_then_ret ?_ | refine N_block ?_ | refine N_block_ret ?_ | refine N_block_exit ?_ | refine N_block_pass rfl ?_ | refine sp true rfl rfl (by rw [hn]; rfl) (by first | trivial | (simp; done) | (simp; omega) | (simp at *; done) | (simp at *; omega)) ?_ | refine sg true rfl rfl rfl (by rw [hn]; rfl) (by intro hG; first | trivial | (simp; done) | (simp; omega) | (simp at *; done) | (simp at *; omega)) ?_)
    refine s_appI rfl rfl rfl rfl rfl rfl (by rw [hn]; rfl) (elt_mk Try.underlying22 rfl rfl) rfl rfl rfl rfl (by first | trivial | (simp; done) | (simp; omega) | (simp at *; done) | (simp at *; omega)) (by first | rfl | (simp; done) | (simp; omega)) ⟨by first | (simp; done) | (simp; omega) | (simp at *; omega), by decide⟩ ?_
    repeat (first | refine W_seq ?_ | refine W_region ?_ | refine W_block ?_ | refine W_skip ?_ | refine W_ret ?_ | refine W_exit ?_ | refine WL_nil ?_ | refine N_then ?_ | refine N_then_exit ?_ | refine N_then_ret ?_ | refine N_block ?_ | refine N_block_ret ?_ | refine N_block_exit ?_ | refine N_block_pass rfl ?_ | refine sp true rfl rfl (by rw [hn]; rfl) (by first | trivial | (simp; done) | (simp; omega) | (simp at *; done) | (simp at *; omega)) ?_ | refine sg true rfl rfl rfl (by rw [hn]; rfl) (by intro hG; first | trivial | (simp; done) | (simp; omega) | (simp at *; done) | (simp at *; omega)) ?_)
    refine WL_freeze 300 [(41, B8 (P ++ b))] rfl hb ⟨⟨rfl, rfl, rfl, by omega, by rw [List.drop_zero, List.take_length]⟩, rfl⟩ ?_
    refine s_call0 (hr1) rfl rfl rfl (by rw [hn]; rfl) rfl rfl (by first | trivial | (simp; done) | (simp; omega) | (simp at *; done) | (simp at *; omega)) rfl rfl rfl ?_
    refine s_allocAN .u8 32 rfl rfl rfl (by rw [hn]; rfl) (by kernel_rfl) ?_
    repeat (first | refine W_seq ?_ | refine W_region ?_ | refine W_block ?_ | refine W_skip ?_ | refine W_ret ?_ | refine W_exit ?_ | refine WL_nil ?_ | refine N_then ?_ | refine N_then_exit ?_ | refine N_then_ret ?_ | refine N_block ?_ | refine N_block_ret ?_ | refine N_block_exit ?_ | refine N_block_pass rfl ?_ | refine sp true rfl rfl (by rw [hn]; rfl) (by first | trivial | (simp; done) | (simp; omega) | (simp at *; done) | (simp at *; omega)) ?_ | refine sg true rfl rfl rfl (by rw [hn]; rfl) (by intro hG; first | trivial | (simp; done) | (simp; omega) | (simp at *; done) | (simp at *; omega)) ?_)
    refine s_storeA rfl rfl rfl rfl rfl (by first | trivial | (simp; done) | (simp; omega) | (simp at *; done) | (simp at *; omega)) rfl (by rw [cellsOf56]; first | rfl | assumption | omega | kernel_rfl | (simp; done) | (simp; omega) | (simp at *; omega)) (by first | rfl | assumption | omega | kernel_rfl | (simp; done) | (simp; omega) | (simp at *; omega)) (by first | assumption | (simp; done) | exact List.cons_ne_nil _ _) ?_
    repeat (first | refine W_seq ?_ | refine W_region ?_ | refine W_block ?_ | refine W_skip ?_ | refine W_ret ?_ | refine W_exit ?_ | refine WL_nil ?_ | refine N_then ?_ | refine N_then_exit ?_ | refine N_then_ret ?_ | refine N_block ?_ | refine N_block_ret ?_ | refine N_block_exit ?_ | refine N_block_pass rfl ?_ | refine sp true rfl rfl (by rw [hn]; rfl) (by first | trivial | (simp; done) | (simp; omega) | (simp at *; done) | (simp at *; omega)) ?_ | refine sg true rfl rfl rfl (by rw [hn]; rfl) (by intro hG; first | trivial | (simp; done) | (simp; omega) | (simp at *; done) | (simp at *; omega)) ?_)
    refine sp true rfl rfl (by rw [hn]; rfl) ?_ ?_
    · exact ⟨rfl, by omega, hdn1, show 32 ≤ maxLen from by decide⟩
    refine s_appI rfl rfl rfl rfl rfl rfl (by rw [hn]; rfl) (elt_mk Try.underlying22 rfl rfl) rfl rfl rfl rfl (by first | trivial | (simp; done) | (simp; omega) | (simp at *; done) | (simp at *; omega)) (by first | rfl | (simp; done) | (simp; omega)) ⟨by first | (simp; done) | (simp; omega) | (simp at *; omega), by decide⟩ ?_
    rw [eDt]
    repeat (first | refine W_seq ?_ | refine W_region ?_ | refine W_block ?_ | refine W_skip ?_ | refine W_ret ?_ | refine W_exit ?_ | refine WL_nil ?_ | refine N_then ?_ | refine N_then_exit ?_ | refine N_then_ret ?_ | refine N_block ?_ | refine N_block_ret ?_ | refine N_block_exit ?_ | refine N_block_pass rfl ?_ | refine sp true rfl rfl (by rw [hn]; rfl) (by first | trivial | (simp; done) | (simp; omega) | (simp at *; done) | (simp at *; omega)) ?_ | refine sg true rfl rfl rfl (by rw [hn]; rfl) (by intro hG; first | trivial | (simp; done) | (simp; omega) | (simp at *; done) | (simp at *; omega)) ?_)
    refine WL_freeze 301 [(45, B8 (R ++ D))] rfl hb ⟨⟨rfl, rfl, rfl, by omega, by rw [List.drop_zero, List.take_length]⟩, rfl⟩ ?_
    refine s_call0 (hr2) rfl rfl rfl (by rw [hn]; rfl) rfl rfl (by first | trivial | (simp; done) | (simp; omega) | (simp at *; done) | (simp at *; omega)) rfl rfl rfl ?_
    refine s_storeA rfl rfl rfl rfl rfl (by first | trivial | (simp; done) | (simp; omega) | (simp at *; done) | (simp at *; omega)) rfl (by rw [cellsOf56]; first | rfl | assumption | omega | kernel_rfl | (simp; done) | (simp; omega) | (simp at *; omega)) (by first | rfl | assumption | omega | kernel_rfl | (simp; done) | (simp; omega) | (simp at *; omega)) (by first | assumption | (simp; done) | exact List.cons_ne_nil _ _) ?_
    repeat (first | refine W_seq ?_ | refine W_region ?_ | refine W_block ?_ | refine W_skip ?_ | refine W_ret ?_ | refine W_exit ?_ | refine WL_nil ?_ | refine N_then ?_ | refine N_then_exit ?_ | refine N_then_ret ?_ | refine N_block ?_ | refine N_block_ret ?_ | refine N_block_exit ?_ | refine N_block_pass rfl ?_ | refine sp true rfl rfl (by rw [hn]; rfl) (by first | trivial | (simp; done) | (simp; omega) | (simp at *; done) | (simp at *; omega)) ?_ | refine sg true rfl rfl rfl (by rw [hn]; rfl) (by intro hG; first | trivial | (simp; done) | (simp; omega) | (simp at *; done) | (simp at *; omega)) ?_)
    exact N_retN [] rfl (⟨rfl, by rw [cellsOf56]; omega, hdn2⟩) ⟨rfl, by first | trivial | exact ⟨rfl, rfl⟩, by first | trivial | exact rfl | exact ⟨rfl, rfl⟩, rfl⟩ hb rfl (by first | trivial | (simp; done) | (simp [ordL]; done))
end Go.Proofs.Ytppmfjopokkhmaa

/-
  Chapter 12: nil hashes; whether two rows of bytes are the same. The conditions: bytes that are bytes.
-/
import Derived.Test.YtppmfjopokkhmaaM8
import Derived.Test.YtppmfjopokkhmaaSxR
namespace Go.Proofs.Ytppmfjopokkhmaa
set_option linter.unusedSimpArgs false
set_option linter.unusedVariables false
open Go.Sx

set_option maxRecDepth 10000

theorem put_nil (bs : List (List Int)) : Ct Try.prog 41 [lv (.pointer none), partsA bs] [] (.tup []) [] [] := by
  refine Ct_intro Try.func41 rfl rfl rfl rfl rfl (fun E hn hb => ?_)
  repeat (first | refine W_seq ?_ | refine W_region ?_ | refine W_block ?_ | refine W_skip ?_ | refine W_ret ?_ | refine W_exit ?_ | refine WL_nil ?_ | refine N_then ?_ | refine N_then_exit ?_ | refine N_then_ret ?_ | refine N_block ?_ | refine N_block_ret ?_ | refine N_block_exit ?_ | refine N_block_pass rfl ?_ | refine sp true rfl rfl (by rw [hn]; rfl) (by first | trivial | (simp; done) | (simp; omega) | (simp at *; done) | (simp at *; omega)) ?_ | refine sg true rfl rfl rfl (by rw [hn]; rfl) (by intro hG; first | trivial | (simp; done) | (simp; omega) | (simp at *; done) | (simp at *; omega)) ?_)
  refine W_cond rfl (by simp) (fun hc => ?_) (fun hc => ?_)
  · repeat (first | refine W_seq ?_ | refine W_region ?_ | refine W_block ?_ | refine W_skip ?_ | refine W_ret ?_ | refine W_exit ?_ | refine WL_nil ?_ | refine N_then ?_ | refine N_then_exit ?_ | refine N_then_ret ?_ | refine N_block ?_ | refine N_block_ret ?_ | refine N_block_exit ?_ | refine N_block_pass rfl ?_ | refine sp true rfl rfl (by rw [hn]; rfl) (by first | trivial | (simp; done) | (simp; omega) | (simp at *; done) | (simp at *; omega)) ?_ | refine sg true rfl rfl rfl (by rw [hn]; rfl) (by intro hG; first | trivial | (simp; done) | (simp; omega) | (simp at *; done) | (simp at *; omega)) ?_)
    exact N_retN [] rfl (by first | trivial | (simp; done) | (simp; omega) | (simp at *; done) | (simp at *; omega)) ⟨rfl, by first | trivial | exact ⟨rfl, rfl⟩, by first | trivial | exact rfl | exact ⟨rfl, rfl⟩, rfl⟩ hb rfl (by first | trivial | (simp; done) | (simp [ordL]; done))
  · simp at hc
def N0 : List Int := []
def n0 : Nat := 0
set_option maxHeartbeats 8000000 in
theorem hsum_nil : Ct Try.prog 43 [lv (.pointer none)] [] (.ai .u8 (digS [])) [] [] := by
  have hx : WfB N0 := fun y hy => by cases hy
  have hv : H0.ok := H0_ok
  have hxl : N0.length = n0 % 64 := rfl
  have hn1 : n0 ≤ 1000000 := by decide
  have hbegin := begin_ok Z8 false 0 N0.length (n0 : Int) N0
  have hcl := cloneO_ok N0 0 N0.length (by omega) (by omega)
  rw [List.drop_zero, List.take_length] at hcl
  obtain ⟨FS, hFS⟩ : ∃ FS, finS H0 (N0 ++ padS n0) = FS := ⟨_, rfl⟩
  have hdg : digS [] = FS.bytes := by rw [← hFS]; rfl
  rw [hdg]
  clear hdg
  simp only [cond_false] at hbegin
  generalize H0 = v0 at *
  have hZ : padZ n0 < 64 := by unfold padZ; omega
  have hZ2 : (N0.length + 1 + padZ n0) % 64 = 56 := by unfold padZ; omega
  rw [padS_eq] at hFS
  generalize padZ n0 = z at *
  refine Ct_intro Try.func43 rfl rfl rfl rfl rfl (fun E hn hb => ?_)
  repeat (first | refine W_seq ?_ | refine W_region ?_ | refine W_block ?_ | refine W_skip ?_ | refine W_ret ?_ | refine W_exit ?_ | refine WL_nil ?_ | refine N_then ?_ | refine N_then_exit ?_ | refine N_then_ret ?_ | refine N_block ?_ | refine N_block_ret ?_ | refine N_block_exit ?_ | refine N_block_pass rfl ?_ | refine sp true rfl rfl (by rw [hn]; rfl) (by first | trivial | (simp; done) | (simp; omega) | (simp at *; done) | (simp at *; omega)) ?_ | refine sg true rfl rfl rfl (by rw [hn]; rfl) (by intro hG; first | trivial | (simp; done) | (simp; omega) | (simp at *; done) | (simp at *; omega)) ?_)
  refine s_allocAN .u8 32 rfl rfl rfl (by rw [hn]; rfl) (by kernel_rfl) ?_
  repeat (first | refine W_seq ?_ | refine W_region ?_ | refine W_block ?_ | refine W_skip ?_ | refine W_ret ?_ | refine W_exit ?_ | refine WL_nil ?_ | refine N_then ?_ | refine N_then_exit ?_ | refine N_then_ret ?_ | refine N_block ?_ | refine N_block_ret ?_ | refine N_block_exit ?_ | refine N_block_pass rfl ?_ | refine sp true rfl rfl (by rw [hn]; rfl) (by first | trivial | (simp; done) | (simp; omega) | (simp at *; done) | (simp at *; omega)) ?_ | refine sg true rfl rfl rfl (by rw [hn]; rfl) (by intro hG; first | trivial | (simp; done) | (simp; omega) | (simp at *; done) | (simp at *; omega)) ?_)
  refine s_call [] hcopy_nil rfl rfl (by rw [hn]; rfl) rfl rfl (by trivial) ⟨rfl, trivial, trivial, rfl⟩ ?_
  repeat (first | refine W_seq ?_ | refine W_region ?_ | refine W_block ?_ | refine W_skip ?_ | refine W_ret ?_ | refine W_exit ?_ | refine WL_nil ?_ | refine N_then ?_ | refine N_then_exit ?_ | refine N_then_ret ?_ | refine N_block ?_ | refine N_block_ret ?_ | refine N_block_exit ?_ | refine N_block_pass rfl ?_ | refine sp true rfl rfl (by rw [hn]; rfl) (by first | trivial | (simp; done) | (simp; omega) | (simp at *; done) | (simp at *; omega)) ?_ | refine sg true rfl rfl rfl (by rw [hn]; rfl) (by intro hG; first | trivial | (simp; done) | (simp; omega) | (simp at *; done) | (simp at *; omega)) ?_)
  refine WL_sr (fun a w h => SR.cell_nil (cs := hC Z8 false (.lf (.v (.slice none 0 0))) 0) (cs' := hC Z8 false (.own 1072 1 0 0) 0) 72 9 1072 rfl rfl rfl rfl rfl h) ?_
  refine s_call [72, 1072] hbegin rfl rfl (by rw [hn]; rfl) rfl rfl (by trivial) ⟨rfl, ⟨rfl, rfl⟩, by simp [ordL], rfl⟩ ?_
  repeat (first | refine W_seq ?_ | refine W_region ?_ | refine W_block ?_ | refine W_skip ?_ | refine W_ret ?_ | refine W_exit ?_ | refine WL_nil ?_ | refine N_then ?_ | refine N_then_exit ?_ | refine N_then_ret ?_ | refine N_block ?_ | refine N_block_ret ?_ | refine N_block_exit ?_ | refine N_block_pass rfl ?_ | refine sp true rfl rfl (by rw [hn]; rfl) (by first | trivial | (simp; done) | (simp; omega) | (simp at *; done) | (simp at *; omega)) ?_ | refine sg true rfl rfl rfl (by rw [hn]; rfl) (by intro hG; first | trivial | (simp; done) | (simp; omega) | (simp at *; done) | (simp at *; omega)) ?_)
  refine s_call [1072] hcl rfl rfl (by rw [hn]; rfl) rfl rfl (by trivial) ⟨rfl, rfl, by simp [ordL], rfl⟩ ?_
  refine s_litI rfl rfl rfl (by rw [hn]; rfl) (elt_mk Try.underlying22 rfl rfl) (zok5) (by first | trivial | (simp; done) | (simp; omega) | (simp at *; done) | (simp at *; omega)) ⟨by decide, rfl⟩ ?_
  repeat (first | refine W_seq ?_ | refine W_region ?_ | refine W_block ?_ | refine W_skip ?_ | refine W_ret ?_ | refine W_exit ?_ | refine WL_nil ?_ | refine N_then ?_ | refine N_then_exit ?_ | refine N_then_ret ?_ | refine N_block ?_ | refine N_block_ret ?_ | refine N_block_exit ?_ | refine N_block_pass rfl ?_ | refine sp true rfl rfl (by rw [hn]; rfl) (by first | trivial | (simp; done) | (simp; omega) | (simp at *; done) | (simp at *; omega)) ?_ | refine sg true rfl rfl rfl (by rw [hn]; rfl) (by intro hG; first | trivial | (simp; done) | (simp; omega) | (simp at *; done) | (simp at *; omega)) ?_)
  refine s_appI rfl rfl rfl rfl rfl rfl (by rw [hn]; rfl) (elt_mk Try.underlying22 rfl rfl) rfl rfl rfl rfl (by first | trivial | (simp; done) | (simp; omega) | (simp at *; done) | (simp at *; omega)) (by first | rfl | (simp; done) | (simp; omega)) ⟨by first | (simp; done) | (simp; omega) | (simp at *; omega), by decide⟩ ?_
  repeat (first | refine W_seq ?_ | refine W_region ?_ | refine W_block ?_ | refine W_skip ?_ | refine W_ret ?_ | refine W_exit ?_ | refine WL_nil ?_ | refine N_then ?_ | refine N_then_exit ?_ | refine N_then_ret ?_ | refine N_block ?_ | refine N_block_ret ?_ | refine N_block_exit ?_ | refine N_block_pass rfl ?_ | refine sp true rfl rfl (by rw [hn]; rfl) (by first | trivial | (simp; done) | (simp; omega) | (simp at *; done) | (simp at *; omega)) ?_ | refine sg true rfl rfl rfl (by rw [hn]; rfl) (by intro hG; first | trivial | (simp; done) | (simp; omega) | (simp at *; done) | (simp at *; omega)) ?_)
  refine W_sr (fun a w h => SR.cellsW (cs := hC v0 true (.own 1072 1 0 N0.length) (n0 : Int)) 72 (hC v0 true .un (n0 : Int)) rfl ⟨.inr (.inl rfl), .inr (.inl rfl), .inr (.inl rfl), .inr (.inl rfl), .inr (.inl rfl), .inr (.inl rfl), .inr (.inl rfl), .inr (.inl rfl), .inr (.inl rfl), .inl rfl, .inr (.inl rfl), trivial⟩ h) ?_
  refine W_weaken (St.le_of (l := [(2, .c (.ptr 66 0)), (3, .c (.ptr 72 0)), (4, lv (.int .u64 ((n0 : Int) * 8))), (5, own85 (N0 ++ [128]))]) (h := [(66, .row (.ints .u8 (List.replicate 32 0))), (72, .cells (hC v0 true .un (n0 : Int))), (85, .row (.ints .u8 (N0 ++ [128])))]) (by refine ⟨?_, ?_⟩ <;> (repeat' (first | exact trivial | exact rfl | refine ⟨?_, ?_⟩)) <;> first | exact rfl | (simp; done) | skip)) ?_
  refine W_loop (ι := {k : Nat // k ≤ z}) (fun k => St.of [(2, .c (.ptr 66 0)), (3, .c (.ptr 72 0)), (4, lv (.int .u64 ((n0 : Int) * 8))), (5, own85 (N0 ++ 128 :: List.replicate k.1 0))] [(66, .row (.ints .u8 (List.replicate 32 0))), (72, .cells (hC v0 true .un (n0 : Int))), (85, .row (.ints .u8 (N0 ++ 128 :: List.replicate k.1 0)))]) (fun k => z - k.1) (fun k => ?_) ⟨0, by omega⟩
  obtain ⟨k, hk⟩ := k
  dsimp only
  have hEl : (N0 ++ 128 :: List.replicate k 0).length = N0.length + 1 + k := by simp; omega
  have hEn : (N0 ++ 128 :: List.replicate k 0) ++ [0] = (N0 ++ 128 :: List.replicate (k + 1) 0) := by rw [List.replicate_succ', List.append_assoc]; rfl
  repeat (first | refine W_seq ?_ | refine W_region ?_ | refine W_block ?_ | refine W_skip ?_ | refine W_ret ?_ | refine W_exit ?_ | refine WL_nil ?_ | refine N_then ?_ | refine N_then_exit ?_ | refine N_then_ret ?_ | refine N_block ?_ | refine N_block_ret ?_ | refine N_block_exit ?_ | refine N_block_pass rfl ?_ | refine sp true rfl rfl (by rw [hn]; rfl) (by first | trivial | (simp; done) | (simp; omega) | (simp at *; done) | (simp at *; omega)) ?_ | refine sg true rfl rfl rfl (by rw [hn]; rfl) (by intro hG; first | trivial | (simp; done) | (simp; omega) | (simp at *; done) | (simp at *; omega)) ?_)
  refine W_cond rfl (by simp) (fun hc => ?_) (fun hc => ?_)
  · have hne : (N0.length + 1 + k) % 64 ≠ 56 := by rw [hEl] at hc; simp at hc; omega
    have hkz : k < z := by
      rcases Nat.lt_or_ge k z with h | h
      · exact h
      · have : k = z := by omega
        subst this; omega
    repeat (first | refine W_seq ?_ | refine W_region ?_ | refine W_block ?_ | refine W_skip ?_ | refine W_ret ?_ | refine W_exit ?_ | refine WL_nil ?_ | refine N_then ?_ | refine N_then_exit ?_ | refine N_then_ret ?_ | refine N_block ?_ | refine N_block_ret ?_ | refine N_block_exit ?_ | refine N_block_pass rfl ?_ | refine sp true rfl rfl (by rw [hn]; rfl) (by first | trivial | (simp; done) | (simp; omega) | (simp at *; done) | (simp at *; omega)) ?_ | refine sg true rfl rfl rfl (by rw [hn]; rfl) (by intro hG; first | trivial | (simp; done) | (simp; omega) | (simp at *; done) | (simp at *; omega)) ?_)
    refine s_litI rfl rfl rfl (by rw [hn]; rfl) (elt_mk Try.underlying22 rfl rfl) (zok5) (by first | trivial | (simp; done) | (simp; omega) | (simp at *; done) | (simp at *; omega)) ⟨by decide, rfl⟩ ?_
    repeat (first | refine W_seq ?_ | refine W_region ?_ | refine W_block ?_ | refine W_skip ?_ | refine W_ret ?_ | refine W_exit ?_ | refine WL_nil ?_ | refine N_then ?_ | refine N_then_exit ?_ | refine N_then_ret ?_ | refine N_block ?_ | refine N_block_ret ?_ | refine N_block_exit ?_ | refine N_block_pass rfl ?_ | refine sp true rfl rfl (by rw [hn]; rfl) (by first | trivial | (simp; done) | (simp; omega) | (simp at *; done) | (simp at *; omega)) ?_ | refine sg true rfl rfl rfl (by rw [hn]; rfl) (by intro hG; first | trivial | (simp; done) | (simp; omega) | (simp at *; done) | (simp at *; omega)) ?_)
    refine s_appI rfl rfl rfl rfl rfl rfl (by rw [hn]; rfl) (elt_mk Try.underlying22 rfl rfl) rfl rfl rfl rfl (by first | trivial | (simp; done) | (simp; omega) | (simp at *; done) | (simp at *; omega)) (by first | rfl | (simp; done) | (simp; omega)) ⟨by first | (simp; done) | (simp; omega) | (simp at *; omega), by decide⟩ ?_
    repeat (first | refine W_seq ?_ | refine W_region ?_ | refine W_block ?_ | refine W_skip ?_ | refine W_ret ?_ | refine W_exit ?_ | refine WL_nil ?_ | refine N_then ?_ | refine N_then_exit ?_ | refine N_then_ret ?_ | refine N_block ?_ | refine N_block_ret ?_ | refine N_block_exit ?_ | refine N_block_pass rfl ?_ | refine sp true rfl rfl (by rw [hn]; rfl) (by first | trivial | (simp; done) | (simp; omega) | (simp at *; done) | (simp at *; omega)) ?_ | refine sg true rfl rfl rfl (by rw [hn]; rfl) (by intro hG; first | trivial | (simp; done) | (simp; omega) | (simp at *; done) | (simp at *; omega)) ?_)
    refine N_round ⟨k + 1, by omega⟩ (by dsimp only; omega) (St.le_of ⟨⟨rfl, rfl, rfl, congrArg (fun E => own85 E) hEn⟩, ⟨rfl, rfl, congrArg (fun E => Blk.row (.ints .u8 E)) hEn⟩⟩)
  · have heq : (N0.length + 1 + k) % 64 = 56 := by rw [hEl] at hc; simp at hc; omega
    have hkz : k = z := by omega
    subst hkz
    have hE1wf : WfB (N0 ++ 128 :: List.replicate k 0) := wf_app hx fun y hy => by
      cases hy with
      | head => omega
      | tail _ hy => exact replicate_wf k y hy
    have hLl : (lenBytes n0).length = 8 := rfl
    have hLg := fun i hi => lenBytes_get n0 i hi hn1
    have hLw := lenBytes_wf n0
    have hFS2 : finS v0 ((N0 ++ 128 :: List.replicate k 0) ++ lenBytes n0) = FS := by rw [← hFS, List.append_assoc]; rfl
    clear hEn hFS
    generalize (N0 ++ 128 :: List.replicate k 0) = E1 at *
    generalize lenBytes n0 = L at *
    repeat (first | refine W_seq ?_ | refine W_region ?_ | refine W_block ?_ | refine W_skip ?_ | refine W_ret ?_ | refine W_exit ?_ | refine WL_nil ?_ | refine N_then ?_ | refine N_then_exit ?_ | refine N_then_ret ?_ | refine N_block ?_ | refine N_block_ret ?_ | refine N_block_exit ?_ | refine N_block_pass rfl ?_ | refine sp true rfl rfl (by rw [hn]; rfl) (by first | trivial | (simp; done) | (simp; omega) | (simp at *; done) | (simp at *; omega)) ?_ | refine sg true rfl rfl rfl (by rw [hn]; rfl) (by intro hG; first | trivial | (simp; done) | (simp; omega) | (simp at *; done) | (simp at *; omega)) ?_)
    refine W_weaken (St.le_of (l := [(2, .c (.ptr 66 0)), (3, .c (.ptr 72 0)), (4, lv (.int .u64 ((n0 : Int) * 8))), (5, own85 E1), (31, lv (.int .i64 0))]) (h := [(66, .row (.ints .u8 (List.replicate 32 0))), (72, .cells (hC v0 true .un (n0 : Int))), (85, .row (.ints .u8 E1))]) (by refine ⟨?_, ?_⟩ <;> (repeat' (first | exact trivial | exact rfl | refine ⟨?_, ?_⟩)) <;> first | exact rfl | (simp; done) | skip)) ?_
    refine W_weaken (τ := St.of [(2, .c (.ptr 66 0)), (3, .c (.ptr 72 0)), (4, lv (.int .u64 ((n0 : Int) * 8))), (5, own85 (E1 ++ L.take 0)), (31, lv (.int .i64 ((0 : Nat) : Int)))] [(66, .row (.ints .u8 (List.replicate 32 0))), (72, .cells (hC v0 true .un (n0 : Int))), (85, .row (.ints .u8 (E1 ++ L.take 0)))]) ?_ ?_
    · rw [List.take_zero, List.append_nil]; exact ⟨fun _ => .inl rfl, fun _ => .inl rfl⟩
    refine W_loop (ι := {i : Nat // i ≤ 8}) (fun i => St.of [(2, .c (.ptr 66 0)), (3, .c (.ptr 72 0)), (4, lv (.int .u64 ((n0 : Int) * 8))), (5, own85 (E1 ++ L.take i.1)), (31, lv (.int .i64 (i.1 : Int)))] [(66, .row (.ints .u8 (List.replicate 32 0))), (72, .cells (hC v0 true .un (n0 : Int))), (85, .row (.ints .u8 (E1 ++ L.take i.1)))]) (fun i => 8 - i.1) (fun i => ?_) ⟨0, by omega⟩
    obtain ⟨i, hi⟩ := i
    dsimp only
    repeat (first | refine W_seq ?_ | refine W_region ?_ | refine W_block ?_ | refine W_skip ?_ | refine W_ret ?_ | refine W_exit ?_ | refine WL_nil ?_ | refine N_then ?_ | refine N_then_exit ?_ | refine N_then_ret ?_ | refine N_block ?_ | refine N_block_ret ?_ | refine N_block_exit ?_ | refine N_block_pass rfl ?_ | refine sp true rfl rfl (by rw [hn]; rfl) (by first | trivial | (simp; done) | (simp; omega) | (simp at *; done) | (simp at *; omega)) ?_ | refine sg true rfl rfl rfl (by rw [hn]; rfl) (by intro hG; first | trivial | (simp; done) | (simp; omega) | (simp at *; done) | (simp at *; omega)) ?_)
    refine W_cond rfl (by simp) (fun hc2 => ?_) (fun hc2 => ?_)
    · have hi8 : i < 8 := by simp at hc2; omega
      have hx8 := hLg i hi8
      have hnx : (E1 ++ L.take i) ++ [IntKind.u8.wrap ((n0 : Int) * 8 / 2 ^ min (56 - 8 * (i : Int)).toNat IntKind.u64.bits)] = E1 ++ L.take (i + 1) := by
        have e : min (56 - 8 * (i : Int)).toNat IntKind.u64.bits = 56 - 8 * i := by simp only [bits_u64]; omega
        rw [e, wrapE8, List.append_assoc]
        congr 1
        have hlt : i < L.length := by omega
        rw [List.take_succ_eq_append_getElem hlt]
        rw [List.getElem?_eq_getElem hlt] at hx8
        rw [Option.some.inj hx8]
      repeat (first | refine W_seq ?_ | refine W_region ?_ | refine W_block ?_ | refine W_skip ?_ | refine W_ret ?_ | refine W_exit ?_ | refine WL_nil ?_ | refine N_then ?_ | refine N_then_exit ?_ | refine N_then_ret ?_ | refine N_block ?_ | refine N_block_ret ?_ | refine N_block_exit ?_ | refine N_block_pass rfl ?_ | refine sp true rfl rfl (by rw [hn]; rfl) (by first | trivial | (simp; done) | (simp; omega) | (simp at *; done) | (simp at *; omega)) ?_ | refine sg true rfl rfl rfl (by rw [hn]; rfl) (by intro hG; first | trivial | (simp; done) | (simp; omega) | (simp at *; done) | (simp at *; omega)) ?_)
      refine sp false rfl rfl (by rw [hn]; rfl) (by first | trivial | (simp; done) | (simp; omega) | (simp at *; done) | (simp at *; omega)) ?_
      repeat (first | refine W_seq ?_ | refine W_region ?_ | refine W_block ?_ | refine W_skip ?_ | refine W_ret ?_ | refine W_exit ?_ | refine WL_nil ?_ | refine N_then ?_ | refine N_then_exit ?_ | refine N_then_ret ?_ | refine N_block ?_ | refine N_block_ret ?_ | refine N_block_exit ?_ | refine N_block_pass rfl ?_ | refine sp true rfl rfl (by rw [hn]; rfl) (by first | trivial | (simp; done) | (simp; omega) | (simp at *; done) | (simp at *; omega)) ?_ | refine sg true rfl rfl rfl (by rw [hn]; rfl) (by intro hG; first | trivial | (simp; done) | (simp; omega) | (simp at *; done) | (simp at *; omega)) ?_)
      refine s_litI rfl rfl rfl (by rw [hn]; rfl) (elt_mk Try.underlying22 rfl rfl) (zok5) (by first | trivial | (simp; done) | (simp; omega) | (simp at *; done) | (simp at *; omega)) ⟨by decide, rfl⟩ ?_
      repeat (first | refine W_seq ?_ | refine W_region ?_ | refine W_block ?_ | refine W_skip ?_ | refine W_ret ?_ | refine W_exit ?_ | refine WL_nil ?_ | refine N_then ?_ | refine N_then_exit ?_ | refine N_then_ret ?_ | refine N_block ?_ | refine N_block_ret ?_ | refine N_block_exit ?_ | refine N_block_pass rfl ?_ | refine sp true rfl rfl (by rw [hn]; rfl) (by first | trivial | (simp; done) | (simp; omega) | (simp at *; done) | (simp at *; omega)) ?_ | refine sg true rfl rfl rfl (by rw [hn]; rfl) (by intro hG; first | trivial | (simp; done) | (simp; omega) | (simp at *; done) | (simp at *; omega)) ?_)
      refine s_appI rfl rfl rfl rfl rfl rfl (by rw [hn]; rfl) (elt_mk Try.underlying22 rfl rfl) rfl rfl rfl rfl (by first | trivial | (simp; done) | (simp; omega) | (simp at *; done) | (simp at *; omega)) (by first | rfl | (simp; done) | (simp; omega)) ⟨by first | (simp; done) | (simp; omega) | (simp at *; omega), by decide⟩ ?_
      repeat (first | refine W_seq ?_ | refine W_region ?_ | refine W_block ?_ | refine W_skip ?_ | refine W_ret ?_ | refine W_exit ?_ | refine WL_nil ?_ | refine N_then ?_ | refine N_then_exit ?_ | refine N_then_ret ?_ | refine N_block ?_ | refine N_block_ret ?_ | refine N_block_exit ?_ | refine N_block_pass rfl ?_ | refine sp true rfl rfl (by rw [hn]; rfl) (by first | trivial | (simp; done) | (simp; omega) | (simp at *; done) | (simp at *; omega)) ?_ | refine sg true rfl rfl rfl (by rw [hn]; rfl) (by intro hG; first | trivial | (simp; done) | (simp; omega) | (simp at *; done) | (simp at *; omega)) ?_)
      refine N_round ⟨i + 1, by omega⟩ (by dsimp only; omega) (St.le_of ⟨⟨rfl, rfl, rfl, congrArg (fun E => own85 E) hnx, rfl⟩, ⟨rfl, rfl, congrArg (fun E => Blk.row (.ints .u8 E)) hnx⟩⟩)
    · have : i = 8 := by simp at hc2; omega
      subst this
      rw [List.take_of_length_le (by omega)]
      have hDl : (E1 ++ L).length % 64 = 0 := by simp; omega
      have hDw : WfB (E1 ++ L) := wf_app hE1wf hLw
      generalize E1 ++ L = D at *
      repeat (first | refine W_seq ?_ | refine W_region ?_ | refine W_block ?_ | refine W_skip ?_ | refine W_ret ?_ | refine W_exit ?_ | refine WL_nil ?_ | refine N_then ?_ | refine N_then_exit ?_ | refine N_then_ret ?_ | refine N_block ?_ | refine N_block_ret ?_ | refine N_block_exit ?_ | refine N_block_pass rfl ?_ | refine sp true rfl rfl (by rw [hn]; rfl) (by first | trivial | (simp; done) | (simp; omega) | (simp at *; done) | (simp at *; omega)) ?_ | refine sg true rfl rfl rfl (by rw [hn]; rfl) (by intro hG; first | trivial | (simp; done) | (simp; omega) | (simp at *; done) | (simp at *; omega)) ?_)
      refine W_weaken (St.le_of (l := [(2, .c (.ptr 66 0)), (3, .c (.ptr 72 0)), (5, own85 D)]) (h := [(66, .row (.ints .u8 (List.replicate 32 0))), (72, .cells (hC v0 true .un (n0 : Int))), (85, .row (.ints .u8 D))]) (by refine ⟨?_, ?_⟩ <;> (repeat' (first | exact trivial | exact rfl | refine ⟨?_, ?_⟩)) <;> first | exact rfl | (simp; done) | skip)) ?_
      refine W_weaken (τ := St.of [(2, .c (.ptr 66 0)), (3, .c (.ptr 72 0)), (5, .c (.own 85 1 (64 * 0) (D.length - 64 * 0)))] [(66, .row (.ints .u8 (List.replicate 32 0))), (72, .cells (hC v0 true .un (n0 : Int))), (85, .row (.ints .u8 D))]) ?_ ?_
      · exact ⟨fun _ => .inl rfl, fun _ => .inl rfl⟩
      refine W_loop (ι := {p : SI // 64 * p.k ≤ D.length ∧ finS p.v (D.drop (64 * p.k)) = FS ∧ p.v.ok}) (fun p => St.of [(2, .c (.ptr 66 0)), (3, .c (.ptr 72 0)), (5, .c (.own 85 1 (64 * p.1.k) (D.length - 64 * p.1.k)))] [(66, .row (.ints .u8 (List.replicate 32 0))), (72, .cells (hC p.1.v true .un (n0 : Int))), (85, .row (.ints .u8 D))]) (fun p => D.length - 64 * p.1.k) (fun p => ?_) ⟨⟨v0, 0⟩, by dsimp only; omega, hFS2, hv⟩
      obtain ⟨⟨v1, k⟩, q1, q2, q3⟩ := p
      have hkD : 64 * k ≤ D.length := q1
      have hfs : finS v1 (D.drop (64 * k)) = FS := q2
      have hv1 : v1.ok := q3
      dsimp only
      clear q1 q2 q3
      have hdl : (D.drop (64 * k)).length = D.length - 64 * k := by simp
      repeat (first | refine W_seq ?_ | refine W_region ?_ | refine W_block ?_ | refine W_skip ?_ | refine W_ret ?_ | refine W_exit ?_ | refine WL_nil ?_ | refine N_then ?_ | refine N_then_exit ?_ | refine N_then_ret ?_ | refine N_block ?_ | refine N_block_ret ?_ | refine N_block_exit ?_ | refine N_block_pass rfl ?_ | refine sp true rfl rfl (by rw [hn]; rfl) (by first | trivial | (simp; done) | (simp; omega) | (simp at *; done) | (simp at *; omega)) ?_ | refine sg true rfl rfl rfl (by rw [hn]; rfl) (by intro hG; first | trivial | (simp; done) | (simp; omega) | (simp at *; done) | (simp at *; omega)) ?_)
      refine W_cond rfl (by simp) (fun hc3 => ?_) (fun hc3 => ?_)
      · have h64 : 64 * k + 64 ≤ D.length := by simp at hc3; omega
        have hbo := block_un v1 true (n0 : Int) D (64 * k) hv1 h64 hDw
        rw [finS_step v1 _ (by omega), List.drop_drop] at hfs
        have hv2 := compS_ok v1 ((D.drop (64 * k)).take 64)
        generalize compS v1 ((D.drop (64 * k)).take 64) = v2 at *
        repeat (first | refine W_seq ?_ | refine W_region ?_ | refine W_block ?_ | refine W_skip ?_ | refine W_ret ?_ | refine W_exit ?_ | refine WL_nil ?_ | refine N_then ?_ | refine N_then_exit ?_ | refine N_then_ret ?_ | refine N_block ?_ | refine N_block_ret ?_ | refine N_block_exit ?_ | refine N_block_pass rfl ?_ | refine sp true rfl rfl (by rw [hn]; rfl) (by first | trivial | (simp; done) | (simp; omega) | (simp at *; done) | (simp at *; omega)) ?_ | refine sg true rfl rfl rfl (by rw [hn]; rfl) (by intro hG; first | trivial | (simp; done) | (simp; omega) | (simp at *; done) | (simp at *; omega)) ?_)
        refine W_drawW 5 (by kernel_rfl) (by kernel_rfl) (by kernel_rfl) (by rw [hn]; rfl) rfl rfl ?_
        repeat (first | refine DrawW_cons rfl (ops_pure true rfl rfl (by first | trivial | (simp; done) | (simp; omega) | (simp at *; done) | (simp at *; omega))) ?_ | refine DrawW_cons rfl (ops_pureG true rfl rfl rfl (by intro hG; first | trivial | (simp; done) | (simp; omega) | (simp at *; done) | (simp at *; omega))) ?_ | refine DrawW_nil ?_)
        repeat (first | refine W_seq ?_ | refine W_region ?_ | refine W_block ?_ | refine W_skip ?_ | refine W_ret ?_ | refine W_exit ?_ | refine WL_nil ?_ | refine N_then ?_ | refine N_then_exit ?_ | refine N_then_ret ?_ | refine N_block ?_ | refine N_block_ret ?_ | refine N_block_exit ?_ | refine N_block_pass rfl ?_ | refine sp true rfl rfl (by rw [hn]; rfl) (by first | trivial | (simp; done) | (simp; omega) | (simp at *; done) | (simp at *; omega)) ?_ | refine sg true rfl rfl rfl (by rw [hn]; rfl) (by intro hG; first | trivial | (simp; done) | (simp; omega) | (simp at *; done) | (simp at *; omega)) ?_)
        refine s_call [72, 85] hbo rfl rfl (by rw [hn]; rfl) rfl rfl (by trivial) ⟨rfl, ⟨rfl, rfl⟩, by simp [ordL], rfl⟩ ?_
        repeat (first | refine W_seq ?_ | refine W_region ?_ | refine W_block ?_ | refine W_skip ?_ | refine W_ret ?_ | refine W_exit ?_ | refine WL_nil ?_ | refine N_then ?_ | refine N_then_exit ?_ | refine N_then_ret ?_ | refine N_block ?_ | refine N_block_ret ?_ | refine N_block_exit ?_ | refine N_block_pass rfl ?_ | refine sp true rfl rfl (by rw [hn]; rfl) (by first | trivial | (simp; done) | (simp; omega) | (simp at *; done) | (simp at *; omega)) ?_ | refine sg true rfl rfl rfl (by rw [hn]; rfl) (by intro hG; first | trivial | (simp; done) | (simp; omega) | (simp at *; done) | (simp at *; omega)) ?_)
        have e1 : D.length - 64 * k - 64 = D.length - 64 * (k + 1) := by omega
        refine N_round ⟨⟨v2, k + 1⟩, by dsimp only; omega, hfs, hv2⟩ (by dsimp only; omega) (St.le_of ⟨⟨rfl, rfl, ?_⟩, ⟨rfl, rfl, rfl⟩⟩)
        dsimp only
        rw [← e1]
        rfl
      · have h0 : D.length - 64 * k = 0 := by simp at hc3; omega
        rw [finS_done v1 _ (by omega)] at hfs
        subst hfs
        have hby := bytes_ok v1 true (n0 : Int)
        have hbl : v1.bytes.length = 32 := rfl
        have hbn : v1.bytes ≠ [] := by intro h; rw [h] at hbl; simp at hbl
        generalize v1.bytes = B at *
        repeat (first | refine W_seq ?_ | refine W_region ?_ | refine W_block ?_ | refine W_skip ?_ | refine W_ret ?_ | refine W_exit ?_ | refine WL_nil ?_ | refine N_then ?_ | refine N_then_exit ?_ | refine N_then_ret ?_ | refine N_block ?_ | refine N_block_ret ?_ | refine N_block_exit ?_ | refine N_block_pass rfl ?_ | refine sp true rfl rfl (by rw [hn]; rfl) (by first | trivial | (simp; done) | (simp; omega) | (simp at *; done) | (simp at *; omega)) ?_ | refine sg true rfl rfl rfl (by rw [hn]; rfl) (by intro hG; first | trivial | (simp; done) | (simp; omega) | (simp at *; done) | (simp at *; omega)) ?_)
        refine s_call [72] hby rfl rfl (by rw [hn]; rfl) rfl rfl (by trivial) ⟨rfl, rfl, by simp [ordL], rfl⟩ ?_
        refine s_storeA rfl rfl rfl rfl rfl (by first | trivial | (simp; done) | (simp; omega) | (simp at *; done) | (simp at *; omega)) rfl (by rw [cellsOf56]; first | rfl | assumption | omega | kernel_rfl | (simp; done) | (simp; omega) | (simp at *; omega)) (by first | rfl | assumption | omega | kernel_rfl | (simp; done) | (simp; omega) | (simp at *; omega)) (by first | assumption | (simp; done) | exact List.cons_ne_nil _ _) ?_
        repeat (first | refine W_seq ?_ | refine W_region ?_ | refine W_block ?_ | refine W_skip ?_ | refine W_ret ?_ | refine W_exit ?_ | refine WL_nil ?_ | refine N_then ?_ | refine N_then_exit ?_ | refine N_then_ret ?_ | refine N_block ?_ | refine N_block_ret ?_ | refine N_block_exit ?_ | refine N_block_pass rfl ?_ | refine sp true rfl rfl (by rw [hn]; rfl) (by first | trivial | (simp; done) | (simp; omega) | (simp at *; done) | (simp at *; omega)) ?_ | refine sg true rfl rfl rfl (by rw [hn]; rfl) (by intro hG; first | trivial | (simp; done) | (simp; omega) | (simp at *; done) | (simp at *; omega)) ?_)
        exact N_retN [] rfl (⟨rfl, by rw [cellsOf56]; omega, hbn⟩) ⟨rfl, by first | trivial | exact ⟨rfl, rfl⟩, by first | trivial | exact rfl | exact ⟨rfl, rfl⟩, rfl⟩ hb rfl (by first | trivial | (simp; done) | (simp [ordL]; done))
theorem or8 {a b : Int} (ha : 0 ≤ a ∧ a < 256) (hb : 0 ≤ b ∧ b < 256) : IntKind.u8.wrap (BitVec.ofInt IntKind.u8.bits a ||| BitVec.ofInt IntKind.u8.bits b).toNat = ((a.toNat ||| b.toNat : Nat) : Int) ∧ a.toNat ||| b.toNat < 256 := by
  obtain ⟨m, rfl⟩ : ∃ n : Nat, a = n := ⟨a.toNat, by omega⟩
  obtain ⟨n, rfl⟩ : ∃ n : Nat, b = n := ⟨b.toNat, by omega⟩
  have bv8 : ∀ n : Nat, n < 256 → (BitVec.ofInt IntKind.u8.bits (n : Int)).toNat = n := by
    intro n h
    have : (BitVec.ofInt 8 (n : Int)).toNat = n := by
      rw [BitVec.ofInt_natCast, BitVec.toNat_ofNat]
      exact Nat.mod_eq_of_lt h
    exact this
  have h2 : m ||| n < 2 ^ 8 := Nat.or_lt_two_pow (by omega) (by omega)
  rw [BitVec.toNat_or, bv8 m (by omega), bv8 n (by omega), Int.toNat_natCast, Int.toNat_natCast]
  refine ⟨?_, by omega⟩
  rw [wrap_u8]
  omega
theorem or_zero {a b : Nat} : a ||| b = 0 ↔ a = 0 ∧ b = 0 := by
  constructor
  · intro h
    have h1 : a ≤ a ||| b := Nat.left_le_or
    have h2 : b ≤ a ||| b := Nat.right_le_or
    omega
  · rintro ⟨rfl, rfl⟩; rfl
theorem xI_zero {a b : Int} (ha : 0 ≤ a) (hb : 0 ≤ b) : xI a b = 0 ↔ a = b := by
  obtain ⟨m, rfl⟩ : ∃ n : Nat, a = n := ⟨a.toNat, by omega⟩
  obtain ⟨n, rfl⟩ : ∃ n : Nat, b = n := ⟨b.toNat, by omega⟩
  have e : xI (m : Int) (n : Int) = ((m ^^^ n : Nat) : Int) := rfl
  rw [e]
  constructor
  · intro h
    have h1 : m ^^^ n = 0 := by omega
    have : m = n := Nat.eq_of_testBit_eq fun i => by
      have h2 := congrArg (fun z => Nat.testBit z i) h1
      simpa using h2
    omega
  · intro h
    have : m = n := by omega
    subst this
    simp
structure SQ where
  i : Nat
  x : Int
theorem msame_ok (a b : List Int) (ha : a.length ≤ 1000000) (hb' : b.length ≤ 1000000) (hwa : WfB a) (hwb : WfB b) : Ct Try.prog 46 [B8 a, B8 b] [] (lv (.bool (decide (a = b)))) [] [] := by
  refine Ct_intro Try.func46 rfl rfl rfl rfl rfl (fun E hn hb => ?_)
  repeat (first | refine W_seq ?_ | refine W_region ?_ | refine W_block ?_ | refine W_skip ?_ | refine W_ret ?_ | refine W_exit ?_ | refine WL_nil ?_ | refine N_then ?_ | refine N_then_exit ?_ | refine N_then_ret ?_ | refine N_block ?_ | refine N_block_ret ?_ | refine N_block_exit ?_ | refine N_block_pass rfl ?_ | refine sp true rfl rfl (by rw [hn]; rfl) (by first | trivial | (simp; done) | (simp; omega) | (simp at *; done) | (simp at *; omega)) ?_ | refine sg true rfl rfl rfl (by rw [hn]; rfl) (by intro hG; first | trivial | (simp; done) | (simp; omega) | (simp at *; done) | (simp at *; omega)) ?_)
  refine W_cond rfl (by simp) (fun hq => ?_) (fun hq => ?_)
  · have hne : a ≠ b := by intro h; subst h; simp at hq
    have e : decide (a = b) = false := by simp [hne]
    rw [e]
    repeat (first | refine W_seq ?_ | refine W_region ?_ | refine W_block ?_ | refine W_skip ?_ | refine W_ret ?_ | refine W_exit ?_ | refine WL_nil ?_ | refine N_then ?_ | refine N_then_exit ?_ | refine N_then_ret ?_ | refine N_block ?_ | refine N_block_ret ?_ | refine N_block_exit ?_ | refine N_block_pass rfl ?_ | refine sp true rfl rfl (by rw [hn]; rfl) (by first | trivial | (simp; done) | (simp; omega) | (simp at *; done) | (simp at *; omega)) ?_ | refine sg true rfl rfl rfl (by rw [hn]; rfl) (by intro hG; first | trivial | (simp; done) | (simp; omega) | (simp at *; done) | (simp at *; omega)) ?_)
    exact N_retN [] rfl (by first | trivial | (simp; done) | (simp; omega) | (simp at *; done) | (simp at *; omega)) ⟨rfl, by first | trivial | exact ⟨rfl, rfl⟩, by first | trivial | exact rfl | exact ⟨rfl, rfl⟩, rfl⟩ hb rfl (by first | trivial | (simp; done) | (simp [ordL]; done))
  · have hle : a.length = b.length := by simp at hq; omega
    repeat (first | refine W_seq ?_ | refine W_region ?_ | refine W_block ?_ | refine W_skip ?_ | refine W_ret ?_ | refine W_exit ?_ | refine WL_nil ?_ | refine N_then ?_ | refine N_then_exit ?_ | refine N_then_ret ?_ | refine N_block ?_ | refine N_block_ret ?_ | refine N_block_exit ?_ | refine N_block_pass rfl ?_ | refine sp true rfl rfl (by rw [hn]; rfl) (by first | trivial | (simp; done) | (simp; omega) | (simp at *; done) | (simp at *; omega)) ?_ | refine sg true rfl rfl rfl (by rw [hn]; rfl) (by intro hG; first | trivial | (simp; done) | (simp; omega) | (simp at *; done) | (simp at *; omega)) ?_)
    refine W_weaken (St.le_of (l := [(0, B8 a), (1, B8 b), (5, lv (.int .u8 0)), (13, lv (.int .i64 (a.length : Int))), (14, lv (.int .i64 0))]) (h := []) (by refine ⟨?_, ?_⟩ <;> (repeat' (first | exact trivial | exact rfl | refine ⟨?_, ?_⟩)) <;> first | exact rfl | (simp; done) | skip)) ?_
    refine W_loop (ι := {p : SQ // p.i ≤ a.length ∧ 0 ≤ p.x ∧ p.x < 256 ∧ (p.x = 0 ↔ a.take p.i = b.take p.i)}) (fun p => St.of [(0, B8 a), (1, B8 b), (5, lv (.int .u8 p.1.x)), (13, lv (.int .i64 (a.length : Int))), (14, lv (.int .i64 (p.1.i : Int)))] []) (fun p => a.length - p.1.i) (fun p => ?_) ⟨⟨0, 0⟩, by simp, by simp, by simp, by simp⟩
    obtain ⟨⟨i, x⟩, q1, q2, q3, q4⟩ := p
    have hi : i ≤ a.length := q1
    have hx : 0 ≤ x ∧ x < 256 := ⟨q2, q3⟩
    have hxe : x = 0 ↔ a.take i = b.take i := q4
    dsimp only
    clear q1 q2 q3 q4
    repeat (first | refine W_seq ?_ | refine W_region ?_ | refine W_block ?_ | refine W_skip ?_ | refine W_ret ?_ | refine W_exit ?_ | refine WL_nil ?_ | refine N_then ?_ | refine N_then_exit ?_ | refine N_then_ret ?_ | refine N_block ?_ | refine N_block_ret ?_ | refine N_block_exit ?_ | refine N_block_pass rfl ?_ | refine sp true rfl rfl (by rw [hn]; rfl) (by first | trivial | (simp; done) | (simp; omega) | (simp at *; done) | (simp at *; omega)) ?_ | refine sg true rfl rfl rfl (by rw [hn]; rfl) (by intro hG; first | trivial | (simp; done) | (simp; omega) | (simp at *; done) | (simp at *; omega)) ?_)
    refine W_cond rfl (by simp) (fun hc => ?_) (fun hc => ?_)
    · have hia : i < a.length := by simpa using hc
      have hga := wf_get hwa (i : Int).toNat
      have hgb := wf_get hwb (i : Int).toNat
      obtain ⟨x1, x2⟩ := xor8 hga hgb
      obtain ⟨o1, o2⟩ := or8 hx x2
      have hxz := xI_zero hga.1 hgb.1
      have ht : a.take (i + 1) = b.take (i + 1) ↔ a.take i = b.take i ∧ a.getD (i : Int).toNat 0 = b.getD (i : Int).toNat 0 := by
        have hib : i < b.length := by omega
        have ga : a.getD i 0 = a[i] := by simp [hia]
        have gb : b.getD i 0 = b[i] := by simp [hib]
        rw [List.take_succ_eq_append_getElem hia, List.take_succ_eq_append_getElem hib, Int.toNat_natCast, ga, gb]
        constructor
        · intro h
          obtain ⟨k1, k2⟩ := List.append_inj' h rfl
          exact ⟨k1, by simpa using k2⟩
        · rintro ⟨k1, k2⟩
          rw [k1, k2]
      repeat (first | refine W_seq ?_ | refine W_region ?_ | refine W_block ?_ | refine W_skip ?_ | refine W_ret ?_ | refine W_exit ?_ | refine WL_nil ?_ | refine N_then ?_ | refine N_then_exit ?_ | refine N_then_ret ?_ | refine N_block ?_ | refine N_block_ret ?_ | refine N_block_exit ?_ | refine N_block_pass rfl ?_ | refine sp true rfl rfl (by rw [hn]; rfl) (by first | trivial | (simp; done) | (simp; omega) | (simp at *; done) | (simp at *; omega)) ?_ | refine sg true rfl rfl rfl (by rw [hn]; rfl) (by intro hG; first | trivial | (simp; done) | (simp; omega) | (simp at *; done) | (simp at *; omega)) ?_)
      refine W_drawW 11 (by kernel_rfl) (by kernel_rfl) (by kernel_rfl) (by rw [hn]; rfl) rfl rfl ?_
      repeat (first | refine DrawW_cons rfl (ops_pure true rfl rfl (by first | trivial | (simp; done) | (simp; omega) | (simp at *; done) | (simp at *; omega))) ?_ | refine DrawW_cons rfl (ops_pureG true rfl rfl rfl (by intro hG; first | trivial | (simp; done) | (simp; omega) | (simp at *; done) | (simp at *; omega))) ?_ | refine DrawW_nil ?_)
      repeat (first | refine W_seq ?_ | refine W_region ?_ | refine W_block ?_ | refine W_skip ?_ | refine W_ret ?_ | refine W_exit ?_ | refine WL_nil ?_ | refine N_then ?_ | refine N_then_exit ?_ | refine N_then_ret ?_ | refine N_block ?_ | refine N_block_ret ?_ | refine N_block_exit ?_ | refine N_block_pass rfl ?_ | refine sp true rfl rfl (by rw [hn]; rfl) (by first | trivial | (simp; done) | (simp; omega) | (simp at *; done) | (simp at *; omega)) ?_ | refine sg true rfl rfl rfl (by rw [hn]; rfl) (by intro hG; first | trivial | (simp; done) | (simp; omega) | (simp at *; done) | (simp at *; omega)) ?_)
      refine N_round ⟨⟨i + 1, ((x.toNat ||| (xI (a.getD (i : Int).toNat 0) (b.getD (i : Int).toNat 0)).toNat : Nat) : Int)⟩, by dsimp only; omega, by dsimp only; omega, by dsimp only; omega, ?_⟩ (by dsimp only; omega) (St.le_of ⟨⟨rfl, rfl, ?_, rfl, rfl⟩, trivial⟩)
      · dsimp only
        rw [ht, ← hxe, ← hxz]
        have h0 : ∀ z : Nat, ((z : Nat) : Int) = 0 ↔ z = 0 := fun z => by omega
        rw [h0, or_zero]
        omega
      · dsimp only
        refine congrArg (fun y => lv (.int .u8 y)) ?_
        rw [x1]
        exact o1
    · have : i = a.length := by simp at hc; omega
      subst this
      rw [List.take_length, hle, List.take_length] at hxe
      repeat (first | refine W_seq ?_ | refine W_region ?_ | refine W_block ?_ | refine W_skip ?_ | refine W_ret ?_ | refine W_exit ?_ | refine WL_nil ?_ | refine N_then ?_ | refine N_then_exit ?_ | refine N_then_ret ?_ | refine N_block ?_ | refine N_block_ret ?_ | refine N_block_exit ?_ | refine N_block_pass rfl ?_ | refine sp true rfl rfl (by rw [hn]; rfl) (by first | trivial | (simp; done) | (simp; omega) | (simp at *; done) | (simp at *; omega)) ?_ | refine sg true rfl rfl rfl (by rw [hn]; rfl) (by intro hG; first | trivial | (simp; done) | (simp; omega) | (simp at *; done) | (simp at *; omega)) ?_)
      refine N_retN [] rfl (by first | trivial | (simp; done) | (simp; omega) | (simp at *; done) | (simp at *; omega)) ⟨?_, by first | trivial | exact ⟨rfl, rfl⟩, ?_, rfl⟩ hb rfl (by first | trivial | (simp; done) | (simp [ordL]; done))
      · refine congrArg (fun y => lv (.bool y)) ?_
        rw [← decide_eq_decide.2 hxe]
        exact (Bool.beq_eq_decide_eq _ _)
      · trivial
end Go.Proofs.Ytppmfjopokkhmaa

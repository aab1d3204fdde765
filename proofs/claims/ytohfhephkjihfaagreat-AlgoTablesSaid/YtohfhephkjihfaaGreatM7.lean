/-
  Chapter 12: digests, tags. The conditions: bytes that are bytes, at most a million of them.
-/
import Derived.Test.YtohfhephkjihfaaGreatM5
namespace Go.Proofs.YtohfhephkjihfaaGreat
set_option linter.unusedSimpArgs false
set_option linter.unusedVariables false
open Go.Sx
set_option maxRecDepth 10000
def padZ (n : Nat) : Nat := (119 - n % 64) % 64
theorem padS_eq (n : Nat) : padS n = 128 :: (List.replicate (padZ n) 0 ++ lenBytes n) := rfl
theorem lenBytes_wf (n : Nat) : WfB (lenBytes n) := by
 intro x hx
 simp only [lenBytes, List.mem_map] at hx
 obtain ⟨i, _, rfl⟩ := hx
 exact ⟨Int.emod_nonneg _ (by decide), Int.emod_lt_of_pos _ (by decide)⟩
theorem lenBytes_get (n i : Nat) (hi : i < 8) (hn : n ≤ 1000000) : (lenBytes n)[i]? = some ((n : Int) * 8 / 2 ^ (56 - 8 * i) % 256) := by
 have e : ((8 * n : Nat) : Int) % 18446744073709551616 = (n : Int) * 8 := by omega
 have : i = 0 ∨ i = 1 ∨ i = 2 ∨ i = 3 ∨ i = 4 ∨ i = 5 ∨ i = 6 ∨ i = 7 := by omega
 rcases this with rfl | rfl | rfl | rfl | rfl | rfl | rfl | rfl <;> simp only [lenBytes, e] <;> rfl
theorem replicate_wf (k : Nat) : WfB (List.replicate k (0 : Int)) := by
 intro x hx
 rw [(List.mem_replicate.1 hx).2]
 omega
structure SI where
 v : V8
 k : Nat
abbrev own85 (E : List Int) : Av := .c (.own 85 1 0 E.length)
set_option maxHeartbeats 8000000 in
theorem hsum_ok (v : V8) (bg : Bool) (x : List Int) (n : Nat) (hv : (cond bg v H0).ok) (hx : WfB x) (hxl : x.length = n % 64) (hn1 : n ≤ 1000000) :
   Ct Tryz.prog 42 [.c (.ptr 0 0)] [.cells (hC v bg (.own 1 1 0 x.length) (n : Int)), .row (.ints .u8 x)] (.ai .u8 (finS (cond bg v H0) (x ++ padS n)).bytes)
     [.cells (hC v bg (.own 1 1 0 x.length) (n : Int)), .row (.ints .u8 x)] [] := by
 have hcopy := hcopy_ok v bg x.length (n : Int) x rfl (by omega)
 have hbegin := begin_ok v bg 0 x.length (n : Int) x
 have hcl := cloneO_ok x 0 x.length (by omega) (by omega)
 rw [List.drop_zero, List.take_length] at hcl
 obtain ⟨FS, hFS⟩ : ∃ FS, finS (cond bg v H0) (x ++ padS n) = FS := ⟨_, rfl⟩
 rw [hFS]
 generalize cond bg v H0 = v0 at *
 have hZ : padZ n < 64 := by unfold padZ; omega
 have hZ2 : (x.length + 1 + padZ n) % 64 = 56 := by unfold padZ; omega
 rw [padS_eq] at hFS
 generalize padZ n = z at *
 refine Ct_intro Tryz.func42 rfl rfl rfl rfl rfl (fun E hn hb => ?_)
 repeat (refine nst ?_)
 refine s_allocAN .u8 32 rfl rfl rfl (by rw [hn]; rfl) (by kernel_rfl) ?_
 repeat (refine nst ?_)
 refine s_call [0, 1] hcopy rfl rfl (by rw [hn]; rfl) rfl rfl (by trivial) ⟨rfl, ⟨rfl, rfl⟩, by simp [ordL], rfl⟩ ?_
 repeat (refine nst ?_)
 refine s_call [72, 1072] hbegin rfl rfl (by rw [hn]; rfl) rfl rfl (by trivial) ⟨rfl, ⟨rfl, rfl⟩, by simp [ordL], rfl⟩ ?_
 repeat (refine nst ?_)
 refine s_call [1072] hcl rfl rfl (by rw [hn]; rfl) rfl rfl (by trivial) ⟨rfl, rfl, by simp [ordL], rfl⟩ ?_
 refine s_litI rfl rfl rfl (by rw [hn]; rfl) (elt_mk Tryz.underlying29 rfl rfl) (zok5) (by exact vcs) ⟨by decide, rfl⟩ ?_
 repeat (refine nst ?_)
 refine s_appI rfl rfl rfl rfl rfl rfl (by rw [hn]; rfl) (elt_mk Tryz.underlying29 rfl rfl) rfl rfl rfl rfl (by exact vcs) (by first | rfl | (simp; done) | (simp; omega)) ⟨by first | (simp; done) | (simp; omega) | (simp at *; omega), by decide⟩ ?_
 repeat (refine nst ?_)
 refine W_sr (fun a w h => SR.cellsW (cs := hC v0 true (.own 1072 1 0 x.length) (n : Int)) 72 (hC v0 true .un (n : Int)) rfl ⟨.inr (.inl rfl), .inr (.inl rfl), .inr (.inl rfl), .inr (.inl rfl), .inr (.inl rfl), .inr (.inl rfl), .inr (.inl rfl), .inr (.inl rfl), .inr (.inl rfl), .inl rfl, .inr (.inl rfl), trivial⟩ h) ?_
 refine W_weaken (St.le_of (l := [(2, .c (.ptr 66 0)), (3, .c (.ptr 72 0)), (4, lv (.int .u64 ((n : Int) * 8))), (5, own85 (x ++ [128]))]) (h := [(0, .cells (hC v bg (.own 1 1 0 x.length) (n : Int))), (1, .row (.ints .u8 x)), (66, .row (.ints .u8 (List.replicate 32 0))), (72, .cells (hC v0 true .un (n : Int))), (85, .row (.ints .u8 (x ++ [128])))]) (by refine ⟨?_, ?_⟩ <;> (repeat' (first | exact trivial | exact rfl | refine ⟨?_, ?_⟩)) <;> first | exact rfl | (simp; done) | skip)) ?_
 refine W_loop (ι := {k : Nat // k ≤ z}) (fun k => St.of [(2, .c (.ptr 66 0)), (3, .c (.ptr 72 0)), (4, lv (.int .u64 ((n : Int) * 8))), (5, own85 (x ++ 128 :: List.replicate k.1 0))] [(0, .cells (hC v bg (.own 1 1 0 x.length) (n : Int))), (1, .row (.ints .u8 x)), (66, .row (.ints .u8 (List.replicate 32 0))), (72, .cells (hC v0 true .un (n : Int))), (85, .row (.ints .u8 (x ++ 128 :: List.replicate k.1 0)))]) (fun k => z - k.1) (fun k => ?_) ⟨0, by omega⟩
 obtain ⟨k, hk⟩ := k
 dsimp only
 have hEl : (x ++ 128 :: List.replicate k 0).length = x.length + 1 + k := by simp; omega
 have hEn : (x ++ 128 :: List.replicate k 0) ++ [0] = (x ++ 128 :: List.replicate (k + 1) 0) := by rw [List.replicate_succ', List.append_assoc]; rfl
 repeat (refine nst ?_)
 refine W_cond rfl (by simp) (fun hc => ?_) (fun hc => ?_)
 · have hne : (x.length + 1 + k) % 64 ≠ 56 := by rw [hEl] at hc; simp at hc; omega
   have hkz : k < z := by
     rcases Nat.lt_or_ge k z with h | h
     · exact h
     · have : k = z := by omega
       subst this; omega
   repeat (refine nst ?_)
   refine s_litI rfl rfl rfl (by rw [hn]; rfl) (elt_mk Tryz.underlying29 rfl rfl) (zok5) (by exact vcs) ⟨by decide, rfl⟩ ?_
   repeat (refine nst ?_)
   refine s_appI rfl rfl rfl rfl rfl rfl (by rw [hn]; rfl) (elt_mk Tryz.underlying29 rfl rfl) rfl rfl rfl rfl (by exact vcs) (by first | rfl | (simp; done) | (simp; omega)) ⟨by first | (simp; done) | (simp; omega) | (simp at *; omega), by decide⟩ ?_
   repeat (refine nst ?_)
   refine N_round ⟨k + 1, by omega⟩ (by dsimp only; omega) (St.le_of ⟨⟨rfl, rfl, rfl, congrArg (fun E => own85 E) hEn⟩, ⟨rfl, rfl, rfl, rfl, congrArg (fun E => Blk.row (.ints .u8 E)) hEn⟩⟩)
 · have heq : (x.length + 1 + k) % 64 = 56 := by rw [hEl] at hc; simp at hc; omega
   have hkz : k = z := by omega
   subst hkz
   have hE1wf : WfB (x ++ 128 :: List.replicate k 0) := wf_app hx fun y hy => by
     cases hy with
     | head => omega
     | tail _ hy => exact replicate_wf k y hy
   have hLl : (lenBytes n).length = 8 := rfl
   have hLg := fun i hi => lenBytes_get n i hi hn1
   have hLw := lenBytes_wf n
   have hFS2 : finS v0 ((x ++ 128 :: List.replicate k 0) ++ lenBytes n) = FS := by rw [← hFS, List.append_assoc]; rfl
   clear hEn hFS
   generalize (x ++ 128 :: List.replicate k 0) = E1 at *
   generalize lenBytes n = L at *
   repeat (refine nst ?_)
   refine W_weaken (St.le_of (l := [(2, .c (.ptr 66 0)), (3, .c (.ptr 72 0)), (4, lv (.int .u64 ((n : Int) * 8))), (5, own85 E1), (31, lv (.int .i64 0))]) (h := [(0, .cells (hC v bg (.own 1 1 0 x.length) (n : Int))), (1, .row (.ints .u8 x)), (66, .row (.ints .u8 (List.replicate 32 0))), (72, .cells (hC v0 true .un (n : Int))), (85, .row (.ints .u8 E1))]) (by refine ⟨?_, ?_⟩ <;> (repeat' (first | exact trivial | exact rfl | refine ⟨?_, ?_⟩)) <;> first | exact rfl | (simp; done) | skip)) ?_
   refine W_weaken (τ := St.of [(2, .c (.ptr 66 0)), (3, .c (.ptr 72 0)), (4, lv (.int .u64 ((n : Int) * 8))), (5, own85 (E1 ++ L.take 0)), (31, lv (.int .i64 ((0 : Nat) : Int)))] [(0, .cells (hC v bg (.own 1 1 0 x.length) (n : Int))), (1, .row (.ints .u8 x)), (66, .row (.ints .u8 (List.replicate 32 0))), (72, .cells (hC v0 true .un (n : Int))), (85, .row (.ints .u8 (E1 ++ L.take 0)))]) ?_ ?_
   · rw [List.take_zero, List.append_nil]; exact ⟨fun _ => .inl rfl, fun _ => .inl rfl⟩
   refine W_loop (ι := {i : Nat // i ≤ 8}) (fun i => St.of [(2, .c (.ptr 66 0)), (3, .c (.ptr 72 0)), (4, lv (.int .u64 ((n : Int) * 8))), (5, own85 (E1 ++ L.take i.1)), (31, lv (.int .i64 (i.1 : Int)))] [(0, .cells (hC v bg (.own 1 1 0 x.length) (n : Int))), (1, .row (.ints .u8 x)), (66, .row (.ints .u8 (List.replicate 32 0))), (72, .cells (hC v0 true .un (n : Int))), (85, .row (.ints .u8 (E1 ++ L.take i.1)))]) (fun i => 8 - i.1) (fun i => ?_) ⟨0, by omega⟩
   obtain ⟨i, hi⟩ := i
   dsimp only
   repeat (refine nst ?_)
   refine W_cond rfl (by simp) (fun hc2 => ?_) (fun hc2 => ?_)
   · have hi8 : i < 8 := by simp at hc2; omega
     have hx8 := hLg i hi8
     have hnx : (E1 ++ L.take i) ++ [IntKind.u8.wrap ((n : Int) * 8 / 2 ^ min (56 - 8 * (i : Int)).toNat IntKind.u64.bits)] = E1 ++ L.take (i + 1) := by
       have e : min (56 - 8 * (i : Int)).toNat IntKind.u64.bits = 56 - 8 * i := by simp only [bits_u64]; omega
       rw [e, wrapE8, List.append_assoc]
       congr 1
       have hlt : i < L.length := by omega
       rw [List.take_succ_eq_append_getElem hlt]
       rw [List.getElem?_eq_getElem hlt] at hx8
       rw [Option.some.inj hx8]
     repeat (refine nst ?_)
     refine sp false rfl rfl (by rw [hn]; rfl) (by exact vcs) ?_
     repeat (refine nst ?_)
     refine s_litI rfl rfl rfl (by rw [hn]; rfl) (elt_mk Tryz.underlying29 rfl rfl) (zok5) (by exact vcs) ⟨by decide, rfl⟩ ?_
     repeat (refine nst ?_)
     refine s_appI rfl rfl rfl rfl rfl rfl (by rw [hn]; rfl) (elt_mk Tryz.underlying29 rfl rfl) rfl rfl rfl rfl (by exact vcs) (by first | rfl | (simp; done) | (simp; omega)) ⟨by first | (simp; done) | (simp; omega) | (simp at *; omega), by decide⟩ ?_
     repeat (refine nst ?_)
     refine N_round ⟨i + 1, by omega⟩ (by dsimp only; omega) (St.le_of ⟨⟨rfl, rfl, rfl, congrArg (fun E => own85 E) hnx, rfl⟩, ⟨rfl, rfl, rfl, rfl, congrArg (fun E => Blk.row (.ints .u8 E)) hnx⟩⟩)
   · have : i = 8 := by simp at hc2; omega
     subst this
     rw [List.take_of_length_le (by omega)]
     have hDl : (E1 ++ L).length % 64 = 0 := by simp; omega
     have hDw : WfB (E1 ++ L) := wf_app hE1wf hLw
     generalize E1 ++ L = D at *
     repeat (refine nst ?_)
     refine W_weaken (St.le_of (l := [(2, .c (.ptr 66 0)), (3, .c (.ptr 72 0)), (5, own85 D)]) (h := [(0, .cells (hC v bg (.own 1 1 0 x.length) (n : Int))), (1, .row (.ints .u8 x)), (66, .row (.ints .u8 (List.replicate 32 0))), (72, .cells (hC v0 true .un (n : Int))), (85, .row (.ints .u8 D))]) (by refine ⟨?_, ?_⟩ <;> (repeat' (first | exact trivial | exact rfl | refine ⟨?_, ?_⟩)) <;> first | exact rfl | (simp; done) | skip)) ?_
     refine W_weaken (τ := St.of [(2, .c (.ptr 66 0)), (3, .c (.ptr 72 0)), (5, .c (.own 85 1 (64 * 0) (D.length - 64 * 0)))] [(0, .cells (hC v bg (.own 1 1 0 x.length) (n : Int))), (1, .row (.ints .u8 x)), (66, .row (.ints .u8 (List.replicate 32 0))), (72, .cells (hC v0 true .un (n : Int))), (85, .row (.ints .u8 D))]) ?_ ?_
     · exact ⟨fun _ => .inl rfl, fun _ => .inl rfl⟩
     refine W_loop (ι := {p : SI // 64 * p.k ≤ D.length ∧ finS p.v (D.drop (64 * p.k)) = FS ∧ p.v.ok}) (fun p => St.of [(2, .c (.ptr 66 0)), (3, .c (.ptr 72 0)), (5, .c (.own 85 1 (64 * p.1.k) (D.length - 64 * p.1.k)))] [(0, .cells (hC v bg (.own 1 1 0 x.length) (n : Int))), (1, .row (.ints .u8 x)), (66, .row (.ints .u8 (List.replicate 32 0))), (72, .cells (hC p.1.v true .un (n : Int))), (85, .row (.ints .u8 D))]) (fun p => D.length - 64 * p.1.k) (fun p => ?_) ⟨⟨v0, 0⟩, by dsimp only; omega, hFS2, hv⟩
     obtain ⟨⟨v1, k⟩, q1, q2, q3⟩ := p
     have hkD : 64 * k ≤ D.length := q1
     have hfs : finS v1 (D.drop (64 * k)) = FS := q2
     have hv1 : v1.ok := q3
     dsimp only
     clear q1 q2 q3
     have hdl : (D.drop (64 * k)).length = D.length - 64 * k := by simp
     repeat (refine nst ?_)
     refine W_cond rfl (by simp) (fun hc3 => ?_) (fun hc3 => ?_)
     · have h64 : 64 * k + 64 ≤ D.length := by simp at hc3; omega
       have hbo := block_un v1 true (n : Int) D (64 * k) hv1 h64 hDw
       rw [finS_step v1 _ (by omega), List.drop_drop] at hfs
       have hv2 := compS_ok v1 ((D.drop (64 * k)).take 64)
       generalize compS v1 ((D.drop (64 * k)).take 64) = v2 at *
       repeat (refine nst ?_)
       refine W_drawW 5 (by kernel_rfl) (by kernel_rfl) (by kernel_rfl) (by rw [hn]; rfl) rfl rfl ?_
       repeat (first | refine dp1 ?_ | refine dg1 ?_ | refine DrawW_nil ?_)
       repeat (refine nst ?_)
       refine s_call [72, 85] hbo rfl rfl (by rw [hn]; rfl) rfl rfl (by trivial) ⟨rfl, ⟨rfl, rfl⟩, by simp [ordL], rfl⟩ ?_
       repeat (refine nst ?_)
       have e1 : D.length - 64 * k - 64 = D.length - 64 * (k + 1) := by omega
       refine N_round ⟨⟨v2, k + 1⟩, by dsimp only; omega, hfs, hv2⟩ (by dsimp only; omega) (St.le_of ⟨⟨rfl, rfl, ?_⟩, ⟨rfl, rfl, rfl, rfl, rfl⟩⟩)
       dsimp only
       rw [← e1]
       rfl
     · have h0 : D.length - 64 * k = 0 := by simp at hc3; omega
       rw [finS_done v1 _ (by omega)] at hfs
       subst hfs
       have hby := bytes_ok v1 true (n : Int)
       have hbl : v1.bytes.length = 32 := rfl
       have hbn : v1.bytes ≠ [] := by intro h; rw [h] at hbl; simp at hbl
       generalize v1.bytes = B at *
       repeat (refine nst ?_)
       refine s_call [72] hby rfl rfl (by rw [hn]; rfl) rfl rfl (by trivial) ⟨rfl, rfl, by simp [ordL], rfl⟩ ?_
       refine s_storeA rfl rfl rfl rfl rfl (by exact vcs) rfl (by rw [cellsOf43]; first | rfl | assumption | omega | kernel_rfl | (simp; done) | (simp; omega) | (simp at *; omega)) (by first | rfl | assumption | omega | kernel_rfl | (simp; done) | (simp; omega) | (simp at *; omega)) (by first | assumption | (simp; done) | exact List.cons_ne_nil _ _) ?_
       repeat (refine nst ?_)
       exact N_retN [] rfl (⟨rfl, by rw [cellsOf43]; omega, hbn⟩) ⟨rfl, by first | trivial | exact ⟨rfl, rfl⟩, by first | trivial | exact rfl | exact ⟨rfl, rfl⟩, rfl⟩ hb rfl (by first | trivial | (simp; done) | (simp [ordL]; done))

theorem digS_len (m : List Int) : (digS m).length = 32 := rfl
theorem digS_fin (m : List Int) : (finS (finS H0 m) (finL m ++ padS m.length)).bytes = digS m := by
 rw [← (fin_app _ H0 m (padS m.length) rfl).1]
 rfl
theorem flat_wf {bs : List (List Int)} (h : ∀ b ∈ bs, WfB b) : WfB bs.flatten := by
 intro x hx
 obtain ⟨b, hb, hx⟩ := List.mem_flatten.1 hx
 exact h b hb x hx
theorem finL_mod (m : List Int) : (finL m).length = m.length % 64 := by
 unfold finL
 rw [List.length_drop]
 omega
theorem msum_ok (bs : List (List Int)) (hbs : ∀ b ∈ bs, WfB b) (hbl : bs.length ≤ 1000) (hn1 : bs.flatten.length ≤ 1000000) : Ct Tryz.prog 28 [partsA bs] [] (.ai .u8 (digS bs.flatten)) [] [] := by
 have hput := hput_ok Z8 false [] 0 bs H0_ok (fun y hy => by cases hy) hbs (by simp) hbl (by omega)
 rw [List.nil_append] at hput
 have hsum := hsum_ok (finS H0 bs.flatten) true (finL bs.flatten) (0 + bs.flatten.length) (finS_ok _ _ _ rfl H0_ok) (finL_wf (flat_wf hbs)) (by rw [finL_mod, Nat.zero_add]) (by omega)
 have hd := digS_fin bs.flatten
 have hdl := digS_len bs.flatten
 have hdn : digS bs.flatten ≠ [] := by intro h; rw [h] at hdl; simp at hdl
 rw [Nat.zero_add] at hsum hput
 simp only [cond_true, cond_false] at hsum hput
 rw [hd] at hsum
 generalize digS bs.flatten = D at *
 refine Ct_intro Tryz.func28 rfl rfl rfl rfl rfl (fun E hn hb => ?_)
 repeat (refine nst ?_)
 refine s_allocAN .u8 32 rfl rfl rfl (by rw [hn]; rfl) (by kernel_rfl) ?_
 repeat (refine nst ?_)
 refine s_call [] new_ok rfl rfl (by rw [hn]; rfl) rfl rfl (by trivial) ⟨rfl, trivial, trivial, rfl⟩ ?_
 repeat (refine nst ?_)
 refine WL_sr (fun a w h => SR.cell_nil (cs := hC Z8 false (.lf (.v (.slice none 0 0))) 0) (cs' := hC Z8 false (.own 200 1 0 0) 0) 68 9 200 rfl rfl rfl rfl rfl h) ?_
 refine s_call [68, 200] hput rfl rfl (by rw [hn]; rfl) rfl rfl (by trivial) ⟨rfl, ⟨rfl, rfl⟩, by simp [ordL], rfl⟩ ?_
 repeat (refine nst ?_)
 refine s_call [68, 71] hsum rfl rfl (by rw [hn]; rfl) rfl rfl (by trivial) ⟨rfl, ⟨rfl, rfl⟩, by simp [ordL], rfl⟩ ?_
 refine s_storeA rfl rfl rfl rfl rfl (by exact vcs) rfl (by rw [cellsOf43]; first | rfl | assumption | omega | kernel_rfl | (simp; done) | (simp; omega) | (simp at *; omega)) (by first | rfl | assumption | omega | kernel_rfl | (simp; done) | (simp; omega) | (simp at *; omega)) (by first | assumption | (simp; done) | exact List.cons_ne_nil _ _) ?_
 repeat (refine nst ?_)
 exact N_retN [] rfl (⟨rfl, by rw [cellsOf43]; omega, hdn⟩) ⟨rfl, by first | trivial | exact ⟨rfl, rfl⟩, by first | trivial | exact rfl | exact ⟨rfl, rfl⟩, rfl⟩ hb rfl (by first | trivial | (simp; done) | (simp [ordL]; done))
def keyS (k : List Int) : List Int := if 64 < k.length then digS k else k
end Go.Proofs.YtohfhephkjihfaaGreat

/-
  The layer: slices.Sorted(maps.Keys(m)) of a map of one name, by the library's own contract. The condition: a name of at most a million bytes.
-/
import Derived.Test.YtohfhephkjihfaaGreatM5
import Derived.Test.YtohfhephkjihfaaGreatW16
import Derived.Test.YtohfhephkjihfaaGreatSxR
import Derived.Test.YtohfhephkjihfaaGreatM3
import Derived.Test.YtohfhephkjihfaaGreatA12
import Derived.Test.YtohfhephkjihfaaGreatA17
import Derived.Test.YtohfhephkjihfaaGreatW27
import Derived.Test.YtohfhephkjihfaaGreatD8
import Derived.Test.YtohfhephkjihfaaGreatA14
import Derived.Test.YtohfhephkjihfaaGreatSxP
import Derived.Test.YtohfhephkjihfaaGreatO11
import Derived.Test.YtohfhephkjihfaaGreatO3
import Derived.Test.YtohfhephkjihfaaGreatC4
import Derived.Maps.Own
import Derived.Sort.KeysCollected
namespace Go.Proofs.YtohfhephkjihfaaGreat
set_option linter.unusedSimpArgs false
set_option linter.unusedVariables false
open Go.Sx
set_option maxRecDepth 10000
def padZ (n : Nat) : Nat := (119 - n % 64) % 64
theorem padS_eq (n : Nat) : padS n = 128 :: (List.replicate (padZ n) 0 ++ lenBytes n) := rfl
theorem lenBytes_wf (n : Nat) : WfB (lenBytes n) := by
 intro x hx
 simp only [lenBytes, List.mem_map] at hx
 obtain ⟨i, _, rfl⟩ := hx
 exact ⟨Int.emod_nonneg _ (by decide), Int.emod_lt_of_pos _ (by decide)⟩
theorem lenBytes_get (n i : Nat) (hi : i < 8) (hn : n ≤ 1000000) : (lenBytes n)[i]? = some ((n : Int) * 8 / 2 ^ (56 - 8 * i) % 256) := by
 have e : ((8 * n : Nat) : Int) % 18446744073709551616 = (n : Int) * 8 := by omega
 have : i = 0 ∨ i = 1 ∨ i = 2 ∨ i = 3 ∨ i = 4 ∨ i = 5 ∨ i = 6 ∨ i = 7 := by omega
 rcases this with rfl | rfl | rfl | rfl | rfl | rfl | rfl | rfl <;> simp only [lenBytes, e] <;> rfl
theorem replicate_wf (k : Nat) : WfB (List.replicate k (0 : Int)) := by
 intro x hx
 rw [(List.mem_replicate.1 hx).2]
 omega
structure SI where
 v : V8
 k : Nat
abbrev own85 (E : List Int) : Av := .c (.own 85 1 0 E.length)
set_option maxHeartbeats 8000000 in
theorem hsum_ok (v : V8) (bg : Bool) (x : List Int) (n : Nat) (hv : (cond bg v H0).ok) (hx : WfB x) (hxl : x.length = n % 64) (hn1 : n ≤ 1000000) :
   Ct Tryz.prog 42 [.c (.ptr 0 0)] [.cells (hC v bg (.own 1 1 0 x.length) (n : Int)), .row (.ints .u8 x)] (.ai .u8 (finS (cond bg v H0) (x ++ padS n)).bytes)
     [.cells (hC v bg (.own 1 1 0 x.length) (n : Int)), .row (.ints .u8 x)] [] := by
 have hcopy := hcopy_ok v bg x.length (n : Int) x rfl (by omega)
 have hbegin := begin_ok v bg 0 x.length (n : Int) x
 have hcl := cloneO_ok x 0 x.length (by omega) (by omega)
 rw [List.drop_zero, List.take_length] at hcl
 obtain ⟨FS, hFS⟩ : ∃ FS, finS (cond bg v H0) (x ++ padS n) = FS := ⟨_, rfl⟩
 rw [hFS]
 generalize cond bg v H0 = v0 at *
 have hZ : padZ n < 64 := by unfold padZ; omega
 have hZ2 : (x.length + 1 + padZ n) % 64 = 56 := by unfold padZ; omega
 rw [padS_eq] at hFS
 generalize padZ n = z at *
 refine Ct_intro Tryz.func42 rfl rfl rfl rfl rfl (fun E hn hb => ?_)
 repeat (refine nst ?_)
 refine s_allocAN .u8 32 rfl rfl rfl (by rw [hn]; rfl) (by kernel_rfl) ?_
 repeat (refine nst ?_)
 refine s_call [0, 1] hcopy rfl rfl (by rw [hn]; rfl) rfl rfl (by trivial) ⟨rfl, ⟨rfl, rfl⟩, by simp [ordL], rfl⟩ ?_
 repeat (refine nst ?_)
 refine s_call [72, 1072] hbegin rfl rfl (by rw [hn]; rfl) rfl rfl (by trivial) ⟨rfl, ⟨rfl, rfl⟩, by simp [ordL], rfl⟩ ?_
 repeat (refine nst ?_)
 refine s_call [1072] hcl rfl rfl (by rw [hn]; rfl) rfl rfl (by trivial) ⟨rfl, rfl, by simp [ordL], rfl⟩ ?_
 refine s_litI rfl rfl rfl (by rw [hn]; rfl) (elt_mk Tryz.underlying29 rfl rfl) (zok5) (by exact vcs) ⟨by decide, rfl⟩ ?_
 repeat (refine nst ?_)
 refine s_appI rfl rfl rfl rfl rfl rfl (by rw [hn]; rfl) (elt_mk Tryz.underlying29 rfl rfl) rfl rfl rfl rfl (by exact vcs) (by first | rfl | (simp; done) | (simp; omega)) ⟨by first | (simp; done) | (simp; omega) | (simp at *; omega), by decide⟩ ?_
 repeat (refine nst ?_)
 refine W_sr (fun a w h => SR.cellsW (cs := hC v0 true (.own 1072 1 0 x.length) (n : Int)) 72 (hC v0 true .un (n : Int)) rfl ⟨.inr (.inl rfl), .inr (.inl rfl), .inr (.inl rfl), .inr (.inl rfl), .inr (.inl rfl), .inr (.inl rfl), .inr (.inl rfl), .inr (.inl rfl), .inr (.inl rfl), .inl rfl, .inr (.inl rfl), trivial⟩ h) ?_
 refine W_weaken (St.le_of (l := [(2, .c (.ptr 66 0)), (3, .c (.ptr 72 0)), (4, lv (.int .u64 ((n : Int) * 8))), (5, own85 (x ++ [128]))]) (h := [(0, .cells (hC v bg (.own 1 1 0 x.length) (n : Int))), (1, .row (.ints .u8 x)), (66, .row (.ints .u8 (List.replicate 32 0))), (72, .cells (hC v0 true .un (n : Int))), (85, .row (.ints .u8 (x ++ [128])))]) (by refine ⟨?_, ?_⟩ <;> (repeat' (first | exact trivial | exact rfl | refine ⟨?_, ?_⟩)) <;> first | exact rfl | (simp; done) | skip)) ?_
 refine W_loop (ι := {k : Nat // k ≤ z}) (fun k => St.of [(2, .c (.ptr 66 0)), (3, .c (.ptr 72 0)), (4, lv (.int .u64 ((n : Int) * 8))), (5, own85 (x ++ 128 :: List.replicate k.1 0))] [(0, .cells (hC v bg (.own 1 1 0 x.length) (n : Int))), (1, .row (.ints .u8 x)), (66, .row (.ints .u8 (List.replicate 32 0))), (72, .cells (hC v0 true .un (n : Int))), (85, .row (.ints .u8 (x ++ 128 :: List.replicate k.1 0)))]) (fun k => z - k.1) (fun k => ?_) ⟨0, by omega⟩
 obtain ⟨k, hk⟩ := k
 dsimp only
 have hEl : (x ++ 128 :: List.replicate k 0).length = x.length + 1 + k := by simp; omega
 have hEn : (x ++ 128 :: List.replicate k 0) ++ [0] = (x ++ 128 :: List.replicate (k + 1) 0) := by rw [List.replicate_succ', List.append_assoc]; rfl
 repeat (refine nst ?_)
 refine W_cond rfl (by simp) (fun hc => ?_) (fun hc => ?_)
 · have hne : (x.length + 1 + k) % 64 ≠ 56 := by rw [hEl] at hc; simp at hc; omega
   have hkz : k < z := by
     rcases Nat.lt_or_ge k z with h | h
     · exact h
     · have : k = z := by omega
       subst this; omega
   repeat (refine nst ?_)
   refine s_litI rfl rfl rfl (by rw [hn]; rfl) (elt_mk Tryz.underlying29 rfl rfl) (zok5) (by exact vcs) ⟨by decide, rfl⟩ ?_
   repeat (refine nst ?_)
   refine s_appI rfl rfl rfl rfl rfl rfl (by rw [hn]; rfl) (elt_mk Tryz.underlying29 rfl rfl) rfl rfl rfl rfl (by exact vcs) (by first | rfl | (simp; done) | (simp; omega)) ⟨by first | (simp; done) | (simp; omega) | (simp at *; omega), by decide⟩ ?_
   repeat (refine nst ?_)
   refine N_round ⟨k + 1, by omega⟩ (by dsimp only; omega) (St.le_of ⟨⟨rfl, rfl, rfl, congrArg (fun E => own85 E) hEn⟩, ⟨rfl, rfl, rfl, rfl, congrArg (fun E => Blk.row (.ints .u8 E)) hEn⟩⟩)
 · have heq : (x.length + 1 + k) % 64 = 56 := by rw [hEl] at hc; simp at hc; omega
   have hkz : k = z := by omega
   subst hkz
   have hE1wf : WfB (x ++ 128 :: List.replicate k 0) := wf_app hx fun y hy => by
     cases hy with
     | head => omega
     | tail _ hy => exact replicate_wf k y hy
   have hLl : (lenBytes n).length = 8 := rfl
   have hLg := fun i hi => lenBytes_get n i hi hn1
   have hLw := lenBytes_wf n
   have hFS2 : finS v0 ((x ++ 128 :: List.replicate k 0) ++ lenBytes n) = FS := by rw [← hFS, List.append_assoc]; rfl
   clear hEn hFS
   generalize (x ++ 128 :: List.replicate k 0) = E1 at *
   generalize lenBytes n = L at *
   repeat (refine nst ?_)
   refine W_weaken (St.le_of (l := [(2, .c (.ptr 66 0)), (3, .c (.ptr 72 0)), (4, lv (.int .u64 ((n : Int) * 8))), (5, own85 E1), (31, lv (.int .i64 0))]) (h := [(0, .cells (hC v bg (.own 1 1 0 x.length) (n : Int))), (1, .row (.ints .u8 x)), (66, .row (.ints .u8 (List.replicate 32 0))), (72, .cells (hC v0 true .un (n : Int))), (85, .row (.ints .u8 E1))]) (by refine ⟨?_, ?_⟩ <;> (repeat' (first | exact trivial | exact rfl | refine ⟨?_, ?_⟩)) <;> first | exact rfl | (simp; done) | skip)) ?_
   refine W_weaken (τ := St.of [(2, .c (.ptr 66 0)), (3, .c (.ptr 72 0)), (4, lv (.int .u64 ((n : Int) * 8))), (5, own85 (E1 ++ L.take 0)), (31, lv (.int .i64 ((0 : Nat) : Int)))] [(0, .cells (hC v bg (.own 1 1 0 x.length) (n : Int))), (1, .row (.ints .u8 x)), (66, .row (.ints .u8 (List.replicate 32 0))), (72, .cells (hC v0 true .un (n : Int))), (85, .row (.ints .u8 (E1 ++ L.take 0)))]) ?_ ?_
   · rw [List.take_zero, List.append_nil]; exact ⟨fun _ => .inl rfl, fun _ => .inl rfl⟩
   refine W_loop (ι := {i : Nat // i ≤ 8}) (fun i => St.of [(2, .c (.ptr 66 0)), (3, .c (.ptr 72 0)), (4, lv (.int .u64 ((n : Int) * 8))), (5, own85 (E1 ++ L.take i.1)), (31, lv (.int .i64 (i.1 : Int)))] [(0, .cells (hC v bg (.own 1 1 0 x.length) (n : Int))), (1, .row (.ints .u8 x)), (66, .row (.ints .u8 (List.replicate 32 0))), (72, .cells (hC v0 true .un (n : Int))), (85, .row (.ints .u8 (E1 ++ L.take i.1)))]) (fun i => 8 - i.1) (fun i => ?_) ⟨0, by omega⟩
   obtain ⟨i, hi⟩ := i
   dsimp only
   repeat (refine nst ?_)
   refine W_cond rfl (by simp) (fun hc2 => ?_) (fun hc2 => ?_)
   · have hi8 : i < 8 := by simp at hc2; omega
     have hx8 := hLg i hi8
     have hnx : (E1 ++ L.take i) ++ [IntKind.u8.wrap ((n : Int) * 8 / 2 ^ min (56 - 8 * (i : Int)).toNat IntKind.u64.bits)] = E1 ++ L.take (i + 1) := by
       have e : min (56 - 8 * (i : Int)).toNat IntKind.u64.bits = 56 - 8 * i := by simp only [bits_u64]; omega
       rw [e, wrapE8, List.append_assoc]
       congr 1
       have hlt : i < L.length := by omega
       rw [List.take_succ_eq_append_getElem hlt]
       rw [List.getElem?_eq_getElem hlt] at hx8
       rw [Option.some.inj hx8]
     repeat (refine nst ?_)
     refine sp false rfl rfl (by rw [hn]; rfl) (by exact vcs) ?_
     repeat (refine nst ?_)
     refine s_litI rfl rfl rfl (by rw [hn]; rfl) (elt_mk Tryz.underlying29 rfl rfl) (zok5) (by exact vcs) ⟨by decide, rfl⟩ ?_
     repeat (refine nst ?_)
     refine s_appI rfl rfl rfl rfl rfl rfl (by rw [hn]; rfl) (elt_mk Tryz.underlying29 rfl rfl) rfl rfl rfl rfl (by exact vcs) (by first | rfl | (simp; done) | (simp; omega)) ⟨by first | (simp; done) | (simp; omega) | (simp at *; omega), by decide⟩ ?_
     repeat (refine nst ?_)
     refine N_round ⟨i + 1, by omega⟩ (by dsimp only; omega) (St.le_of ⟨⟨rfl, rfl, rfl, congrArg (fun E => own85 E) hnx, rfl⟩, ⟨rfl, rfl, rfl, rfl, congrArg (fun E => Blk.row (.ints .u8 E)) hnx⟩⟩)
   · have : i = 8 := by simp at hc2; omega
     subst this
     rw [List.take_of_length_le (by omega)]
     have hDl : (E1 ++ L).length % 64 = 0 := by simp; omega
     have hDw : WfB (E1 ++ L) := wf_app hE1wf hLw
     generalize E1 ++ L = D at *
     repeat (refine nst ?_)
     refine W_weaken (St.le_of (l := [(2, .c (.ptr 66 0)), (3, .c (.ptr 72 0)), (5, own85 D)]) (h := [(0, .cells (hC v bg (.own 1 1 0 x.length) (n : Int))), (1, .row (.ints .u8 x)), (66, .row (.ints .u8 (List.replicate 32 0))), (72, .cells (hC v0 true .un (n : Int))), (85, .row (.ints .u8 D))]) (by refine ⟨?_, ?_⟩ <;> (repeat' (first | exact trivial | exact rfl | refine ⟨?_, ?_⟩)) <;> first | exact rfl | (simp; done) | skip)) ?_
     refine W_weaken (τ := St.of [(2, .c (.ptr 66 0)), (3, .c (.ptr 72 0)), (5, .c (.own 85 1 (64 * 0) (D.length - 64 * 0)))] [(0, .cells (hC v bg (.own 1 1 0 x.length) (n : Int))), (1, .row (.ints .u8 x)), (66, .row (.ints .u8 (List.replicate 32 0))), (72, .cells (hC v0 true .un (n : Int))), (85, .row (.ints .u8 D))]) ?_ ?_
     · exact ⟨fun _ => .inl rfl, fun _ => .inl rfl⟩
     refine W_loop (ι := {p : SI // 64 * p.k ≤ D.length ∧ finS p.v (D.drop (64 * p.k)) = FS ∧ p.v.ok}) (fun p => St.of [(2, .c (.ptr 66 0)), (3, .c (.ptr 72 0)), (5, .c (.own 85 1 (64 * p.1.k) (D.length - 64 * p.1.k)))] [(0, .cells (hC v bg (.own 1 1 0 x.length) (n : Int))), (1, .row (.ints .u8 x)), (66, .row (.ints .u8 (List.replicate 32 0))), (72, .cells (hC p.1.v true .un (n : Int))), (85, .row (.ints .u8 D))]) (fun p => D.length - 64 * p.1.k) (fun p => ?_) ⟨⟨v0, 0⟩, by dsimp only; omega, hFS2, hv⟩
     obtain ⟨⟨v1, k⟩, q1, q2, q3⟩ := p
     have hkD : 64 * k ≤ D.length := q1
     have hfs : finS v1 (D.drop (64 * k)) = FS := q2
     have hv1 : v1.ok := q3
     dsimp only
     clear q1 q2 q3
     have hdl : (D.drop (64 * k)).length = D.length - 64 * k := by simp
     repeat (refine nst ?_)
     refine W_cond rfl (by simp) (fun hc3 => ?_) (fun hc3 => ?_)
     · have h64 : 64 * k + 64 ≤ D.length := by simp at hc3; omega
       have hbo := block_un v1 true (n : Int) D (64 * k) hv1 h64 hDw
       rw [finS_step v1 _ (by omega), List.drop_drop] at hfs
       have hv2 := compS_ok v1 ((D.drop (64 * k)).take 64)
       generalize compS v1 ((D.drop (64 * k)).take 64) = v2 at *
       repeat (refine nst ?_)
       refine W_drawW 5 (by kernel_rfl) (by kernel_rfl) (by kernel_rfl) (by rw [hn]; rfl) rfl rfl ?_
       repeat (first | refine dp1 ?_ | refine dg1 ?_ | refine DrawW_nil ?_)
       repeat (refine nst ?_)
       refine s_call [72, 85] hbo rfl rfl (by rw [hn]; rfl) rfl rfl (by trivial) ⟨rfl, ⟨rfl, rfl⟩, by simp [ordL], rfl⟩ ?_
       repeat (refine nst ?_)
       have e1 : D.length - 64 * k - 64 = D.length - 64 * (k + 1) := by omega
       refine N_round ⟨⟨v2, k + 1⟩, by dsimp only; omega, hfs, hv2⟩ (by dsimp only; omega) (St.le_of ⟨⟨rfl, rfl, ?_⟩, ⟨rfl, rfl, rfl, rfl, rfl⟩⟩)
       dsimp only
       rw [← e1]
       rfl
     · have h0 : D.length - 64 * k = 0 := by simp at hc3; omega
       rw [finS_done v1 _ (by omega)] at hfs
       subst hfs
       have hby := bytes_ok v1 true (n : Int)
       have hbl : v1.bytes.length = 32 := rfl
       have hbn : v1.bytes ≠ [] := by intro h; rw [h] at hbl; simp at hbl
       generalize v1.bytes = B at *
       repeat (refine nst ?_)
       refine s_call [72] hby rfl rfl (by rw [hn]; rfl) rfl rfl (by trivial) ⟨rfl, rfl, by simp [ordL], rfl⟩ ?_
       refine s_storeA rfl rfl rfl rfl rfl (by exact vcs) rfl (by rw [cellsOf43]; first | rfl | assumption | omega | kernel_rfl | (simp; done) | (simp; omega) | (simp at *; omega)) (by first | rfl | assumption | omega | kernel_rfl | (simp; done) | (simp; omega) | (simp at *; omega)) (by first | assumption | (simp; done) | exact List.cons_ne_nil _ _) ?_
       repeat (refine nst ?_)
       exact N_retN [] rfl (⟨rfl, by rw [cellsOf43]; omega, hbn⟩) ⟨rfl, by first | trivial | exact ⟨rfl, rfl⟩, by first | trivial | exact rfl | exact ⟨rfl, rfl⟩, rfl⟩ hb rfl (by first | trivial | (simp; done) | (simp [ordL]; done))

theorem digS_len (m : List Int) : (digS m).length = 32 := rfl
theorem digS_fin (m : List Int) : (finS (finS H0 m) (finL m ++ padS m.length)).bytes = digS m := by
 rw [← (fin_app _ H0 m (padS m.length) rfl).1]
 rfl
theorem flat_wf {bs : List (List Int)} (h : ∀ b ∈ bs, WfB b) : WfB bs.flatten := by
 intro x hx
 obtain ⟨b, hb, hx⟩ := List.mem_flatten.1 hx
 exact h b hb x hx
theorem finL_mod (m : List Int) : (finL m).length = m.length % 64 := by
 unfold finL
 rw [List.length_drop]
 omega
theorem msum_ok (bs : List (List Int)) (hbs : ∀ b ∈ bs, WfB b) (hbl : bs.length ≤ 1000) (hn1 : bs.flatten.length ≤ 1000000) : Ct Tryz.prog 28 [partsA bs] [] (.ai .u8 (digS bs.flatten)) [] [] := by
 have hput := hput_ok Z8 false [] 0 bs H0_ok (fun y hy => by cases hy) hbs (by simp) hbl (by omega)
 rw [List.nil_append] at hput
 have hsum := hsum_ok (finS H0 bs.flatten) true (finL bs.flatten) (0 + bs.flatten.length) (finS_ok _ _ _ rfl H0_ok) (finL_wf (flat_wf hbs)) (by rw [finL_mod, Nat.zero_add]) (by omega)
 have hd := digS_fin bs.flatten
 have hdl := digS_len bs.flatten
 have hdn : digS bs.flatten ≠ [] := by intro h; rw [h] at hdl; simp at hdl
 rw [Nat.zero_add] at hsum hput
 simp only [cond_true, cond_false] at hsum hput
 rw [hd] at hsum
 generalize digS bs.flatten = D at *
 refine Ct_intro Tryz.func28 rfl rfl rfl rfl rfl (fun E hn hb => ?_)
 repeat (refine nst ?_)
 refine s_allocAN .u8 32 rfl rfl rfl (by rw [hn]; rfl) (by kernel_rfl) ?_
 repeat (refine nst ?_)
 refine s_call [] new_ok rfl rfl (by rw [hn]; rfl) rfl rfl (by trivial) ⟨rfl, trivial, trivial, rfl⟩ ?_
 repeat (refine nst ?_)
 refine WL_sr (fun a w h => SR.cell_nil (cs := hC Z8 false (.lf (.v (.slice none 0 0))) 0) (cs' := hC Z8 false (.own 200 1 0 0) 0) 68 9 200 rfl rfl rfl rfl rfl h) ?_
 refine s_call [68, 200] hput rfl rfl (by rw [hn]; rfl) rfl rfl (by trivial) ⟨rfl, ⟨rfl, rfl⟩, by simp [ordL], rfl⟩ ?_
 repeat (refine nst ?_)
 refine s_call [68, 71] hsum rfl rfl (by rw [hn]; rfl) rfl rfl (by trivial) ⟨rfl, ⟨rfl, rfl⟩, by simp [ordL], rfl⟩ ?_
 refine s_storeA rfl rfl rfl rfl rfl (by exact vcs) rfl (by rw [cellsOf43]; first | rfl | assumption | omega | kernel_rfl | (simp; done) | (simp; omega) | (simp at *; omega)) (by first | rfl | assumption | omega | kernel_rfl | (simp; done) | (simp; omega) | (simp at *; omega)) (by first | assumption | (simp; done) | exact List.cons_ne_nil _ _) ?_
 repeat (refine nst ?_)
 exact N_retN [] rfl (⟨rfl, by rw [cellsOf43]; omega, hdn⟩) ⟨rfl, by first | trivial | exact ⟨rfl, rfl⟩, by first | trivial | exact rfl | exact ⟨rfl, rfl⟩, rfl⟩ hb rfl (by first | trivial | (simp; done) | (simp [ordL]; done))
def keyS (k : List Int) : List Int := if 64 < k.length then digS k else k

def hx1 : List Int := [101, 51, 98, 48, 99, 52, 52, 50, 57, 56, 102, 99, 49, 99, 49, 52, 57, 97, 102, 98, 102, 52, 99, 56, 57, 57, 54, 102, 98, 57, 50, 52, 50, 55, 97, 101, 52, 49, 101, 52, 54, 52, 57, 98, 57, 51, 52, 99, 97, 52, 57, 53, 57, 57, 49, 98, 55, 56, 53, 50, 98, 56, 53, 53]
def hx2 : List Int := [98, 48, 51, 52, 52, 99, 54, 49, 100, 56, 100, 98, 51, 56, 53, 51, 53, 99, 97, 56, 97, 102, 99, 101, 97, 102, 48, 98, 102, 49, 50, 98, 56, 56, 49, 100, 99, 50, 48, 48, 99, 57, 56, 51, 51, 100, 97, 55, 50, 54, 101, 57, 51, 55, 54, 99, 50, 101, 51, 50, 99, 102, 102, 55]

def n0 : Nat := 0

theorem ne32 {l : List Int} (h : l.length = 32) : l ≠ [] := fun h2 => by rw [h2] at h; simp at h
end Go.Proofs.YtohfhephkjihfaaGreat

namespace Go.Proofs.YtohfhephkjihfaaGreat
set_option linter.unusedSimpArgs false
set_option linter.unusedVariables false
open Go Go.Sx
set_option maxRecDepth 10000
theorem tget_nil (n : List Int) : Ct Tryz.prog 10 [.c (.lf (.v (.pointer none))), B8 n] [] (.tup [B8 [], lv (.int .i64 17)]) [] [] := by
 refine Ct_intro Tryz.func10 rfl rfl rfl rfl rfl (fun E hn hb => ?_)
 repeat refine nxm ?_
 exact rtU []

def SortedSays (P : Program) (fs fk kt : Nat) : Prop :=
 ∀ (Bm b nn : Nat) (D0 : DataW Unit) (R : Value → Option (DataW Unit × List MemPlace)) (w : World), Bm < w.heap.size → w.cell? ⟨Bm, 0, none⟩ = some (.map (some b)) → w.ownsMap P kt R b nn D0 → Go.Maps.size D0 ≤ maxLen → Go.Maps.size D0 * 16 ≤ 140737488355328 →
   Calls P fs #[.func (.func fk) #[] #[.pointer (some ⟨Bm, 0, none⟩)]] w fun e w' => ∃ (v : Value) (ss : List (List UInt8)), e = .returned v ∧ ss.Perm (strKeys D0) ∧
     w'.ownsRow w.heap.size kt 1 v ss.length ((ss.mergeSort (fun x y => decide (x ≤ y))).map Go.Proofs.encStr) ∧ (v = .slice none 0 0 ↔ ss = []) ∧ Go.RowKit.Below w.heap.size w w'
def R0 : Value → Option (DataW Unit × List MemPlace) := fun _ => some (.lit (.bool false), [])
theorem BlkR_wide {β : Nat → Option Nat} {F F2 : Nat → Prop} {w : World} {i : Nat} (hF : ∀ b, F b → F2 b) {b : Blk} (hx : BlkR β F w i b) : BlkR β F2 w i b := by
 cases b with
 | gone => trivial
 | map es =>
   obtain ⟨g, ms, ck, e1, e2, e3, e4⟩ := hx
   exact ⟨g, ms, ck, e1, e2, e3, fun i k x hx => let ⟨e, q1, q2, q3⟩ := e4 i k x hx; ⟨e, q1, q2, q3.mono fun b hb => ⟨hF b hb, rfl⟩⟩⟩
 | cells cs =>
   obtain ⟨g, cur, hg, hr, hsz, hc⟩ := hx
   exact ⟨g, cur, hg, hr, hsz, fun k x v hx hv => (hc k x v hx hv).mono (fun _ _ h => h) (fun b hb => ⟨hF b hb, rfl⟩) (fun _ _ h => h)⟩
 | row dd =>
   cases dd with
   | ints k l => exact hx
   | recs sz l =>
     refine ⟨hx.1, ?_⟩
     rcases hx.2 with h | ⟨g, cur, hg, hr, hc⟩
     · exact .inl h
     · refine .inr ⟨g, cur, hg, hr, fun i r k x hi hk => ?_⟩
       obtain ⟨u, hu, hl⟩ := hc i r k x hi hk
       exact ⟨u, hu, hl.mono fun b hb => ⟨hF b hb, rfl⟩⟩
   | v => exact hx
   | obj => exact hx
theorem sorted_one {P : Program} {fs fk kt : Nat} {fn : Func} (hS : SortedSays P fs fk kt) (hk : P.underlying kt = some .string) (hfn : P.funcs[fs]? = some fn) (hnm : (fn.name == "runtime.NumGoroutine") = false) (hbd : fn.body.isNone = false) (k : ByteArray) (x : Leaf) (hks : k.size ≤ 1000000) :
   Ct P fs [.c (.fn (.func fk) [] [.ptr 0 0])] [.cells [.map 1], .map [(k, x)]] (.c (.lf (.recs 1 [[.v (.string k)]]))) [.cells [.map 1], .map [(k, x)]] [] := by
 refine ⟨rfl, ⟨fn, hfn, hnm, hbd⟩, fun w β F vs hl ha hbor hinj hown hnone hF => ?_⟩
 obtain ⟨v, rfl⟩ : ∃ v, vs = [v] := by
   match vs, hl with
   | [v], _ => exact ⟨v, rfl⟩
 have h0 := ha 0 _ v rfl rfl
 cases h0 with | c h0 =>
 cases h0 with | fn _ _ _ fv cv h1 h2 h3 h4 =>
 obtain rfl : fv = #[] := by simpa using h1
 obtain ⟨p, rfl⟩ : ∃ p, cv = #[p] := by
   obtain ⟨l⟩ := cv
   match l, h2 with
   | [p], _ => exact ⟨p, rfl⟩
 have hp := h4 0 _ p rfl rfl
 cases hp with | ptr _ _ g0 hg0 =>
 obtain ⟨hb0, _⟩ := hbor 0 _ rfl
 obtain ⟨hb1, _⟩ := hbor 1 _ rfl
 obtain ⟨g0', cur0, q1, ⟨t0, fr0, q2, q2'⟩, q3, q4⟩ := hb0
 obtain rfl : g0 = g0' := Option.some.inj (hg0.symm.trans q1)
 obtain ⟨b, ms, ck, r1, r2, ⟨r3, r3'⟩, r4⟩ := hb1
 obtain ⟨m, rfl⟩ : ∃ m, cur0 = #[m] := by
   obtain ⟨l⟩ := cur0
   match l, q3 with
   | [m], _ => exact ⟨m, rfl⟩
 have hm := q4 0 _ m rfl rfl
 cases hm with | map _ b' hb' =>
 obtain rfl : b = b' := Option.some.inj (r1.symm.trans hb')
 obtain ⟨e, rfl⟩ : ∃ e, ms = #[e] := by
   obtain ⟨l⟩ := ms
   match l, r3 with
   | [e], _ => exact ⟨e, rfl⟩
 obtain ⟨e', s1, s2, s3⟩ := r4 0 k x rfl
 obtain rfl : e = e' := by simpa using s1
 have hkey : keyOf P kt e.key = some (.string k.data.toList) := by
   rw [s2, keyOf_string hk]
   unfold mapKey
   rw [hk]
   simp
   exact Nat.le_trans hks (by decide)
 have hrd : Go.WideElems.rd P kt R0 e = some (.string k.data.toList, .lit (.bool false)) := by
   unfold Go.WideElems.rd
   rw [hkey]
   rfl
 have hown2 : w.ownsMap P kt R0 b 1 (.map [(.string k.data.toList, .lit (.bool false))]) := by
   refine ⟨#[e], ck, r2, ⟨(by decide : (1 : Nat) ≤ maxLen), r3', fun x hx => ?_⟩, Nat.le_refl _, ?_⟩
   · obtain rfl : x = e := by simpa using hx
     exact ⟨_, hrd⟩
   · simp only [List.map_cons, List.map_nil, List.foldr_cons, List.foldr_nil]
     unfold Go.WideElems.rg
     rw [hrd]
     rfl
 have hg0s := (hown 0 g0 (by simp) hg0).1
 have hbs := (hown 1 b (by simp) r1).1
 refine (hS g0 b 1 _ R0 w hg0s ?_ hown2 ?_ ?_).mono fun e1 w' hq => ?_
 · exact (Row.cell ⟨t0, fr0, q2, q2'⟩ 0)
 · exact (by decide : (1 : Nat) ≤ maxLen)
 · exact (by decide : 1 * 16 ≤ 140737488355328)
 obtain ⟨v, ss, rfl, hperm, hrow, hnil, hbel⟩ := hq
 have hss : ss = [k.data.toList] := List.perm_singleton.1 hperm
 subst hss
 obtain ⟨_, ⟨_, hz⟩ | ⟨g, cap, cur, rfl, o1, o2, o3, o4, o5, o6⟩⟩ := hrow
 · simp at hz
 have hblk : ∀ g', g' < w.heap.size → w'.heap[g']? = w.heap[g']? := fun g' h => hbel.block g' h
 have hC : ∀ g' n, CapOk w g' n → CapOk w' g' n := fun g' n hc => hc.same (hblk g' hc.lt)
 have hFs : ∀ b', F b' → w'.heap[b']? = w.heap[b']? := fun b' h => hblk b' (hF b' h)
 have hβs : ∀ j g', j < 2 → β j = some g' → w'.heap[g']? = w.heap[g']? := fun j g' hj h => hblk g' (hown j g' (by simpa using hj) h).1
 have hgs : g < w'.heap.size := by
   rcases Nat.lt_or_ge g w'.heap.size with h | h
   · exact h
   · rw [Array.getElem?_eq_none h] at o2; cases o2
 have hcell : w'.cell? ⟨g, 0, none⟩ = some (.string k) := by
   have e6 : cur.toList.take 1 = [Go.Proofs.encStr k.data.toList] := by simpa using o6
   have e7 : cur[0]? = some (.string k) := by
     rw [← Array.getElem?_toList]
     have := congrArg (·[0]?) e6
     simp only [List.getElem?_take] at this
     simpa [Go.Proofs.encStr] using this
   exact (Row.cell (cur := cur) ⟨kt, (0, 0), o2, .inl rfl⟩ 0).trans e7
 refine ⟨_, β, fun b' => F b' ∨ b' = g, rfl, .c (.lf (.recs 1 _ _ _ _ (fun _ _ => .string k) rfl o3 o4 ?_ (fun _ => ⟨g, 0, rfl, .inr rfl, ?_⟩) ?_)), fun i bl h => ?_, fun i bl h => by simp at h, fun i hi => rfl, fun i j g' hi hj e1 e2 => hinj i j g' (by simpa using hi) (by simpa using hj) e1 e2, fun j g' hj e1 => ?_, fun i g' hi => absurd hi (by simp), fun b' hb' => ?_, ⟨hbel.os, hbel.tape, hbel.output, hbel.size, fun g' h _ => hblk g' h, hC⟩⟩
 · intro r hr
   simp at hr
   subst hr; rfl
 · intro i r j x hi hj
   match i, hi with
   | 0, hi =>
     obtain rfl : [Leaf.v (.string k)] = r := by simpa using hi
     match j, hj with
     | 0, hj => exact hcell
 · intro i r j x hi hj
   match i, hi with
   | 0, hi =>
     obtain rfl : [Leaf.v (.string k)] = r := by simpa using hi
     match j, hj with
     | 0, hj =>
       obtain rfl : Leaf.v (.string k) = x := by simpa using hj
       exact .v _ rfl
 · match i, h with
   | 0, h =>
     obtain rfl : Blk.cells [.map 1] = bl := by simpa using h
     exact BlkR_wide (fun _ h => .inl h) (((hbor 0 _ rfl).1).mono (β' := β) (fun _ _ h => h) rfl hFs hC (fun g' h => hβs 0 g' (by omega) h))
   | 1, h =>
     obtain rfl : Blk.map [(k, x)] = bl := by simpa using h
     exact BlkR_wide (fun _ h => .inl h) (((hbor 1 _ rfl).1).mono (β' := β) (fun _ _ h => h) rfl hFs hC (fun g' h => hβs 1 g' (by omega) h))
 · obtain ⟨a1, a2⟩ := hown j g' (by simpa using hj) e1
   refine ⟨Nat.lt_of_lt_of_le a1 hbel.size, fun h => ?_⟩
   rcases h with h | rfl
   · exact a2 h
   · omega
 · rcases hb' with h | rfl
   · exact ⟨Nat.lt_of_lt_of_le (hF b' h) hbel.size, .inl h⟩
   · exact ⟨hgs, .inr o1⟩
end Go.Proofs.YtohfhephkjihfaaGreat

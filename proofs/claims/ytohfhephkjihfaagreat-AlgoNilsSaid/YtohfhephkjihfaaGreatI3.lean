/-
  Chapter 18's law AlgoNils, walked: it returns true. The conditions: rows that a machine can hold.
-/
import Derived.Test.YtohfhephkjihfaaGreatI1
import Derived.Test.YtohfhephkjihfaaGreatShK
import Derived.Test.YtohfhephkjihfaaGreatA17
namespace Go.Proofs.YtohfhephkjihfaaGreat
set_option linter.unusedSimpArgs false
set_option linter.unusedVariables false
open Go Go.Sx
set_option maxRecDepth 10000
theorem keys_ok (es : MapL) : Ct Tryz.prog 31 [.c (.map 0)] [.map es] (.c (.fn (.func 46) [] [.ptr 1 0])) [.map es] [.cells [.map 0]] := by
 refine Ct_intro Tryz.func31 rfl rfl rfl rfl rfl (fun E hn hb => ?_)
 repeat refine nxm ?_
 exact rt1 [65]
theorem skeys_ok (k : ByteArray) (x : Leaf) (hks : k.size ≤ 1000000) :
   Ct Tryz.prog 30 [.c (.fn (.func 46) [] [.ptr 0 0])] [.cells [.map 1], .map [(k, x)]] (.c (.lf (.recs 1 [[.v (.string k)]]))) [.cells [.map 1], .map [(k, x)]] [] :=
 sorted_one (kt := 9) (fun Bm b nn D0 R w h1 h2 h3 h4 h5 => Tryz.sortedAny Bm b nn D0 R w h1 h2 h3 h4 h5) Tryz.underlying9 Tryz.func30 (by kernel_rfl) rfl k x hks
theorem byD1_ok (n d : List Int) (hn1 : n.length ≤ 1000) (hw : WfB n) (hd : d.length ≤ 1000000) (hne : d.length ≠ 32) : Ct Tryz.prog 27 [B8 n, .c (.ptr 0 0)] [.cells [.lf (.ints .u8 d)]] (lv (.bool false)) [.cells [.lf (.ints .u8 d)]] [] := by
 have h1 := msum_ok [n] (fun b hb => by rw [List.mem_singleton.1 hb]; exact hw) (by simp) (by simp; omega)
 have hdl : (digS [n].flatten).length = 32 := digS_len _
 have h2 := equal_ok (digS [n].flatten) d (by omega) hd
 rw [decide_eq_false (fun h => hne (by rw [← h]; exact hdl))] at h2
 generalize digS [n].flatten = D at *
 have hdn := ne32 hdl
 refine Ct_intro Tryz.func27 rfl rfl rfl rfl rfl (fun E hn hb => ?_)
 repeat (first | refine s_allocAN .u8 32 rfl rfl rfl (by rw [hn]; rfl) (by kernel_rfl) ?_ | refine nx ?_)
 refine s_storeA rfl rfl rfl rfl rfl (by exact vcs) rfl (by rw [cellsOf43]; first | rfl | assumption | omega | kernel_rfl | (simp; done) | (simp; omega) | (simp at *; omega)) (by first | rfl | assumption | omega | kernel_rfl | (simp; done) | (simp; omega) | (simp at *; omega)) (by first | assumption | (simp; done) | exact List.cons_ne_nil _ _) ?_
 repeat refine nx ?_
 refine dup1 (hp := ?_) ?_
 rotate_left
 · exact ⟨rfl, by omega, hdn, show 32 ≤ maxLen from by decide⟩
 repeat refine nx ?_
 exact rt1 []
abbrev row1 (n : List Int) : Av := .c (.lf (.recs 1 [[.ints .u8 n]]))
theorem idxF_ok (n d : List Int) (hn1 : n.length ≤ 1000) (hw : WfB n) (hd : d.length ≤ 1000000) (hne : d.length ≠ 32) : Ct Tryz.prog 26 [row1 n, .c (.fn (.func 27) [] [.ptr 0 0])] [.cells [.lf (.ints .u8 d)]] (lv (.int .i64 (-1))) [.cells [.lf (.ints .u8 d)]] [] := by
 have h1 := byD1_ok n d hn1 hw hd hne
 refine Ct_intro Tryz.func26 rfl rfl rfl rfl rfl (fun E hn hb => ?_)
 repeat refine nx ?_
 refine W_weaken (St.le_of (l := [(0, row1 n), (1, .c (.fn (.func 27) [] [.ptr 0 0])), (7, lv (.int .i64 1)), (8, lv (.int .i64 ((0 : Nat) : Int)))]) (h := [(0, .cells [.lf (.ints .u8 d)])]) (by refine ⟨?_, ?_⟩ <;> (repeat' (first | exact trivial | exact rfl | refine ⟨?_, ?_⟩)) <;> first | exact rfl | (simp; done) | skip)) ?_
 refine W_loop (ι := {i : Nat // i ≤ 1}) (fun i => St.of [(0, row1 n), (1, .c (.fn (.func 27) [] [.ptr 0 0])), (7, lv (.int .i64 1)), (8, lv (.int .i64 (i.1 : Int)))] [(0, .cells [.lf (.ints .u8 d)])]) (fun i => 1 - i.1) (fun i => ?_) ⟨0, by omega⟩
 obtain ⟨i, hi⟩ := i
 dsimp only
 match i, hi with
 | 0, _ =>
   repeat refine nx ?_
   exact N_round ⟨1, by omega⟩ (by dsimp only; omega) (St.le_of ⟨⟨rfl, rfl, rfl, rfl⟩, rfl⟩)
 | 1, _ =>
   repeat refine nx ?_
   exact rt1 []
theorem names_nil : Ct Tryz.prog 17 [lv (.pointer none)] [] (.c (.lf (.recs 1 []))) [] [] := by
 refine Ct_intro Tryz.func17 rfl rfl rfl rfl rfl (fun E hn hb => ?_)
 repeat refine nx ?_
 exact rtU []
abbrev nilOr (i : Nat) (n : List Int) : Av := match i with | 0 => lv (.slice none 0 0) | _ + 1 => row1 n
theorem names_one (n : List Int) (x : Leaf) (hn1 : n.length ≤ 1000) (hw : WfB n) : Ct Tryz.prog 17 [.c (.ptr 0 0)] [tabB, .map [(strOfNums n, x)]] (row1 n) [tabB, .map [(strOfNums n, x)]] [] := by
 have h1 := keys_ok [(strOfNums n, x)]
 have h2 := skeys_ok (strOfNums n) x (by rw [strOfNums_size]; omega)
 refine Ct_intro Tryz.func17 rfl rfl rfl rfl rfl (fun E hn hb => ?_)
 have hbs := bs_str hw
 repeat refine nx ?_
 refine s_call [76, 1] h2 rfl rfl (by rw [hn]; rfl) rfl rfl (by trivial) ⟨rfl, ⟨rfl, rfl⟩, by simp [ordL], rfl⟩ ?_
 repeat refine nx ?_
 refine W_weaken (St.le_of (l := [(3, nilOr 0 n), (13, .c (.lf (.recs 1 [[.v (.string (strOfNums n))]]))), (14, lv (.int .i64 1)), (15, lv (.int .i64 ((0 : Nat) : Int)))]) (h := [(0, tabB), (1, .map [(strOfNums n, x)])]) (by refine ⟨?_, ?_⟩ <;> (repeat' (first | exact trivial | exact rfl | refine ⟨?_, ?_⟩)) <;> first | exact rfl | (simp; done) | skip)) ?_
 refine W_loop (ι := {i : Nat // i ≤ 1}) (fun i => St.of [(3, nilOr i.1 n), (13, .c (.lf (.recs 1 [[.v (.string (strOfNums n))]]))), (14, lv (.int .i64 1)), (15, lv (.int .i64 (i.1 : Int)))] [(0, tabB), (1, .map [(strOfNums n, x)])]) (fun i => 1 - i.1) (fun i => ?_) ⟨0, by omega⟩
 obtain ⟨i, hi⟩ := i
 dsimp only
 match i, hi with
 | 0, _ =>
   repeat refine nx ?_
   exact N_round ⟨1, by omega⟩ (by dsimp only; omega) (St.le_of ⟨⟨rfl, rfl, rfl, rfl⟩, ⟨rfl, rfl⟩⟩)
 | 1, _ =>
   repeat refine nx ?_
   exact rt1 []

abbrev ptrN : Av := lv (.pointer none)
theorem bydig_nil (d : List Int) : Ct Tryz.prog 14 [ptrN, B8 d] [] (.tup [B8 [], lv (.int .i64 17)]) [] [] := by
 refine Ct_intro Tryz.func14 rfl rfl rfl rfl rfl (fun E hn hb => ?_)
 repeat refine nx ?_
 exact rtU []
theorem bydig_one (n d : List Int) (x : Leaf) (hn1 : n.length ≤ 1000) (hw : WfB n) (hd : d.length ≤ 1000000) (hne : d.length ≠ 32) : Ct Tryz.prog 14 [.c (.ptr 0 0), B8 d] [tabB, .map [(strOfNums n, x)]] (.tup [B8 [], lv (.int .i64 14)]) [tabB, .map [(strOfNums n, x)]] [] := by
 have h1 := names_one n x hn1 hw
 have h2 := idxF_ok n d hn1 hw hd hne
 refine Ct_intro Tryz.func14 rfl rfl rfl rfl rfl (fun E hn hb => ?_)
 repeat refine nx ?_
 refine s_call [67] h2 rfl rfl (by rw [hn]; rfl) rfl rfl (by trivial) ⟨rfl, rfl, by simp [ordL], rfl⟩ ?_
 repeat refine nx ?_
 exact rtU []
theorem copy_nilT : Ct Tryz.prog 16 [ptrN] [] (.c (.ptr 0 0)) [] [tabB, .map []] := by
 have h1 := tnew_ok
 refine Ct_intro Tryz.func16 rfl rfl rfl rfl rfl (fun E hn hb => ?_)
 repeat refine nx ?_
 exact rt1 [70, 1070]
theorem put_nilT (a b : List Int) : Ct Tryz.prog 6 [ptrN, B8 a, B8 b] [] (lv (.int .i64 17)) [] [] := by
 refine Ct_intro Tryz.func6 rfl rfl rfl rfl rfl (fun E hn hb => ?_)
 repeat refine nx ?_
 exact rt1 []
theorem drop_nilT (a : List Int) : Ct Tryz.prog 8 [ptrN, B8 a] [] (lv (.int .i64 17)) [] [] := by
 refine Ct_intro Tryz.func8 rfl rfl rfl rfl rfl (fun E hn hb => ?_)
 repeat refine nx ?_
 exact rt1 []
set_option maxHeartbeats 4000000 in
theorem algoNils_ok (n0 d0 : List Int) (hl0 : n0.length ≤ 9223372036854775807) (hl1 : d0.length ≤ 9223372036854775807) (hw0 : WfB n0) (hw1 : WfB d0) : Ct Tryz.prog 4 [B8 n0, B8 d0] [] (lv (.bool true)) [] [] := by
 have h1 := tget_nil n0
 have h2 := bydig_nil d0
 have h3 := copy_nilT
 have h4 := tput_ok [] [110] [115] (by decide) (by decide) (by decide) rfl
 have h5 := put_nilT n0 n0
 have h6 := drop_nilT n0
 have h7 := names_nil
 have h8 := known18_ok
 have hd : (d0.take (min (d0.length : Int) 31).toNat).length ≤ 31 := by simp; omega
 have h9 := bydig_one [110] (d0.take (min (d0.length : Int) 31).toNat) (.ints .u8 [115]) (by decide) (fun x hx => by simp at hx; omega) (by omega) (by omega)
 refine Ct_intro Tryz.func4 rfl rfl rfl rfl rfl (fun E hn hb => ?_)
 repeat (first | refine s_litC rfl rfl rfl (by rw [hn]; rfl) rfl rfl (by rw [hn]; rfl) (elt_mk Tryz.underlying29 rfl rfl) Tryz.underlying5 zok5 rfl (by exact vcs) rfl ⟨by decide, by decide, rfl⟩ ?_ | refine nxm ?_)
 exact rt1 []
end Go.Proofs.YtohfhephkjihfaaGreat

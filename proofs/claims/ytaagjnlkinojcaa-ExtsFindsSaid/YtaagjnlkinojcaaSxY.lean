/-
  Rows of rows and of structs that came in, as data. No condition.
-/
import Derived.Test.YtaagjnlkinojcaaE8
import Derived.Test.YtaagjnlkinojcaaE1
import Derived.Test.YtaagjnlkinojcaaW16
import Derived.Test.YtaagjnlkinojcaaSxI
namespace Go.Proofs.Ytaagjnlkinojcaa
set_option linter.unusedSimpArgs false
set_option linter.unusedVariables false
open Go.Sx
set_option maxRecDepth 10000
def xA : List Int := [48, 10, 6, 3, 85, 29, 20, 4, 3, 2, 1, 5]
def xB : List Int := [48, 13, 6, 3, 85, 29, 20, 1, 1, 0, 4, 3, 2, 1, 5]
def tA : List Int := [51, 48, 48, 97, 48, 54, 48, 51, 53, 53, 49, 100, 49, 52, 48, 52, 48, 51, 48, 50, 48, 49, 48, 53]
def tB : List Int := [51, 48, 48, 100, 48, 54, 48, 51, 53, 53, 49, 100, 49, 52, 48, 49, 48, 49, 48, 48, 48, 52, 48, 51, 48, 50, 48, 49, 48, 53]
theorem tA_s : strOfNums tA = ByteArray.mk #[51, 48, 48, 97, 48, 54, 48, 51, 53, 53, 49, 100, 49, 52, 48, 52, 48, 51, 48, 50, 48, 49, 48, 53] := by decide +kernel
theorem tB_s : strOfNums tB = ByteArray.mk #[51, 48, 48, 100, 48, 54, 48, 51, 53, 53, 49, 100, 49, 52, 48, 49, 48, 49, 48, 48, 48, 52, 48, 51, 48, 50, 48, 49, 48, 53] := by decide +kernel
theorem tA_u : unhL tA 12 = xA := by decide +kernel
theorem tB_u : unhL tB 15 = xB := by decide +kernel
theorem tA_x : ∀ i, i < tA.length → hexV (tA.getD i 0) ≤ 15 ∧ 0 ≤ hexV (tA.getD i 0) := by decide +kernel
theorem tB_x : ∀ i, i < tB.length → hexV (tB.getD i 0) ≤ 15 ∧ 0 ≤ hexV (tB.getD i 0) := by decide +kernel
theorem xA_r : exR1 xA 0 = (([2, 5, 29, 20], false, [2, 1, 5]), 12, 0) := by decide +kernel
theorem xB_r : exR1 xB 0 = (e0, 0, 6) := by decide +kernel
theorem wf17 {l : List Int} (h : (l.all fun x => decide (0 ≤ x) && decide (x < 256)) = true) : WfB l := fun x hx => by
 have := List.all_eq_true.1 h x hx
 simpa using this
theorem hx_v : strOfNums (hexL [2, 1, 5]) = ByteArray.mk #[48, 50, 48, 49, 48, 53] := by decide +kernel
set_option maxHeartbeats 8000000 in
theorem known17_ok : Ct Try.prog 12 [] [] (lv (.bool true)) [] [] := by
 have hu1 := unhex_ok tA 12 (by decide) (by decide) (wf17 (by decide +kernel)) tA_x
 rw [tA_s, tA_u] at hu1
 have hu2 := unhex_ok tB 15 (by decide) (by decide) (wf17 (by decide +kernel)) tB_x
 rw [tB_s, tB_u] at hu2
 have hc1 := curnew_ok xA (by decide)
 have hc2 := curnew_ok xB (by decide)
 have hr1 := readone_ok xA 0 (Nat.zero_le _) (by decide) (wf17 (by decide +kernel))
 rw [xA_r] at hr1
 have hr2 := readone_ok xB 0 (Nat.zero_le _) (by decide) (wf17 (by decide +kernel))
 rw [xB_r] at hr2
 have hf := find_ok [([2, 5, 29, 20], false, [2, 1, 5])] [2, 5, 29, 20] (by decide) (fun e he => by rw [List.mem_singleton.1 he]; exact ⟨by decide, by decide⟩) (by decide) 0 (by decide) (by decide)
 have hx := hex_ok [2, 1, 5] (by decide) (wf17 (by decide +kernel))
 rw [hx_v] at hx
 dsimp only at hr1 hr2 hf
 refine Ct_intro Try.func12 rfl rfl rfl rfl rfl (fun E hn hb => ?_)
 repeat refine nx ?_
 refine s_call [85] hr1 rfl rfl (by rw [hn]; rfl) rfl rfl (by trivial) ⟨rfl, rfl, (by simp [ordL]), rfl⟩ ?_
 repeat refine nx ?_
 refine rt2 [] (congrArg (fun x => lv (.bool x)) ?_) trivial; (simp [eqCs, Cell.kill, Cell.kill1])

abbrev kB (k : List (List Int)) : List (List Leaf) := k.map fun b => [Leaf.ints .i64 b]
def InM (l : List ExT) : Prop := ∀ e ∈ l, (e.1.length ≤ 9223372036854775807 ∧ ∀ n ∈ e.1, (Go.Lit.int .i64 n).wf = true) ∧ True ∧ (e.2.2.length ≤ 9223372036854775807 ∧ WfB e.2.2)
theorem fewE_ok (l : List ExT) (h : InM l) : (fewE l).length ≤ 70 ∧ (∀ e ∈ fewE l, okE e) ∧ (∀ e ∈ fewE l, e.1.length ≤ 40 ∧ e.2.2.length ≤ 200 ∧ WfB e.2.2) := by
 unfold fewE
 have key : ∀ e ∈ (l.take 70).map cutE, e.1.length ≤ 40 ∧ e.2.2.length ≤ 200 ∧ WfB e.2.2 := fun e he => by
   obtain ⟨x, hx, rfl⟩ := List.mem_map.1 he
   have hw := (h x (List.mem_of_mem_take hx)).2.2.2
   unfold cutE
   exact ⟨by simp; omega, by simp; omega, fun y hy => hw y (List.mem_of_mem_take hy)⟩
 exact ⟨by simp; omega, fun e he => ⟨by have := (key e he).1; omega, by have := (key e he).2.1; omega⟩, key⟩
theorem setE_ok {l : List ExT} {x : ExT} (h : ∀ e ∈ l, okE e) (hx : okE x) : ∀ e ∈ setE l x, okE e := fun e he => by
 unfold setE at he
 split at he
 · rcases List.mem_append.1 he with h2 | h2
   · exact h e h2
   · rw [List.mem_singleton.1 h2]; exact hx
 · rcases List.mem_or_eq_of_mem_set he with h2 | h2
   · exact h e h2
   · rw [h2]; exact hx
theorem setE_len (l : List ExT) (x : ExT) : (setE l x).length ≤ l.length + 1 := by
 unfold setE
 split
 · simp
 · simp
theorem any_next (k : List (List Int)) (o : List Int) (j : Nat) (h : j < k.length) : (k.take (j + 1)).any (fun b => decide (o = b)) = ((k.take j).any (fun b => decide (o = b)) || decide (k.getD j default = o)) := by
 rw [List.take_add_one, List.any_append, List.getD_eq_getElem?_getD, List.getElem?_eq_getElem h]
 simp [eq_comm]
def AvImp (x y : Av) : Prop := ∀ (β : Nat → Option Nat) (F : Nat → Prop) (w : Go.World) (v : Go.Value), AvR β F w x v → AvR β F w y v
theorem Ct_imp2 {P : Go.Program} {f : Go.FuncId} {a b x y : Av} {bor bor' news : List Blk} {res : Av} (h : Ct P f [x, y] bor res bor' news) (h1 : AvImp a x) (h2 : AvImp b y) : Ct P f [a, b] bor res bor' news := by
 obtain ⟨p, q, c⟩ := h
 refine ⟨p, q, fun w β F vs k1 k2 k3 k4 k5 k6 k7 => c w β F vs k1 (fun i z v hx hv => ?_) k3 k4 k5 k6 k7⟩
 match i, hx with
 | 0, hx => simp at hx; subst hx; exact h1 _ _ _ _ (k2 0 a v rfl hv)
 | 1, hx => simp at hx; subst hx; exact h2 _ _ _ _ (k2 1 b v rfl hv)
theorem recs_imp {F : Nat → Prop} {w : Go.World} {sz : Nat} {l l' : List (List Leaf)} {v : Go.Value} (h : LfR F w (.recs sz l') v) (hl : l.length = l'.length) (hs : ∀ r ∈ l, r.length = sz)
   (hr : ∀ (i : Nat) (r : List Leaf) (j : Nat) (x : Leaf), l[i]? = some r → r[j]? = some x → ∃ (r' : List Leaf) (x' : Leaf), l'[i]? = some r' ∧ r'[j]? = some x' ∧ (∀ u, LfR F w x' u → LfR F w x u)) : LfR F w (.recs sz l) v := by
 cases h with
 | recs _ _ a n c vs hn hc hm hs' h hv =>
   refine .recs sz l a n c vs (by omega) hc hm hs (fun hne => ?_) (fun i r j x hi hj => ?_)
   · obtain ⟨b, o, rfl, hb, hx⟩ := h (by rintro rfl; simp at hl; exact hne hl)
     refine ⟨b, o, rfl, hb, fun i r j x hi hj => ?_⟩
     obtain ⟨r', x', e1, e2, _⟩ := hr i r j x hi hj
     exact hx i r' j x' e1 e2
   · obtain ⟨r', x', e1, e2, e3⟩ := hr i r j x hi hj
     exact e3 _ (hv i r' j x' e1 e2)
theorem nil_ints {F : Nat → Prop} {w : Go.World} {k : Go.IntKind} {u : Go.Value} (h : LfR F w (.v (.slice none 0 0)) u) : LfR F w (.ints k []) u := by
 cases h
 exact .ints _ _ _ _ _ rfl (Nat.le_refl _) (by simp [Go.maxLen]) (fun h => absurd rfl h)
theorem z_imp : AvImp (.c (.lf (.recs 3 [[.v (.slice none 0 0), .v (.bool false), .v (.slice none 0 0)]]))) (exR [e0]) := by
 intro β F w v h
 cases h with | c h => cases h with | lf h =>
 refine .c (.lf (recs_imp h rfl (fun r hr => by simp at hr; rw [hr]; rfl) fun i r j x hi hj => ?_))
 match i, hi with
 | 0, hi =>
   simp at hi
   subst hi
   match j, hj with
   | 0, hj => simp at hj; subst hj; exact ⟨_, _, rfl, rfl, fun u h => nil_ints h⟩
   | 1, hj => simp at hj; subst hj; exact ⟨_, _, rfl, rfl, fun u h => h⟩
   | 2, hj => simp at hj; subst hj; exact ⟨_, _, rfl, rfl, fun u h => nil_ints h⟩
set_option maxHeartbeats 64000000 in
theorem finds_ok (l : List ExT) (o0 : List Int) (x0 : List Int) (x1 : Bool) (x2 : List Int) (sm : List (List Int)) (hl : l.length ≤ 9223372036854775807) (ho0 : o0.length ≤ 9223372036854775807) (hx0 : x0.length ≤ 9223372036854775807) (hx2 : x2.length ≤ 9223372036854775807) (hsm : sm.length ≤ 9223372036854775807)
   (hw : ∀ e ∈ l, (e.1.length ≤ 9223372036854775807 ∧ ∀ n ∈ e.1, (Go.Lit.int .i64 n).wf = true) ∧ True ∧ (e.2.2.length ≤ 9223372036854775807 ∧ WfB e.2.2)) (hwx2 : WfB x2) (hws : ∀ b ∈ sm, b.length ≤ 9223372036854775807 ∧ ∀ n ∈ b, (Go.Lit.int .i64 n).wf = true) :
   Ct Try.prog 3 [exR l, I64 o0, exA (x0, x1, x2), kR sm] [] (lv (.bool true)) [] [] := by
 have hkn := known17_ok
 have hfe := few17_ok l hl (fun e he => ⟨(hw e he).1.1, (hw e he).2.2.1⟩)
 obtain ⟨m1, m2, _⟩ := fewE_ok l hw
 have hto := to17_ok (x0, x1, x2) hx0 hx2
 have hz : okE (cutE (x0, x1, x2)) := by unfold cutE; exact ⟨by simp; omega, by simp; omega⟩
 generalize cutE (x0, x1, x2) = z at *
 generalize fewE l = m at *
 have hmin : o0.take (min (o0.length : Int) 40).toNat = o0.take 40 := minT o0 40
 have hol : (o0.take 40).length ≤ 40 := by simp; omega
 have ham := all17_ok m (by omega)
 have hkk : (∀ b ∈ (sm.take 10).map (·.take 40), b.length ≤ 40) ∧ ((sm.take 10).map (·.take 40)).length ≤ 10 := ⟨fun b hb => by
   obtain ⟨c, _, rfl⟩ := List.mem_map.1 hb
   simp; omega, by simp; omega⟩
 refine Ct_intro Try.func3 rfl rfl rfl rfl rfl (fun E hn hb => ?_)
 repeat refine nx ?_
 rw [hmin]
 generalize o0.take 40 = o at *
 refine W_own_nil 11 900 1 (.recs 1 []) rfl rfl (.inr (.inr ⟨_, rfl⟩)) ?_
 refine W_weaken (St.le_of (l := [(1, I64 o), (3, kR sm), (6, .c (.ptr 70 0)), (9, exR m), (10, exR m), (11, .c (.own 900 1 0 0)), (12, lv (.int .i64 ((0 : Nat) : Int)))]) (h := [(70, .cells [.lf (.ints .i64 x0), .lf (.v (.bool x1)), .lf (.ints .u8 x2)]), (900, .row (.recs 1 []))]) (by refine ⟨?_, ?_⟩ <;> (repeat' (first | exact trivial | exact rfl | refine ⟨?_, ?_⟩)) <;> first | exact rfl | (simp; done) | skip)) ?_
 refine W_loop (ι := {i : Nat // i ≤ sm.length ∧ i ≤ 10}) (fun i => St.of [(1, I64 o), (3, kR sm), (6, .c (.ptr 70 0)), (9, exR m), (10, exR m), (11, .c (.own 900 1 0 (kB ((sm.take i.1).map (·.take 40))).length)), (12, lv (.int .i64 (i.1 : Int)))] [(70, .cells [.lf (.ints .i64 x0), .lf (.v (.bool x1)), .lf (.ints .u8 x2)]), (900, .row (.recs 1 (kB ((sm.take i.1).map (·.take 40)))))]) (fun i => 10 - i.1) (fun i => ?_) ⟨0, by omega, by omega⟩
 obtain ⟨i, hi, hi10⟩ := i
 dsimp only
 by_cases hi2 : i < sm.length ∧ i < 10
 · have h1 := take_next (·.take 40) sm i hi2.1
   have hgl := (hws _ (get_mem hi2.1)).1
   have hq : sm.getD ((i : Nat) : Int).toNat [] = sm.getD i default := rfl
   have h2 : (sm.getD i default).take (min ((sm.getD i default).length : Int) 40).toNat = (sm.getD i default).take 40 := minT _ 40
   generalize hacc : (sm.take i).map (·.take 40) = acc at *
   have hal : acc.length ≤ 10 := by rw [← hacc]; simp; omega
   generalize sm.getD i default = b at *
   repeat refine nxw ?_
   refine W_drawW 13 (by kernel_rfl) (by kernel_rfl) (by kernel_rfl) (by rw [hn]; rfl) rfl rfl ?_
   repeat (first | refine nx ?_ | rw [hq])
   rw [h2]
   repeat refine nx ?_
   refine N_round ⟨i + 1, by omega, by omega⟩ (by dsimp only; omega) (St.le_of ⟨⟨rfl, rfl, rfl, rfl, rfl, ?_, rfl⟩, ⟨rfl, ?_⟩⟩)
   · dsimp only; rw [h1]; unfold kB; rw [List.map_append]; rfl
   · dsimp only; rw [h1]; unfold kB; rw [List.map_append]; rfl
 · have h1 : (sm.take i).map (·.take 40) = (sm.take 10).map (·.take 40) := by
     by_cases h : i = 10
     · rw [h]
     · rw [List.take_of_length_le (show sm.length ≤ i by omega), List.take_of_length_le (show sm.length ≤ 10 by omega)]
   rw [h1]
   obtain ⟨k1, k2⟩ := hkk
   generalize (sm.take 10).map (·.take 40) = k at *
   refine frzW 11 ?_
   have hex : ∀ e : ExT, okE e → ∀ x ∈ [e], okE x := fun e he x hx => by rw [List.mem_singleton.1 hx]; exact he
   rcases plG_range (fun e : ExT => decide (e.1 = o)) m with e1 | ⟨a, e1, e2⟩
   focus
     have hpl := place_ok m o (by omega) m2 (by omega)
     have hfi := find_no m o (by omega) m2 (by omega) e1
     change plE m o = -1 at e1
     rw [e1] at hpl
     have hli := like_ok [e0] [e0] (by decide) (by decide) (hex e0 ⟨by decide, by decide⟩) (hex e0 ⟨by decide, by decide⟩)
     rw [decide_eq_true rfl] at hli
     have hli := Ct_imp2 hli (fun _ _ _ _ h => h) z_imp
     have ha1 := all17_ok [e0] (by decide)
     repeat (first | refine nx ?_ | refine dlgE hn ?_ | refine dwF (lv (.bool false)) hn ?_)
   rotate_left
   focus
     have hpl := place_ok m o (by omega) m2 (by omega)
     have hfi := find_ok m o (by omega) m2 (by omega) a e2 e1
     have hok := okE_get m2 a e2
     change plE m o = a at e1
     rw [e1] at hpl
     have hsl : ((m.map exL).take ((a : Int) + 1).toNat).drop (a : Int).toNat = [m.getD a default].map exL := by
       rw [show ((a : Int) + 1).toNat = a + 1 by omega, Int.toNat_natCast, ← List.map_take, ← List.map_drop, List.take_add_one, List.getElem?_eq_getElem e2, List.getD_eq_getElem?_getD, List.getElem?_eq_getElem e2]
       rw [List.drop_append_of_le_length (by simp; omega), List.drop_eq_nil_of_le (by simp; omega)]
       rfl
     have hli := like_ok [m.getD a default] [m.getD a default] (by simp) (by simp) (hex _ hok) (hex _ hok)
     rw [decide_eq_true rfl] at hli
     have hli : Ct Try.prog 9 [exR [m.getD a default], .c (.lf (.recs 3 (((m.map exL).take ((a : Int) + 1).toNat).drop (a : Int).toNat)))] [] (lv (.bool true)) [] [] := by rw [hsl]; exact hli
     have ha1 := all17_ok [m.getD a default] (by simp)
     clear hsl
     generalize m.getD a default = y at *
     repeat (first | refine nx ?_ | refine dlgE hn ?_ | refine dwF (lv (.bool false)) hn ?_)
   all_goals
     refine W_own_nil 16 902 3 (.recs 3 []) rfl rfl (.inr (.inr ⟨_, rfl⟩)) ?_
     refine W_own_nil 17 901 3 (.recs 3 []) rfl rfl (.inr (.inr ⟨_, rfl⟩)) ?_
     refine W_weaken (St.le_of (l := [(1, I64 o), (6, .c (.ptr 70 0)), (9, exR m), (10, exR m), (11, kR k), (16, .c (.own 902 3 0 0)), (17, .c (.own 901 3 0 0)), (18, lv (.int .i64 ((0 : Nat) : Int)))]) (h := [(70, .cells [.lf (.ints .i64 x0), .lf (.v (.bool x1)), .lf (.ints .u8 x2)]), (901, .row (.recs 3 [])), (902, .row (.recs 3 []))]) (by refine ⟨?_, ?_⟩ <;> (repeat' (first | exact trivial | exact rfl | refine ⟨?_, ?_⟩)) <;> first | exact rfl | (simp; done) | skip)) ?_
     refine W_loop (ι := {i : Nat // i ≤ m.length}) (fun i => St.of [(1, I64 o), (6, .c (.ptr 70 0)), (9, exR m), (10, exR m), (11, kR k), (16, .c (.own 902 3 0 ((unkE (m.take i.1) k).map exL).length)), (17, .c (.own 901 3 0 ((dropE (m.take i.1) o).map exL).length)), (18, lv (.int .i64 (i.1 : Int)))] [(70, .cells [.lf (.ints .i64 x0), .lf (.v (.bool x1)), .lf (.ints .u8 x2)]), (901, .row (.recs 3 ((dropE (m.take i.1) o).map exL))), (902, .row (.recs 3 ((unkE (m.take i.1) k).map exL)))]) (fun i => m.length - i.1) (fun i => ?_) ⟨0, by omega⟩
     obtain ⟨i, hi⟩ := i
     dsimp only
     by_cases hi2 : i < m.length
     · have hnu := filter_next (fun e : ExT => e.2.1 && !(k.any fun b => decide (e.1 = b))) m i hi2
       have hnd := filter_next (fun e : ExT => !decide (e.1 = o)) m i hi2
       have hau := filter_len (fun e : ExT => e.2.1 && !(k.any fun b => decide (e.1 = b))) m i
       have had := filter_len (fun e : ExT => !decide (e.1 = o)) m i
       have hok := okE_get m2 i hi2
       have hso := refSame_ok (m.getD i default).1 o hok.1 (by omega)
       have hq : m.getD (i : Int).toNat default = m.getD i default := rfl
       change unkE (m.take (i + 1)) k = unkE (m.take i) k ++ _ at hnu
       change dropE (m.take (i + 1)) o = dropE (m.take i) o ++ _ at hnd
       change (unkE (m.take i) k).length ≤ _ at hau
       change (dropE (m.take i) o).length ≤ _ at had
       generalize unkE (m.take i) k = U at *
       generalize dropE (m.take i) o = D at *
       generalize m.getD i default = e at *
       obtain ⟨eo, ec, ev⟩ := e
       dsimp only at hnu hnd hso
       repeat refine nx ?_
       refine W_weaken (St.le_of (l := [(1, I64 o), (6, .c (.ptr 70 0)), (9, exR m), (10, exR m), (11, kR k), (16, .c (.own 902 3 0 (U.map exL).length)), (17, .c (.own 901 3 0 (D.map exL).length)), (18, lv (.int .i64 (i : Int))), (19, lv (.bool false)), (20, lv (.int .i64 ((0 : Nat) : Int)))]) (h := [(70, .cells [.lf (.ints .i64 x0), .lf (.v (.bool x1)), .lf (.ints .u8 x2)]), (901, .row (.recs 3 (D.map exL))), (902, .row (.recs 3 (U.map exL)))]) (by refine ⟨?_, ?_⟩ <;> (repeat' (first | exact trivial | exact rfl | refine ⟨?_, ?_⟩)) <;> first | exact rfl | (simp; done) | skip)) ?_
       refine W_loop (ι := {j : Nat // j ≤ k.length}) (fun j => St.of [(1, I64 o), (6, .c (.ptr 70 0)), (9, exR m), (10, exR m), (11, kR k), (16, .c (.own 902 3 0 (U.map exL).length)), (17, .c (.own 901 3 0 (D.map exL).length)), (18, lv (.int .i64 (i : Int))), (19, lv (.bool ((k.take j.1).any fun b => decide (eo = b)))), (20, lv (.int .i64 (j.1 : Int)))] [(70, .cells [.lf (.ints .i64 x0), .lf (.v (.bool x1)), .lf (.ints .u8 x2)]), (901, .row (.recs 3 (D.map exL))), (902, .row (.recs 3 (U.map exL)))]) (fun j => k.length - j.1) (fun j => ?_) ⟨0, by omega⟩
       obtain ⟨j, hj⟩ := j
       dsimp only
       by_cases hj2 : j < k.length
       · have hkj := k1 _ (get_mem hj2)
         have hs2 := refSame_ok (k.getD j default) eo (by omega) hok.1
         have hqk : k.getD (j : Int).toNat [] = k.getD j default := rfl
         have hna := any_next k eo j hj2
         generalize (k.take j).any (fun b => decide (eo = b)) = B at *
         generalize decide (k.getD j default = eo) = C at *
         generalize k.getD j default = kj at *
         cases B <;>
         · repeat (first | refine nx ?_ | rw [hq] | rw [hqk])
           refine N_round ⟨j + 1, by omega⟩ (by dsimp only; omega) (St.le_of ⟨⟨rfl, rfl, rfl, rfl, rfl, rfl, rfl, rfl, ?_, rfl⟩, ⟨rfl, rfl, rfl⟩⟩)
           dsimp only; rw [hna]; rfl
       · obtain rfl : j = k.length := by omega
         rw [List.take_length]
         generalize k.any (fun b => decide (eo = b)) = B at *
         generalize decide (eo = o) = S at *
         cases ec <;> cases B <;> cases S <;>
         · simp only [Bool.and_true, Bool.and_false, Bool.true_and, Bool.false_and, Bool.not_true, Bool.not_false, if_true, Bool.false_eq_true, if_false, List.append_nil] at hnu hnd
           repeat (first | refine nx ?_ | rw [hq])
           refine N_round ⟨i + 1, by omega⟩ (by dsimp only; omega) (St.le_of ⟨⟨rfl, rfl, rfl, rfl, rfl, ?_, ?_, rfl⟩, ⟨rfl, ?_, ?_⟩⟩)
           all_goals
             dsimp only
             first | rw [hnu] | rw [hnd]
             first | rfl | (rw [List.map_append]; rfl)
     · obtain rfl : i = m.length := by omega
       rw [List.take_length]
       have hU : ∀ e ∈ unkE m k, okE e := fun e he => m2 e (List.mem_filter.1 he).1
       have hD : ∀ e ∈ dropE m o, okE e := fun e he => m2 e (List.mem_filter.1 he).1
       have hS := setE_ok m2 hz
       have lU : (unkE m k).length ≤ 70 := by have := List.length_filter_le (fun e : ExT => e.2.1 && !(k.any fun b => decide (e.1 = b))) m; unfold unkE; omega
       have lD : (dropE m o).length ≤ 70 := by have := List.length_filter_le (fun e : ExT => !decide (e.1 = o)) m; unfold dropE; omega
       have lS := setE_len m z
       have c1 := unknown_ok m k (by omega) m2 (by omega) (fun b hb => by have := k1 b hb; omega)
       have c2 := all17_ok (unkE m k) (by omega)
       have c3 := like_ok (unkE m k) (unkE m k) (by omega) (by omega) hU hU
       have c4 := drop_ok m o (by omega) m2 (by omega)
       have c5 := all17_ok (dropE m o) (by omega)
       have c6 := like_ok (dropE m o) (dropE m o) (by omega) (by omega) hD hD
       have c7 := set_ok m z (by omega) m2 hz
       have c8 := all17_ok (setE m z) (by omega)
       have c9 := like_ok (setE m z) (setE m z) (by omega) (by omega) hS hS
       have c10 := like_ok m m (by omega) (by omega) m2 m2
       rw [decide_eq_true rfl] at c3 c6 c9 c10
       have hpz := place_ok m z.1 (by omega) m2 hz.1
       generalize unkE m k = U at *
       generalize dropE m o = D at *
       refine frzW 16 ?_
       refine frzW 17 ?_
       rcases plG_range (fun e : ExT => decide (e.1 = z.1)) m with g1 | ⟨c, g1, g2⟩
       · change plE m z.1 = -1 at g1
         have hse : setE m z = m ++ [z] := by unfold setE; rw [if_pos (by omega)]
         rw [g1] at hpz
         rw [hse] at c7 c8 c9
         clear hse lS hS
         repeat refine nx ?_
         have haz := all17_ok [z] (by simp)
         refine nx ?_
         refine nx ?_
         refine nx ?_
         refine frzL 22 ?_
         rw [show ([] : List (List Leaf)) ++ List.map exL m ++ List.map exL [z] = List.map exL (m ++ [z]) from by simp]
         repeat refine nx ?_
         refine rt2 [] (congrArg (fun x => lv (.bool x)) ?_) trivial; (simp [eqCs, Cell.kill, Cell.kill1])
       · change plE m z.1 = c at g1
         have hse : setE m z = m.set c z := by unfold setE; rw [if_neg (by omega), g1]; rfl
         rw [g1] at hpz
         rw [hse] at c7 c8 c9
         clear hse lS hS
         have haz := all17_ok [z] (by simp)
         repeat refine nx ?_
         refine se1 z ?_
         refine frzL 22 ?_
         repeat refine nx ?_
         refine rt2 [] (congrArg (fun x => lv (.bool x)) ?_) trivial; (simp [eqCs, Cell.kill, Cell.kill1])
end Go.Proofs.Ytaagjnlkinojcaa

namespace Go.Sx
open Go
open Go.ChangeShapes Go.WideShapes Go.ChangeAt Go.RowKit Go.Joins Go.Deep
set_option linter.unusedVariables false
section
variable {H : Type} {enc : TypeId × Value → H} {P : Program} {w : World} {base : Nat} {spare : Nat → Bool} {held : Bool} {fuel : Nat}
def LeavesR (w : World) (cs : List Value) (ls : List Leaf) : Prop := cs.length = ls.length ∧ ∀ (j : Nat) (z : Leaf), ls[j]? = some z → ∃ u, cs[j]? = some u ∧ LfR (Was w) w z u
theorem open_recs {α : Type} {t e : TypeId} {sz : Nat} {f : α → List Leaf} {Φ : α → Prop} {v : Value} {x : DataW H × List MemPlace} (ht : P.underlying t = some (.slice e)) (hc : P.cellsOf e = sz) (hsz : sz ≠ 0)
   (hel : ∀ n cs y, cs.length = sz → DataW.trod enc P w base spare held n e cs = some y → ∃ a, Φ a ∧ (f a).length = sz ∧ LeavesR w cs (f a)) (h : DataW.trod enc P w base spare held fuel t [v] = some x) :
   ∃ l : List α, l.length ≤ 9223372036854775807 ∧ (∀ a ∈ l, Φ a) ∧ LfR (Was w) w (.recs sz (l.map f)) v := by
 rcases DataW.trod_slice ht h with ⟨hcs, _⟩ | ⟨a, len, cap, elems, rest, n, _, hcs, _, hb, hl, hm, hlen, hel2, hsp, hns⟩
 · simp at hcs
   subst hcs
   exact ⟨[], by simp, fun a h => (by cases h), LfR.recs _ _ _ _ _ (fun _ _ => undef) rfl (Nat.le_refl _) (Nat.zero_le _) (fun r h => by cases h) (fun h => absurd rfl h) (fun i r j x h => by simp at h)⟩
 · simp at hcs
   subst hcs
   have each : ∀ i : _root_.Fin len, ∃ a' : α, Φ a' ∧ (f a').length = sz ∧ ∀ (j : Nat) (z : Leaf), (f a')[j]? = some z → ∃ u, w.cell? ((a.add (i.val * sz)).add j) = some u ∧ LfR (Was w) w z u := by
     intro i
     have h1 := hel2 i.val i.isLt
     rw [hc] at h1
     have h2 : elems[i.val]? = some elems[i.val] := by simp [hlen]
     rw [h2] at h1
     obtain ⟨cs, e1, e2⟩ := Option.bind_eq_some_iff.1 h1
     obtain ⟨q1, q2, q3⟩ := World.cells?_some e1
     obtain ⟨a', p1, p2, p3, p4⟩ := hel n cs _ q2 e2
     refine ⟨a', p1, p2, fun j z hz => ?_⟩
     obtain ⟨u, u1, u2⟩ := p4 j z hz
     have hj : j < sz := by
       have := (List.getElem?_eq_some_iff.1 hz).1
       omega
     refine ⟨u, ?_, u2⟩
     rw [q3 j hj]
     exact u1
   obtain ⟨g, hg⟩ := Classical.axiomOfChoice each
   have hm' : cap ≤ 9223372036854775807 := hm
   refine ⟨List.ofFn g, by simp; omega, fun a' ha => ?_, ?_⟩
   · obtain ⟨i, rfl⟩ := (List.mem_ofFn).1 ha
     exact (hg i).1
   · have hget : ∀ (i : Nat) (r : List Leaf), ((List.ofFn g).map f)[i]? = some r → ∃ hi : i < len, r = f (g ⟨i, hi⟩) := by
       intro i r hr
       rw [List.getElem?_map, Option.map_eq_some_iff] at hr
       obtain ⟨q, hq, rfl⟩ := hr
       rw [List.getElem?_ofFn] at hq
       split at hq
       · rename_i hi
         exact ⟨hi, by rw [← Option.some.inj hq]⟩
       · cases hq
     obtain ⟨b, o, sp⟩ := a
     have hone : 0 < len → sp = none ∧ b < w.heap.size := by
       intro h0
       obtain ⟨_, p2, p3⟩ := hg ⟨0, h0⟩
       obtain ⟨z, hz⟩ : ∃ z, (f (g ⟨0, h0⟩))[0]? = some z := ⟨(f (g ⟨0, h0⟩))[0]'(by omega), by simp⟩
       obtain ⟨u, u1, _⟩ := p3 0 z hz
       have := cell_in u1
       simp [Addr.add] at this
       exact ⟨this.2, this.1⟩
     refine LfR.recs _ _ _ _ _ (fun i j => (w.cell? ⟨b, o + i * sz + j, none⟩).getD undef) (by simp) hl hm (fun r hr => ?_) (fun hne => ?_) (fun i r j x hi hj => ?_)
     · obtain ⟨a', ha, rfl⟩ := List.mem_map.1 hr
       obtain ⟨i, rfl⟩ := (List.mem_ofFn).1 ha
       exact (hg i).2.1
     · have h0 : 0 < len := by
         rcases Nat.eq_zero_or_pos len with h | h
         · subst h; simp at hne
         · exact h
       obtain ⟨rfl, hb1⟩ := hone h0
       refine ⟨b, o, rfl, hb1, fun i r j x hi hj => ?_⟩
       obtain ⟨hi', rfl⟩ := hget i r hi
       obtain ⟨u, u1, _⟩ := (hg ⟨i, hi'⟩).2.2 j x hj
       rw [add_none, add_none] at u1
       rw [u1]; rfl
     · obtain ⟨hi', rfl⟩ := hget i r hi
       obtain ⟨rfl, hb1⟩ := hone (by omega)
       obtain ⟨u, u1, u2⟩ := (hg ⟨i, hi'⟩).2.2 j x hj
       rw [add_none, add_none] at u1
       rw [u1]; exact u2
theorem cell_bool {ty : TypeId} (ht : P.underlying ty = some .bool) : ∀ n c y, DataW.trod enc P w base spare held n ty [c] = some y → ∃ x : Bool, True ∧ LfR (Was w) w (.v (.bool x)) c := by
 intro n c y h
 obtain ⟨b, e0, _⟩ := DataW.trod_bool ht h
 simp at e0
 subst e0
 exact ⟨_, trivial, .v _ rfl⟩
theorem cell_bytes {ty e : TypeId} (ht : P.underlying ty = some (.slice e)) (he : P.underlying e = some (.int .u8)) (hc : P.cellsOf e = 1) : ∀ n c y, DataW.trod enc P w base spare held n ty [c] = some y → ∃ x : List Int, (x.length ≤ 9223372036854775807 ∧ ∀ n ∈ x, 0 ≤ n ∧ n < 256) ∧ LfR (Was w) w (.ints .u8 x) c := by
 intro n c y h
 obtain ⟨l, h1, h2, h3⟩ := open_row ht he hc h
 exact ⟨l, ⟨h1, fun n hn => wf_u8 (h2 n hn)⟩, h3⟩
theorem cell_ints {k : IntKind} {ty e : TypeId} (ht : P.underlying ty = some (.slice e)) (he : P.underlying e = some (.int k)) (hc : P.cellsOf e = 1) : ∀ n c y, DataW.trod enc P w base spare held n ty [c] = some y → ∃ x : List Int, (x.length ≤ 9223372036854775807 ∧ ∀ n ∈ x, (Lit.int k n).wf = true) ∧ LfR (Was w) w (.ints k x) c := by
 intro n c y h
 obtain ⟨l, h1, h2, h3⟩ := open_row ht he hc h
 exact ⟨l, ⟨h1, h2⟩, h3⟩
end
end Go.Sx

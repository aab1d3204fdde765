/-
  Structs of whatever fields that came in, as data. No condition.
-/
import Derived.Test.YtaagjnlkinojcaaE9
import Derived.Test.YtaagjnlkinojcaaE2
import Derived.Test.YtaagjnlkinojcaaW9
import Derived.Test.YtaagjnlkinojcaaSxI
import Derived.Test.YtaagjnlkinojcaaW5
namespace Go.Proofs.Ytaagjnlkinojcaa
set_option linter.unusedSimpArgs false
set_option linter.unusedVariables false
open Go.Sx
set_option maxRecDepth 10000
abbrev e0 : ExT := ([], false, [])
def rawX (l : List Int) (p : Nat) : ExT × Nat × Int :=
 let r := openP l p (ofT 16)
 if r.2.2 = 0 then
   let o := oidR r.1 0
   if o.2.2 = 0 then
     let c := critR r.1 o.2.1
     if c.2.2 = 0 then
       let v := openP r.1 c.2.1 (ofT 4)
       if v.2.2 = 0 then (if v.2.1 < r.1.length then (e0, r.2.1, 7) else ((o.1, c.1, v.1), r.2.1, 0)) else (e0, r.2.1, v.2.2)
     else (e0, r.2.1, c.2.2)
   else (e0, r.2.1, o.2.2)
 else (e0, p, r.2.2)
def exR1 (l : List Int) (p : Nat) : ExT × Nat × Int := keepP e0 p (rawX l p)
theorem rawX_le (l : List Int) (p : Nat) (hp : p ≤ l.length) : p ≤ (rawX l p).2.1 ∧ (rawX l p).2.1 ≤ l.length := by
 have h := openP_le l p (ofT 16) hp
 unfold rawX
 dsimp only
 split
 · split
   · split
     · split
       · split
         · exact h
         · exact h
       · exact h
     · exact h
   · exact h
 · exact ⟨Nat.le_refl _, hp⟩
abbrev exE (x : ExT) (e : Int) : Av := .tup [exA x, lv (.int .i64 e)]
theorem up_e0 : AvUp1 (.agg [.lf (.v (.slice none 0 0)), .lf (.v (.bool false)), .lf (.v (.slice none 0 0))]) (exA e0) := by
 exact ⟨.inr ⟨rfl, .inl ⟨_, rfl⟩⟩, .inl rfl, .inr ⟨rfl, .inl ⟨_, rfl⟩⟩, trivial⟩
set_option maxHeartbeats 8000000 in
theorem rawX_ok (l : List Int) (p : Nat) (hp : p ≤ l.length) (hl : l.length ≤ 1000000) (hw : WfB l) : Ct Try.prog 47 [.c (.ptr 1 0)] [curB l p, ptrB] (exE (rawX l p).1 (rawX l p).2.2) [curB l (rawX l p).2.1, ptrB] [] := by
 have hho := headof_ok 16
 have hop := open_ok l p (ofT 16) hp hl hw
 have hoe := open_err l p (ofT 16) hp hl hw
 have hmem := openP_mem l p (ofT 16)
 unfold rawX
 generalize openP l p (ofT 16) = X at *
 obtain ⟨x, q, e⟩ := X
 dsimp only at *
 by_cases he : e = 0
 · subst he
   have hop := hop rfl
   rw [if_pos rfl]
   have hwx : WfB x := fun y hy => hw y (hmem.2 y hy)
   have h1 := oread_ok x 0 (Nat.zero_le _) (by omega) hwx
   have h1l := oidR_le x 0 (Nat.zero_le _)
   generalize oidR x 0 = O at *
   obtain ⟨o, p1, f1⟩ := O
   dsimp only at *
   by_cases hf1 : f1 = 0
   · subst hf1
     rw [if_pos rfl]
     have h2 := crit_ok x p1 h1l.2 (by omega) hwx
     have h2l := critR_le x p1 h1l.2
     generalize critR x p1 = C at *
     obtain ⟨c, p2, f2⟩ := C
     dsimp only at *
     by_cases hf2 : f2 = 0
     · subst hf2
       rw [if_pos rfl]
       have h3 := roct_ok x p2 h2l.2 (by omega) hwx
       have h3l := openP_le x p2 (ofT 4) h2l.2
       generalize openP x p2 (ofT 4) = V at *
       obtain ⟨v, p3, f3⟩ := V
       dsimp only at *
       by_cases hf3 : f3 = 0
       · subst hf3
         rw [if_pos rfl]
         have h4 := left_ok x p3 h3l.2 (by omega)
         by_cases hlt : p3 < x.length
         · rw [if_pos hlt]
           refine Ct_intro Try.func47 rfl rfl rfl rfl rfl (fun E hn hb => ?_)
           repeat refine nxw ?_
           refine du3E [73] [(2, 0), (2, 73)] ?_
           repeat (first | refine nx ?_ | refine dcn1 [0] hn hop ?_)
           refine rtU [] (hu := ?_)
           exact ⟨up_e0, .inl rfl, trivial⟩
         · rw [if_neg hlt]
           refine Ct_intro Try.func47 rfl rfl rfl rfl rfl (fun E hn hb => ?_)
           repeat refine nxw ?_
           refine du3E [73] [(2, 0), (2, 73)] ?_
           repeat (first | refine nx ?_ | refine dcn1 [0] hn hop ?_)
           exact rt1 []
       · rw [if_neg hf3]
         refine Ct_intro Try.func47 rfl rfl rfl rfl rfl (fun E hn hb => ?_)
         repeat refine nxw ?_
         refine du3E [73] [(2, 0), (2, 73)] ?_
         repeat (first | refine nx ?_ | refine dcn1 [0] hn hop ?_)
         refine rtU [] (hu := ?_)
         exact ⟨up_e0, .inl rfl, trivial⟩
     · rw [if_neg hf2]
       refine Ct_intro Try.func47 rfl rfl rfl rfl rfl (fun E hn hb => ?_)
       repeat refine nxw ?_
       refine du3E [73] [(2, 0), (2, 73)] ?_
       repeat (first | refine nx ?_ | refine dcn1 [0] hn hop ?_)
       refine rtU [] (hu := ?_)
       exact ⟨up_e0, .inl rfl, trivial⟩
   · rw [if_neg hf1]
     refine Ct_intro Try.func47 rfl rfl rfl rfl rfl (fun E hn hb => ?_)
     repeat refine nxw ?_
     refine du3E [73] [(2, 0), (2, 73)] ?_
     repeat (first | refine nx ?_ | refine dcn1 [0] hn hop ?_)
     refine rtU [] (hu := ?_)
     exact ⟨up_e0, .inl rfl, trivial⟩
 · have hoe := hoe he
   rw [if_neg he]
   refine Ct_intro Try.func47 rfl rfl rfl rfl rfl (fun E hn hb => ?_)
   repeat refine nxw ?_
   refine du3E [] [(2, 0)] ?_
   repeat (first | refine nx ?_ | refine dcn1 [0] hn hoe ?_)
   refine rtU [] (hu := ?_)
   exact ⟨up_e0, .inl rfl, trivial⟩
theorem keptE_ok (g : FuncId) (l : List Int) (p q : Nat) (x : ExT) (hg : Ct Try.prog g [.c (.ptr 1 0)] [curB l p, ptrB] (exE x 0) [curB l q, ptrB] []) :
   Ct Try.prog 46 [.c (.ptr 0 0), .c (.fn (.func g) [] [.ptr 1 0])] [curB l p, ptrB] (exE x 0) [curB l q, ptrB] [] := by
 have h1 := at_ok l p
 refine Ct_intro Try.func46 rfl rfl rfl rfl rfl (fun E hn hb => ?_)
 repeat refine nx ?_
 exact rt1 []
theorem keptE_err (g : FuncId) (l : List Int) (p q : Nat) (x : ExT) (e : Int) (he : e ≠ 0) (hq : p ≤ q) (hl : q ≤ 1000000) (hg : Ct Try.prog g [.c (.ptr 1 0)] [curB l p, ptrB] (exE x e) [curB l q, ptrB] []) :
   Ct Try.prog 46 [.c (.ptr 0 0), .c (.fn (.func g) [] [.ptr 1 0])] [curB l p, ptrB] (exE e0 e) [curB l p, ptrB] [] := by
 have h1 := at_ok l p
 have hbk := back_ok l q p hq hl
 refine Ct_intro Try.func46 rfl rfl rfl rfl rfl (fun E hn hb => ?_)
 repeat refine nx ?_
 refine rtU [] (hu := ?_)
 exact ⟨up_e0, .inl rfl, trivial⟩
theorem readone_ok (l : List Int) (p : Nat) (hp : p ≤ l.length) (hl : l.length ≤ 1000000) (hw : WfB l) : Ct Try.prog 26 [.c (.ptr 0 0)] [curB l p] (exE (exR1 l p).1 (exR1 l p).2.2) [curB l (exR1 l p).2.1] [] := by
 have h := rawX_ok l p hp hl hw
 have hle := rawX_le l p hp
 have hk : Ct Try.prog 46 [.c (.ptr 0 0), .c (.fn (.func 47) [] [.ptr 1 0])] [curB l p, ptrB] (exE (exR1 l p).1 (exR1 l p).2.2) [curB l (exR1 l p).2.1, ptrB] [] := by
   unfold exR1
   by_cases he : (rawX l p).2.2 = 0
   · rw [keepP_ok _ _ _ he]
     rw [he] at h ⊢
     exact keptE_ok 47 l p _ _ h
   · rw [keepP_err _ _ _ he]
     exact keptE_err 47 l p _ _ _ he hle.1 (by omega) h
 refine Ct_intro Try.func26 rfl rfl rfl rfl rfl (fun E hn hb => ?_)
 repeat refine nx ?_
 refine s_call [0, 65] hk rfl rfl (by rw [hn]; rfl) rfl rfl (by trivial) ⟨rfl, ⟨rfl, rfl⟩, (by simp [ordL]), rfl⟩ ?_
 repeat refine nx ?_
 exact rt1 []

def xA : List Int := [48, 10, 6, 3, 85, 29, 20, 4, 3, 2, 1, 5]
def xB : List Int := [48, 13, 6, 3, 85, 29, 20, 1, 1, 0, 4, 3, 2, 1, 5]
def tA : List Int := [51, 48, 48, 97, 48, 54, 48, 51, 53, 53, 49, 100, 49, 52, 48, 52, 48, 51, 48, 50, 48, 49, 48, 53]
def tB : List Int := [51, 48, 48, 100, 48, 54, 48, 51, 53, 53, 49, 100, 49, 52, 48, 49, 48, 49, 48, 48, 48, 52, 48, 51, 48, 50, 48, 49, 48, 53]
theorem tA_s : strOfNums tA = ByteArray.mk #[51, 48, 48, 97, 48, 54, 48, 51, 53, 53, 49, 100, 49, 52, 48, 52, 48, 51, 48, 50, 48, 49, 48, 53] := by decide +kernel
theorem tB_s : strOfNums tB = ByteArray.mk #[51, 48, 48, 100, 48, 54, 48, 51, 53, 53, 49, 100, 49, 52, 48, 49, 48, 49, 48, 48, 48, 52, 48, 51, 48, 50, 48, 49, 48, 53] := by decide +kernel
theorem tA_u : unhL tA 12 = xA := by decide +kernel
theorem tB_u : unhL tB 15 = xB := by decide +kernel
theorem tA_x : ∀ i, i < tA.length → hexV (tA.getD i 0) ≤ 15 ∧ 0 ≤ hexV (tA.getD i 0) := by decide +kernel
theorem tB_x : ∀ i, i < tB.length → hexV (tB.getD i 0) ≤ 15 ∧ 0 ≤ hexV (tB.getD i 0) := by decide +kernel
theorem xA_r : exR1 xA 0 = (([2, 5, 29, 20], false, [2, 1, 5]), 12, 0) := by decide +kernel
theorem xB_r : exR1 xB 0 = (e0, 0, 6) := by decide +kernel
theorem wf17 {l : List Int} (h : (l.all fun x => decide (0 ≤ x) && decide (x < 256)) = true) : WfB l := fun x hx => by
 have := List.all_eq_true.1 h x hx
 simpa using this
theorem hx_v : strOfNums (hexL [2, 1, 5]) = ByteArray.mk #[48, 50, 48, 49, 48, 53] := by decide +kernel
set_option maxHeartbeats 8000000 in
theorem known17_ok : Ct Try.prog 12 [] [] (lv (.bool true)) [] [] := by
 have hu1 := unhex_ok tA 12 (by decide) (by decide) (wf17 (by decide +kernel)) tA_x
 rw [tA_s, tA_u] at hu1
 have hu2 := unhex_ok tB 15 (by decide) (by decide) (wf17 (by decide +kernel)) tB_x
 rw [tB_s, tB_u] at hu2
 have hc1 := curnew_ok xA (by decide)
 have hc2 := curnew_ok xB (by decide)
 have hr1 := readone_ok xA 0 (Nat.zero_le _) (by decide) (wf17 (by decide +kernel))
 rw [xA_r] at hr1
 have hr2 := readone_ok xB 0 (Nat.zero_le _) (by decide) (wf17 (by decide +kernel))
 rw [xB_r] at hr2
 have hf := find_ok [([2, 5, 29, 20], false, [2, 1, 5])] [2, 5, 29, 20] (by decide) (fun e he => by rw [List.mem_singleton.1 he]; exact ⟨by decide, by decide⟩) (by decide) 0 (by decide) (by decide)
 have hx := hex_ok [2, 1, 5] (by decide) (wf17 (by decide +kernel))
 rw [hx_v] at hx
 dsimp only at hr1 hr2 hf
 refine Ct_intro Try.func12 rfl rfl rfl rfl rfl (fun E hn hb => ?_)
 repeat refine nx ?_
 refine s_call [85] hr1 rfl rfl (by rw [hn]; rfl) rfl rfl (by trivial) ⟨rfl, rfl, (by simp [ordL]), rfl⟩ ?_
 repeat refine nx ?_
 refine rt2 [] (congrArg (fun x => lv (.bool x)) ?_) trivial; (simp [eqCs, Cell.kill, Cell.kill1])

def InM (l : List ExT) : Prop := ∀ e ∈ l, (e.1.length ≤ 9223372036854775807 ∧ ∀ n ∈ e.1, (Go.Lit.int .i64 n).wf = true) ∧ True ∧ (e.2.2.length ≤ 9223372036854775807 ∧ WfB e.2.2)
theorem fewE_ok (l : List ExT) (h : InM l) : (fewE l).length ≤ 70 ∧ (∀ e ∈ fewE l, okE e) ∧ (∀ e ∈ fewE l, e.1.length ≤ 40 ∧ e.2.2.length ≤ 200 ∧ WfB e.2.2) := by
 unfold fewE
 have key : ∀ e ∈ (l.take 70).map cutE, e.1.length ≤ 40 ∧ e.2.2.length ≤ 200 ∧ WfB e.2.2 := fun e he => by
   obtain ⟨x, hx, rfl⟩ := List.mem_map.1 he
   have hw := (h x (List.mem_of_mem_take hx)).2.2.2
   unfold cutE
   exact ⟨by simp; omega, by simp; omega, fun y hy => hw y (List.mem_of_mem_take hy)⟩
 exact ⟨by simp; omega, fun e he => ⟨by have := (key e he).1; omega, by have := (key e he).2.1; omega⟩, key⟩

theorem parsedP_none {l : List Int} {p : Nat} {t : TagP} (h : ¬ (parsedP l p t).1.2.2 = 0) : (parsedP l p t).1.1 = false ∧ (parsedP l p t).1.2.1 = [] := by
 unfold parsedP at h ⊢
 by_cases h1 : (openP l p t).2.2 = 0
 · rw [if_pos h1] at h ⊢
   by_cases h2 : (parseN (openP l p t).1).2.2 = 0
   · rw [if_pos h2] at h; exact absurd h2 h
   · rw [if_neg h2]
     have := parse_err _ h2
     rw [this]
     exact ⟨rfl, rfl⟩
 · rw [if_neg h1]
   exact ⟨rfl, rfl⟩
theorem value_no (l : List ExT) (o : List Int) (hl : l.length ≤ 1000000) (h : ∀ e ∈ l, okE e) (ho : o.length ≤ 1000000) (hp : plE l o = -1) : Ct Try.prog 16 [exR l, I64 o, .c (.fn (.func 17) [] [])] [] (.tup [numA false [], lv (.bool false), lv (.int .i64 0)]) [] [] := by
 have h1 := index_ok l o hl h ho
 rw [hp] at h1
 refine Ct_intro Try.func16 rfl rfl rfl rfl rfl (fun E hn hb => ?_)
 repeat refine nx ?_
 refine rtU [] (hu := ?_)
 exact ⟨⟨.inl rfl, .inr ⟨rfl, .inl ⟨_, rfl⟩⟩, trivial⟩, .inl rfl, .inl rfl, trivial⟩
def valR (v : List Int) : (Bool × List Int) × Int :=
 let R := parsedP v 0 (ofT 2)
 if R.1.2.2 = 0 then (if R.2 < v.length then ((false, []), 7) else ((R.1.1, R.1.2.1), 0)) else ((false, []), R.1.2.2)
set_option maxHeartbeats 4000000 in
theorem value_ok17 (l : List ExT) (o : List Int) (hl : l.length ≤ 1000000) (h : ∀ e ∈ l, okE e) (ho : o.length ≤ 1000000) (a : Nat) (ha : a < l.length) (hp : plE l o = a) (v : List Int) (hv : (l.getD a default).2.2 = v) (hv1 : v.length ≤ 1000) (hv2 : WfB v) :
   Ct Try.prog 16 [exR l, I64 o, .c (.fn (.func 17) [] [])] [] (.tup [numA (valR v).1.1 (valR v).1.2, lv (.bool true), lv (.int .i64 (valR v).2)]) [] [] := by
 have h1 := index_ok l o hl h ho
 rw [hp] at h1
 have h2 := curnew_ok v (by omega)
 have h3 := wread_ok v 0 (Nat.zero_le _) hv1 hv2
 have hq : l.getD (a : Int).toNat default = l.getD a default := rfl
 generalize l.getD a default = e at *
 obtain ⟨eo, ec, ev⟩ := e
 dsimp only at hv
 subst hv
 have hle := parsedP_le ev 0 (ofT 2) (Nat.zero_le _)
 unfold valR
 generalize parsedP ev 0 (ofT 2) = R at *
 obtain ⟨⟨b, s, f⟩, q⟩ := R
 dsimp only at *
 have h4 := left_ok ev q hle.2 (by omega)
 by_cases hf : f = 0
 · subst hf
   rw [if_pos rfl]
   by_cases hlt : q < ev.length
   · rw [if_pos hlt]
     refine Ct_intro Try.func16 rfl rfl rfl rfl rfl (fun E hn hb => ?_)
     repeat (first | refine nx ?_ | rw [hq])
     refine rtU [] (hu := ?_)
     exact ⟨⟨.inl rfl, .inr ⟨rfl, .inl ⟨_, rfl⟩⟩, trivial⟩, .inl rfl, .inl rfl, trivial⟩
   · rw [if_neg hlt]
     refine Ct_intro Try.func16 rfl rfl rfl rfl rfl (fun E hn hb => ?_)
     repeat (first | refine nx ?_ | rw [hq])
     exact rt1 []
 · rw [if_neg hf]
   refine Ct_intro Try.func16 rfl rfl rfl rfl rfl (fun E hn hb => ?_)
   repeat (first | refine nx ?_ | rw [hq])
   refine rtU [] (hu := ?_)
   exact ⟨⟨.inl rfl, .inr ⟨rfl, .inl ⟨_, rfl⟩⟩, trivial⟩, .inl rfl, .inl rfl, trivial⟩
theorem same_self (b : Bool) (s : List Int) (hs : s.length ≤ 1000000) : Ct Try.prog 20 [numA b s, numA b s] [] (lv (.bool true)) [] [] := by
 have := refsame_ok b b s s hs hs
 simpa using this
set_option maxHeartbeats 16000000 in
theorem values_ok (l : List ExT) (o0 : List Int) (hl : l.length ≤ 9223372036854775807) (ho0 : o0.length ≤ 9223372036854775807)
   (hw : ∀ e ∈ l, (e.1.length ≤ 9223372036854775807 ∧ ∀ n ∈ e.1, (Go.Lit.int .i64 n).wf = true) ∧ True ∧ (e.2.2.length ≤ 9223372036854775807 ∧ WfB e.2.2)) :
   Ct Try.prog 4 [exR l, I64 o0] [] (lv (.bool true)) [] [] := by
 have hkn := known17_ok
 have hfe := few17_ok l hl (fun e he => ⟨(hw e he).1.1, (hw e he).2.2.1⟩)
 obtain ⟨m1, m2, m3⟩ := fewE_ok l hw
 generalize fewE l = m at *
 have hmin : o0.take (min (o0.length : Int) 40).toNat = o0.take 40 := minT o0 40
 have hol : (o0.take 40).length ≤ 40 := by simp; omega
 have ham := all17_ok m (by omega)
 have hso := refoft_ok 2
 rcases plG_range (fun e : ExT => decide (e.1 = o0.take 40)) m with e1 | ⟨a, e1, e2⟩
 · change plE m (o0.take 40) = -1 at e1
   have hpl := place_ok m (o0.take 40) (by omega) m2 (by omega)
   have hva := value_no m (o0.take 40) (by omega) m2 (by omega) e1
   rw [e1] at hpl
   refine Ct_intro Try.func4 rfl rfl rfl rfl rfl (fun E hn hb => ?_)
   repeat refine nx ?_
   rw [hmin]
   generalize o0.take 40 = o at *
   repeat refine nx ?_
   refine rt2 [] (congrArg (fun x => lv (.bool x)) ?_) trivial; (simp [eqCs, Cell.kill, Cell.kill1])
 · change plE m (o0.take 40) = a at e1
   have hpl := place_ok m (o0.take 40) (by omega) m2 (by omega)
   have hm := m3 _ (get_mem e2)
   have hva := value_ok17 m (o0.take 40) (by omega) m2 (by omega) a e2 e1 _ rfl (by omega) hm.2.2
   rw [e1] at hpl
   have hrr := refnum_ok (m.getD a default).2.2 0 (ofT 2) (Nat.zero_le _) (by omega) hm.2.2
   have hnum := parsedP_num (m.getD a default).2.2 0 (ofT 2) hm.2.2
   have hle := parsedP_le (m.getD a default).2.2 0 (ofT 2) (Nat.zero_le _)
   have hno := @parsedP_none (m.getD a default).2.2 0 (ofT 2)
   have hq : m.getD (a : Int).toNat default = m.getD a default := rfl
   unfold valR at hva
   generalize m.getD a default = e at *
   obtain ⟨eo, ec, ev⟩ := e
   dsimp only at *
   generalize parsedP ev 0 (ofT 2) = R at *
   obtain ⟨⟨b, s, f⟩, q⟩ := R
   dsimp only at *
   by_cases hf : f = 0
   · subst hf
     rw [if_pos rfl] at hva
     by_cases hlt : q < ev.length
     · rw [if_pos hlt] at hva
       have hsm := same_self false [] (by decide)
       have hsm : Ct Try.prog 20 [numA false [], .agg [.lf (.v (.bool false)), .lf (.v (.slice none 0 0))]] [] (lv (.bool true)) [] [] := Ct_upA hsm ⟨⟨.inl rfl, .inl rfl, trivial⟩, ⟨.inl rfl, .inr ⟨rfl, .inl ⟨_, rfl⟩⟩, trivial⟩, trivial⟩
       refine Ct_intro Try.func4 rfl rfl rfl rfl rfl (fun E hn hb => ?_)
       repeat refine nx ?_
       rw [hmin]
       generalize o0.take 40 = o at *
       repeat (first | refine nx ?_ | rw [hq])
       refine rt2 [] (congrArg (fun x => lv (.bool x)) ?_) trivial; (simp [eqCs, Cell.kill, Cell.kill1])
     · rw [if_neg hlt] at hva
       have hsm := same_self b s (by omega)
       refine Ct_intro Try.func4 rfl rfl rfl rfl rfl (fun E hn hb => ?_)
       repeat refine nx ?_
       rw [hmin]
       generalize o0.take 40 = o at *
       repeat (first | refine nx ?_ | rw [hq])
       refine rt2 [] (congrArg (fun x => lv (.bool x)) ?_) trivial; (simp [eqCs, Cell.kill, Cell.kill1])
   · rw [if_neg hf] at hva
     obtain ⟨rfl, rfl⟩ := hno hf
     have hsm := same_self false [] (by decide)
     refine Ct_intro Try.func4 rfl rfl rfl rfl rfl (fun E hn hb => ?_)
     repeat refine nx ?_
     rw [hmin]
     generalize o0.take 40 = o at *
     repeat (first | refine nx ?_ | rw [hq])
     refine rt2 [] (congrArg (fun x => lv (.bool x)) ?_) trivial; (simp [eqCs, Cell.kill, Cell.kill1])
end Go.Proofs.Ytaagjnlkinojcaa

namespace Go.Sx
open Go
open Go.ChangeShapes Go.WideShapes Go.ChangeAt Go.RowKit Go.Joins Go.Deep
set_option linter.unusedVariables false
section
variable {H : Type} {enc : TypeId × Value → H} {P : Program} {w : World} {base : Nat} {spare : Nat → Bool} {held : Bool} {fuel : Nat}
def LeavesR (w : World) (cs : List Value) (ls : List Leaf) : Prop := cs.length = ls.length ∧ ∀ (j : Nat) (z : Leaf), ls[j]? = some z → ∃ u, cs[j]? = some u ∧ LfR (Was w) w z u
theorem open_recs {α : Type} {t e : TypeId} {sz : Nat} {f : α → List Leaf} {Φ : α → Prop} {v : Value} {x : DataW H × List MemPlace} (ht : P.underlying t = some (.slice e)) (hc : P.cellsOf e = sz) (hsz : sz ≠ 0)
   (hel : ∀ n cs y, cs.length = sz → DataW.trod enc P w base spare held n e cs = some y → ∃ a, Φ a ∧ (f a).length = sz ∧ LeavesR w cs (f a)) (h : DataW.trod enc P w base spare held fuel t [v] = some x) :
   ∃ l : List α, l.length ≤ 9223372036854775807 ∧ (∀ a ∈ l, Φ a) ∧ LfR (Was w) w (.recs sz (l.map f)) v := by
 rcases DataW.trod_slice ht h with ⟨hcs, _⟩ | ⟨a, len, cap, elems, rest, n, _, hcs, _, hb, hl, hm, hlen, hel2, hsp, hns⟩
 · simp at hcs
   subst hcs
   exact ⟨[], by simp, fun a h => (by cases h), LfR.recs _ _ _ _ _ (fun _ _ => undef) rfl (Nat.le_refl _) (Nat.zero_le _) (fun r h => by cases h) (fun h => absurd rfl h) (fun i r j x h => by simp at h)⟩
 · simp at hcs
   subst hcs
   have each : ∀ i : _root_.Fin len, ∃ a' : α, Φ a' ∧ (f a').length = sz ∧ ∀ (j : Nat) (z : Leaf), (f a')[j]? = some z → ∃ u, w.cell? ((a.add (i.val * sz)).add j) = some u ∧ LfR (Was w) w z u := by
     intro i
     have h1 := hel2 i.val i.isLt
     rw [hc] at h1
     have h2 : elems[i.val]? = some elems[i.val] := by simp [hlen]
     rw [h2] at h1
     obtain ⟨cs, e1, e2⟩ := Option.bind_eq_some_iff.1 h1
     obtain ⟨q1, q2, q3⟩ := World.cells?_some e1
     obtain ⟨a', p1, p2, p3, p4⟩ := hel n cs _ q2 e2
     refine ⟨a', p1, p2, fun j z hz => ?_⟩
     obtain ⟨u, u1, u2⟩ := p4 j z hz
     have hj : j < sz := by
       have := (List.getElem?_eq_some_iff.1 hz).1
       omega
     refine ⟨u, ?_, u2⟩
     rw [q3 j hj]
     exact u1
   obtain ⟨g, hg⟩ := Classical.axiomOfChoice each
   have hm' : cap ≤ 9223372036854775807 := hm
   refine ⟨List.ofFn g, by simp; omega, fun a' ha => ?_, ?_⟩
   · obtain ⟨i, rfl⟩ := (List.mem_ofFn).1 ha
     exact (hg i).1
   · have hget : ∀ (i : Nat) (r : List Leaf), ((List.ofFn g).map f)[i]? = some r → ∃ hi : i < len, r = f (g ⟨i, hi⟩) := by
       intro i r hr
       rw [List.getElem?_map, Option.map_eq_some_iff] at hr
       obtain ⟨q, hq, rfl⟩ := hr
       rw [List.getElem?_ofFn] at hq
       split at hq
       · rename_i hi
         exact ⟨hi, by rw [← Option.some.inj hq]⟩
       · cases hq
     obtain ⟨b, o, sp⟩ := a
     have hone : 0 < len → sp = none ∧ b < w.heap.size := by
       intro h0
       obtain ⟨_, p2, p3⟩ := hg ⟨0, h0⟩
       obtain ⟨z, hz⟩ : ∃ z, (f (g ⟨0, h0⟩))[0]? = some z := ⟨(f (g ⟨0, h0⟩))[0]'(by omega), by simp⟩
       obtain ⟨u, u1, _⟩ := p3 0 z hz
       have := cell_in u1
       simp [Addr.add] at this
       exact ⟨this.2, this.1⟩
     refine LfR.recs _ _ _ _ _ (fun i j => (w.cell? ⟨b, o + i * sz + j, none⟩).getD undef) (by simp) hl hm (fun r hr => ?_) (fun hne => ?_) (fun i r j x hi hj => ?_)
     · obtain ⟨a', ha, rfl⟩ := List.mem_map.1 hr
       obtain ⟨i, rfl⟩ := (List.mem_ofFn).1 ha
       exact (hg i).2.1
     · have h0 : 0 < len := by
         rcases Nat.eq_zero_or_pos len with h | h
         · subst h; simp at hne
         · exact h
       obtain ⟨rfl, hb1⟩ := hone h0
       refine ⟨b, o, rfl, hb1, fun i r j x hi hj => ?_⟩
       obtain ⟨hi', rfl⟩ := hget i r hi
       obtain ⟨u, u1, _⟩ := (hg ⟨i, hi'⟩).2.2 j x hj
       rw [add_none, add_none] at u1
       rw [u1]; rfl
     · obtain ⟨hi', rfl⟩ := hget i r hi
       obtain ⟨rfl, hb1⟩ := hone (by omega)
       obtain ⟨u, u1, u2⟩ := (hg ⟨i, hi'⟩).2.2 j x hj
       rw [add_none, add_none] at u1
       rw [u1]; exact u2
theorem cell_bool {ty : TypeId} (ht : P.underlying ty = some .bool) : ∀ n c y, DataW.trod enc P w base spare held n ty [c] = some y → ∃ x : Bool, True ∧ LfR (Was w) w (.v (.bool x)) c := by
 intro n c y h
 obtain ⟨b, e0, _⟩ := DataW.trod_bool ht h
 simp at e0
 subst e0
 exact ⟨_, trivial, .v _ rfl⟩
theorem cell_bytes {ty e : TypeId} (ht : P.underlying ty = some (.slice e)) (he : P.underlying e = some (.int .u8)) (hc : P.cellsOf e = 1) : ∀ n c y, DataW.trod enc P w base spare held n ty [c] = some y → ∃ x : List Int, (x.length ≤ 9223372036854775807 ∧ ∀ n ∈ x, 0 ≤ n ∧ n < 256) ∧ LfR (Was w) w (.ints .u8 x) c := by
 intro n c y h
 obtain ⟨l, h1, h2, h3⟩ := open_row ht he hc h
 exact ⟨l, ⟨h1, fun n hn => wf_u8 (h2 n hn)⟩, h3⟩
theorem cell_ints {k : IntKind} {ty e : TypeId} (ht : P.underlying ty = some (.slice e)) (he : P.underlying e = some (.int k)) (hc : P.cellsOf e = 1) : ∀ n c y, DataW.trod enc P w base spare held n ty [c] = some y → ∃ x : List Int, (x.length ≤ 9223372036854775807 ∧ ∀ n ∈ x, (Lit.int k n).wf = true) ∧ LfR (Was w) w (.ints k x) c := by
 intro n c y h
 obtain ⟨l, h1, h2, h3⟩ := open_row ht he hc h
 exact ⟨l, ⟨h1, h2⟩, h3⟩
end

section
variable {H : Type} {enc : TypeId × Value → H} {P : Program} {w : World} {base : Nat} {spare : Nat → Bool} {held : Bool}
def ReadsAs (enc : TypeId × Value → H) (P : Program) (w : World) (base : Nat) (spare : Nat → Bool) (held : Bool) {A : Type} (t : TypeId) (k : Nat) (f : A → List Leaf) (Φ : A → Prop) : Prop :=
 ∀ n cs y, cs.length = k → DataW.trod enc P w base spare held n t cs = some y → ∃ a, Φ a ∧ (f a).length = k ∧ LeavesR w cs (f a)
theorem reads_one {A : Type} {t : TypeId} {g : A → Leaf} {Φ : A → Prop} (h : ∀ n c y, DataW.trod enc P w base spare held n t [c] = some y → ∃ x, Φ x ∧ LfR (Was w) w (g x) c) : ReadsAs enc P w base spare held t 1 (fun x => [g x]) Φ := by
 intro n cs y hcs hy
 match cs, hcs with
 | [c], _ =>
   obtain ⟨x, h1, h2⟩ := h n c y hy
   refine ⟨x, h1, rfl, rfl, fun j z hz => ?_⟩
   cases j with
   | zero => simp at hz; subst hz; exact ⟨c, rfl, h2⟩
   | succ j => simp at hz
theorem leaves_app {cs : List Value} {k0 k1 : Nat} {l0 l1 : List Leaf} (hk : cs.length = k0 + k1) (h0 : LeavesR w (cs.take k0) l0) (h1 : LeavesR w ((cs.drop k0).take k1) l1) : LeavesR w cs (l0 ++ l1) := by
 have e0 : l0.length = k0 := by rw [← h0.1]; simp; omega
 have e1 : l1.length = k1 := by rw [← h1.1]; simp; omega
 refine ⟨by simp; omega, fun j z hz => ?_⟩
 rcases Nat.lt_or_ge j k0 with h | h
 · rw [List.getElem?_append_left (by omega)] at hz
   obtain ⟨u, a, b⟩ := h0.2 j z hz
   rw [List.getElem?_take_of_lt h] at a
   exact ⟨u, a, b⟩
 · rw [List.getElem?_append_right (by omega), e0] at hz
   obtain ⟨u, a, b⟩ := h1.2 (j - k0) z hz
   have hj : j - k0 < k1 := by
     have := (List.getElem?_eq_some_iff.1 hz).1
     omega
   rw [List.getElem?_take_of_lt hj, List.getElem?_drop, show k0 + (j - k0) = j by omega] at a
   exact ⟨u, a, b⟩
theorem reads_three {A B C : Type} {t : TypeId} {f0 f1 f2 : Field} {k0 k1 k2 : Nat} {g0 : A → List Leaf} {g1 : B → List Leaf} {g2 : C → List Leaf} {Φ0 : A → Prop} {Φ1 : B → Prop} {Φ2 : C → Prop} (ht : P.underlying t = some (.struct #[f0, f1, f2])) (ho : f0.offset = 0 ∧ f1.offset = k0 ∧ f2.offset = k0 + k1) (hc0 : P.cellsOf f0.type = k0) (hc1 : P.cellsOf f1.type = k1) (hc2 : P.cellsOf f2.type = k2)
   (h0 : ReadsAs enc P w base spare held f0.type k0 g0 Φ0) (h1 : ReadsAs enc P w base spare held f1.type k1 g1 Φ1) (h2 : ReadsAs enc P w base spare held f2.type k2 g2 Φ2) : ReadsAs enc P w base spare held t (k0 + k1 + k2) (fun x : A × B × C => g0 x.1 ++ g1 x.2.1 ++ g2 x.2.2) (fun x => Φ0 x.1 ∧ Φ1 x.2.1 ∧ Φ2 x.2.2) := by
 intro n cs y hcs hy
 obtain ⟨y0, y1, y2, m, _, _, z0, z1, z2⟩ := trod_struct3 ht hy
 rw [ho.1, hc0, List.drop_zero] at z0
 rw [ho.2.1, hc1] at z1
 rw [ho.2.2, hc2] at z2
 obtain ⟨a, a1, a2, a3⟩ := h0 m _ _ (by simp; omega) z0
 obtain ⟨b, b1, b2, b3⟩ := h1 m _ _ (by simp; omega) z1
 obtain ⟨c, c1, c2, c3⟩ := h2 m _ _ (by simp; omega) z2
 refine ⟨(a, b, c), ⟨a1, b1, c1⟩, by simp [a2, b2, c2]; omega, leaves_app hcs (leaves_app (k0 := k0) (k1 := k1) (by simp; omega) ?_ ?_) c3⟩
 · rw [List.take_take, Nat.min_eq_left (by omega)]; exact a3
 · rw [List.drop_take, show k0 + k1 - k0 = k1 by omega, List.take_take, Nat.min_self]; exact b3
theorem open_rowsS {A : Type} {t e : TypeId} {k : Nat} {f : A → List Leaf} {Φ : A → Prop} {v : Value} {d : DataW H} {p : List MemPlace} {r : Reach} {b0 : Nat} (ht : P.underlying t = some (.slice e)) (hc : P.cellsOf e = k) (hk : Nat.beq k 0 = false) (hR : ReadsAs enc P w base spare held e k f Φ)
   (hv : Value.okWide P w r b0 t v) (h : DataW.Trod enc P w base spare held t v d p) : ∃ l : List A, l.length ≤ 9223372036854775807 ∧ (∀ a ∈ l, Φ a) ∧ ∀ β, AvR β (Was w) w (.c (.lf (.recs k (l.map f)))) v := by
 obtain ⟨a, n, c, rfl⟩ := okWide_slice ht hv
 obtain ⟨fuel, h⟩ := h
 simp only [Value.cells] at h
 obtain ⟨l, h1, h2, h3⟩ := open_recs (f := f) (Φ := Φ) ht hc (by rintro rfl; simp at hk) (fun n cs y hcs hy => hR n cs y hcs hy) h
 exact ⟨l, h1, h2, fun β => .c (.lf h3)⟩
end
end Go.Sx

/-
  Chapter 04: oids' texts and the numbers that they say, plain. No condition.
-/
import Derived.Test.YtaagjnlkinojcaaGreatDoorE9
import Derived.Test.YtaagjnlkinojcaaGreatDoorB9
import Derived.Test.YtaagjnlkinojcaaGreatDoorW10
import Derived.Test.YtaagjnlkinojcaaGreatDoorE3
import Derived.Test.YtaagjnlkinojcaaGreatDoorW19
import Derived.Test.YtaagjnlkinojcaaGreatDoorA5
import Derived.Lib.ItoaNum
namespace Go.Proofs.YtaagjnlkinojcaaGreatDoor
set_option linter.unusedSimpArgs false
set_option linter.unusedVariables false
open Go.Sx
set_option maxRecDepth 10000
abbrev e0 : ExT := ([], false, [])
def rawX (l : List Int) (p : Nat) : ExT × Nat × Int :=
 let r := openP l p (ofT 16)
 if r.2.2 = 0 then
   let o := oidR r.1 0
   if o.2.2 = 0 then
     let c := critR r.1 o.2.1
     if c.2.2 = 0 then
       let v := openP r.1 c.2.1 (ofT 4)
       if v.2.2 = 0 then (if v.2.1 < r.1.length then (e0, r.2.1, 7) else ((o.1, c.1, v.1), r.2.1, 0)) else (e0, r.2.1, v.2.2)
     else (e0, r.2.1, c.2.2)
   else (e0, r.2.1, o.2.2)
 else (e0, p, r.2.2)
def exR1 (l : List Int) (p : Nat) : ExT × Nat × Int := keepP e0 p (rawX l p)
theorem rawX_le (l : List Int) (p : Nat) (hp : p ≤ l.length) : p ≤ (rawX l p).2.1 ∧ (rawX l p).2.1 ≤ l.length := by
 have h := openP_le l p (ofT 16) hp
 unfold rawX
 dsimp only
 split
 · split
   · split
     · split
       · split
         · exact h
         · exact h
       · exact h
     · exact h
   · exact h
 · exact ⟨Nat.le_refl _, hp⟩
abbrev exE (x : ExT) (e : Int) : Av := .tup [exA x, lv (.int .i64 e)]
theorem up_e0 : AvUp1 (.agg [.lf (.v (.slice none 0 0)), .lf (.v (.bool false)), .lf (.v (.slice none 0 0))]) (exA e0) := by
 exact ⟨.inr ⟨rfl, .inl ⟨_, rfl⟩⟩, .inl rfl, .inr ⟨rfl, .inl ⟨_, rfl⟩⟩, trivial⟩
set_option maxHeartbeats 8000000 in
theorem rawX_ok (l : List Int) (p : Nat) (hp : p ≤ l.length) (hl : l.length ≤ 1000000) (hw : WfB l) : Ct Tryz.prog 32 [.c (.ptr 1 0)] [curB l p, ptrB] (exE (rawX l p).1 (rawX l p).2.2) [curB l (rawX l p).2.1, ptrB] [] := by
 have hho := headof_ok 16
 have hop := open_ok l p (ofT 16) hp hl hw
 have hoe := open_err l p (ofT 16) hp hl hw
 have hmem := openP_mem l p (ofT 16)
 unfold rawX
 generalize openP l p (ofT 16) = X at *
 obtain ⟨x, q, e⟩ := X
 dsimp only at *
 by_cases he : e = 0
 · subst he
   have hop := hop rfl
   rw [if_pos rfl]
   have hwx : WfB x := fun y hy => hw y (hmem.2 y hy)
   have h1 := oread_ok x 0 (Nat.zero_le _) (by omega) hwx
   have h1l := oidR_le x 0 (Nat.zero_le _)
   generalize oidR x 0 = O at *
   obtain ⟨o, p1, f1⟩ := O
   dsimp only at *
   by_cases hf1 : f1 = 0
   · subst hf1
     rw [if_pos rfl]
     have h2 := crit_ok x p1 h1l.2 (by omega) hwx
     have h2l := critR_le x p1 h1l.2
     generalize critR x p1 = C at *
     obtain ⟨c, p2, f2⟩ := C
     dsimp only at *
     by_cases hf2 : f2 = 0
     · subst hf2
       rw [if_pos rfl]
       have h3 := roct_ok x p2 h2l.2 (by omega) hwx
       have h3l := openP_le x p2 (ofT 4) h2l.2
       generalize openP x p2 (ofT 4) = V at *
       obtain ⟨v, p3, f3⟩ := V
       dsimp only at *
       by_cases hf3 : f3 = 0
       · subst hf3
         rw [if_pos rfl]
         have h4 := left_ok x p3 h3l.2 (by omega)
         by_cases hlt : p3 < x.length
         · rw [if_pos hlt]
           refine Ct_intro Tryz.func32 rfl rfl rfl rfl rfl (fun E hn hb => ?_)
           repeat refine nxw ?_
           refine du3E [73] [(2, 0), (2, 73)] ?_
           repeat (first | refine nx ?_ | refine dcn1 [0] hn hop ?_)
           refine rtU [] (hu := ?_)
           exact ⟨up_e0, .inl rfl, trivial⟩
         · rw [if_neg hlt]
           refine Ct_intro Tryz.func32 rfl rfl rfl rfl rfl (fun E hn hb => ?_)
           repeat refine nxw ?_
           refine du3E [73] [(2, 0), (2, 73)] ?_
           repeat (first | refine nx ?_ | refine dcn1 [0] hn hop ?_)
           exact rt1 []
       · rw [if_neg hf3]
         refine Ct_intro Tryz.func32 rfl rfl rfl rfl rfl (fun E hn hb => ?_)
         repeat refine nxw ?_
         refine du3E [73] [(2, 0), (2, 73)] ?_
         repeat (first | refine nx ?_ | refine dcn1 [0] hn hop ?_)
         refine rtU [] (hu := ?_)
         exact ⟨up_e0, .inl rfl, trivial⟩
     · rw [if_neg hf2]
       refine Ct_intro Tryz.func32 rfl rfl rfl rfl rfl (fun E hn hb => ?_)
       repeat refine nxw ?_
       refine du3E [73] [(2, 0), (2, 73)] ?_
       repeat (first | refine nx ?_ | refine dcn1 [0] hn hop ?_)
       refine rtU [] (hu := ?_)
       exact ⟨up_e0, .inl rfl, trivial⟩
   · rw [if_neg hf1]
     refine Ct_intro Tryz.func32 rfl rfl rfl rfl rfl (fun E hn hb => ?_)
     repeat refine nxw ?_
     refine du3E [73] [(2, 0), (2, 73)] ?_
     repeat (first | refine nx ?_ | refine dcn1 [0] hn hop ?_)
     refine rtU [] (hu := ?_)
     exact ⟨up_e0, .inl rfl, trivial⟩
 · have hoe := hoe he
   rw [if_neg he]
   refine Ct_intro Tryz.func32 rfl rfl rfl rfl rfl (fun E hn hb => ?_)
   repeat refine nxw ?_
   refine du3E [] [(2, 0)] ?_
   repeat (first | refine nx ?_ | refine dcn1 [0] hn hoe ?_)
   refine rtU [] (hu := ?_)
   exact ⟨up_e0, .inl rfl, trivial⟩
theorem keptE_ok (g : FuncId) (l : List Int) (p q : Nat) (x : ExT) (hg : Ct Tryz.prog g [.c (.ptr 1 0)] [curB l p, ptrB] (exE x 0) [curB l q, ptrB] []) :
   Ct Tryz.prog 31 [.c (.ptr 0 0), .c (.fn (.func g) [] [.ptr 1 0])] [curB l p, ptrB] (exE x 0) [curB l q, ptrB] [] := by
 have h1 := at_ok l p
 refine Ct_intro Tryz.func31 rfl rfl rfl rfl rfl (fun E hn hb => ?_)
 repeat refine nx ?_
 exact rt1 []
theorem keptE_err (g : FuncId) (l : List Int) (p q : Nat) (x : ExT) (e : Int) (he : e ≠ 0) (hq : p ≤ q) (hl : q ≤ 1000000) (hg : Ct Tryz.prog g [.c (.ptr 1 0)] [curB l p, ptrB] (exE x e) [curB l q, ptrB] []) :
   Ct Tryz.prog 31 [.c (.ptr 0 0), .c (.fn (.func g) [] [.ptr 1 0])] [curB l p, ptrB] (exE e0 e) [curB l p, ptrB] [] := by
 have h1 := at_ok l p
 have hbk := back_ok l q p hq hl
 refine Ct_intro Tryz.func31 rfl rfl rfl rfl rfl (fun E hn hb => ?_)
 repeat refine nx ?_
 refine rtU [] (hu := ?_)
 exact ⟨up_e0, .inl rfl, trivial⟩
theorem readone_ok (l : List Int) (p : Nat) (hp : p ≤ l.length) (hl : l.length ≤ 1000000) (hw : WfB l) : Ct Tryz.prog 8 [.c (.ptr 0 0)] [curB l p] (exE (exR1 l p).1 (exR1 l p).2.2) [curB l (exR1 l p).2.1] [] := by
 have h := rawX_ok l p hp hl hw
 have hle := rawX_le l p hp
 have hk : Ct Tryz.prog 31 [.c (.ptr 0 0), .c (.fn (.func 32) [] [.ptr 1 0])] [curB l p, ptrB] (exE (exR1 l p).1 (exR1 l p).2.2) [curB l (exR1 l p).2.1, ptrB] [] := by
   unfold exR1
   by_cases he : (rawX l p).2.2 = 0
   · rw [keepP_ok _ _ _ he]
     rw [he] at h ⊢
     exact keptE_ok 32 l p _ _ h
   · rw [keepP_err _ _ _ he]
     exact keptE_err 32 l p _ _ _ he hle.1 (by omega) h
 refine Ct_intro Tryz.func8 rfl rfl rfl rfl rfl (fun E hn hb => ?_)
 repeat refine nx ?_
 refine s_call [0, 65] hk rfl rfl (by rw [hn]; rfl) rfl rfl (by trivial) ⟨rfl, ⟨rfl, rfl⟩, (by simp [ordL]), rfl⟩ ?_
 repeat refine nx ?_
 exact rt1 []

def xA : List Int := [48, 10, 6, 3, 85, 29, 20, 4, 3, 2, 1, 5]
def xB : List Int := [48, 13, 6, 3, 85, 29, 20, 1, 1, 0, 4, 3, 2, 1, 5]
def tA : List Int := [51, 48, 48, 97, 48, 54, 48, 51, 53, 53, 49, 100, 49, 52, 48, 52, 48, 51, 48, 50, 48, 49, 48, 53]
def tB : List Int := [51, 48, 48, 100, 48, 54, 48, 51, 53, 53, 49, 100, 49, 52, 48, 49, 48, 49, 48, 48, 48, 52, 48, 51, 48, 50, 48, 49, 48, 53]
theorem tA_s : strOfNums tA = ByteArray.mk #[51, 48, 48, 97, 48, 54, 48, 51, 53, 53, 49, 100, 49, 52, 48, 52, 48, 51, 48, 50, 48, 49, 48, 53] := by decide +kernel
theorem tB_s : strOfNums tB = ByteArray.mk #[51, 48, 48, 100, 48, 54, 48, 51, 53, 53, 49, 100, 49, 52, 48, 49, 48, 49, 48, 48, 48, 52, 48, 51, 48, 50, 48, 49, 48, 53] := by decide +kernel
theorem tA_u : unhL tA 12 = xA := by decide +kernel
theorem tB_u : unhL tB 15 = xB := by decide +kernel
theorem tA_x : ∀ i, i < tA.length → hexV (tA.getD i 0) ≤ 15 ∧ 0 ≤ hexV (tA.getD i 0) := by decide +kernel
theorem tB_x : ∀ i, i < tB.length → hexV (tB.getD i 0) ≤ 15 ∧ 0 ≤ hexV (tB.getD i 0) := by decide +kernel
theorem xA_r : exR1 xA 0 = (([2, 5, 29, 20], false, [2, 1, 5]), 12, 0) := by decide +kernel
theorem xB_r : exR1 xB 0 = (e0, 0, 6) := by decide +kernel
theorem wf17 {l : List Int} (h : (l.all fun x => decide (0 ≤ x) && decide (x < 256)) = true) : WfB l := fun x hx => by
 have := List.all_eq_true.1 h x hx
 simpa using this
theorem hx_v : strOfNums (hexL [2, 1, 5]) = ByteArray.mk #[48, 50, 48, 49, 48, 53] := by decide +kernel
set_option maxHeartbeats 8000000 in
theorem known17_ok : Ct Tryz.prog 12 [] [] (lv (.bool true)) [] [] := by
 have hu1 := unhex_ok tA 12 (by decide) (by decide) (wf17 (by decide +kernel)) tA_x
 rw [tA_s, tA_u] at hu1
 have hu2 := unhex_ok tB 15 (by decide) (by decide) (wf17 (by decide +kernel)) tB_x
 rw [tB_s, tB_u] at hu2
 have hc1 := curnew_ok xA (by decide)
 have hc2 := curnew_ok xB (by decide)
 have hr1 := readone_ok xA 0 (Nat.zero_le _) (by decide) (wf17 (by decide +kernel))
 rw [xA_r] at hr1
 have hr2 := readone_ok xB 0 (Nat.zero_le _) (by decide) (wf17 (by decide +kernel))
 rw [xB_r] at hr2
 have hf := find_ok [([2, 5, 29, 20], false, [2, 1, 5])] [2, 5, 29, 20] (by decide) (fun e he => by rw [List.mem_singleton.1 he]; exact ⟨by decide, by decide⟩) (by decide) 0 (by decide) (by decide)
 have hx := hex_ok [2, 1, 5] (by decide) (wf17 (by decide +kernel))
 rw [hx_v] at hx
 dsimp only at hr1 hr2 hf
 refine Ct_intro Tryz.func12 rfl rfl rfl rfl rfl (fun E hn hb => ?_)
 repeat refine nx ?_
 refine s_call [85] hr1 rfl rfl (by rw [hn]; rfl) rfl rfl (by trivial) ⟨rfl, rfl, (by simp [ordL]), rfl⟩ ?_
 repeat refine nx ?_
 refine rt2 [] (congrArg (fun x => lv (.bool x)) ?_) trivial; (simp [eqCs, Cell.kill, Cell.kill1])

def InM (l : List ExT) : Prop := ∀ e ∈ l, (e.1.length ≤ 9223372036854775807 ∧ ∀ n ∈ e.1, (Go.Lit.int .i64 n).wf = true) ∧ True ∧ (e.2.2.length ≤ 9223372036854775807 ∧ WfB e.2.2)
theorem fewE_ok (l : List ExT) (h : InM l) : (fewE l).length ≤ 70 ∧ (∀ e ∈ fewE l, okE e) ∧ (∀ e ∈ fewE l, e.1.length ≤ 40 ∧ e.2.2.length ≤ 200 ∧ WfB e.2.2) := by
 unfold fewE
 have key : ∀ e ∈ (l.take 70).map cutE, e.1.length ≤ 40 ∧ e.2.2.length ≤ 200 ∧ WfB e.2.2 := fun e he => by
   obtain ⟨x, hx, rfl⟩ := List.mem_map.1 he
   have hw := (h x (List.mem_of_mem_take hx)).2.2.2
   unfold cutE
   exact ⟨by simp; omega, by simp; omega, fun y hy => hw y (List.mem_of_mem_take hy)⟩
 exact ⟨by simp; omega, fun e he => ⟨by have := (key e he).1; omega, by have := (key e he).2.1; omega⟩, key⟩

def conP (o : List Int) : List Int × Int := if rightO o then (arcsL (numsL o), 0) else ([], 1)
def whoP (o : List Int) : List Int × Int := if rightO o then (wrapL (ofT 6) (arcsL (numsL o)), 0) else ([], 1)
theorem conO_len {o : List Int} (hr : rightO o = true) : (arcsL (numsL o)).length ≤ 186 := by
 obtain ⟨a, b, t, rfl, _, _, _, _, ht, _⟩ := right_nums hr
 have := arcsL_len (numsL (a :: b :: t))
 simp [numsL] at *
 omega
theorem conP_ok (o : List Int) (hl : o.length ≤ 1000000) : Ct Tryz.prog 96 [I64 o] [] (.tup [B8 (conP o).1, lv (.int .i64 (conP o).2)]) [] [] := by
 have h := contO_ok o hl
 unfold contO at h
 unfold conP
 split at h
 · rename_i hr; rw [if_pos hr]; exact h
 · rename_i hr; rw [if_neg hr]; exact h
theorem owrite_ok (o : List Int) (hl : o.length ≤ 1000000) : Ct Tryz.prog 59 [I64 o] [] (.tup [B8 (whoP o).1, lv (.int .i64 (whoP o).2)]) [] [] := by
 have hc := conP_ok o hl
 by_cases hr : rightO o = true
 · have e1 : conP o = (arcsL (numsL o), 0) := if_pos hr
   have e2 : whoP o = (wrapL (ofT 6) (arcsL (numsL o)), 0) := if_pos hr
   have hlen := conO_len hr
   rw [e1] at hc
   rw [e2]
   generalize arcsL (numsL o) = X at *
   have hwr := wrap_ok (ofT 6) [X] (by decide) (by simp) (by simp; omega)
   rw [show [X].flatten = X by simp] at hwr
   have hof := headof_ok 6
   generalize ofT 6 = t at *
   generalize wrapL t X = Y at *
   refine Ct_intro Tryz.func59 rfl rfl rfl rfl rfl (fun E hn hb => ?_)
   repeat (refine nst ?_)
   refine s_call0 (hc) rfl rfl rfl (by rw [hn]; rfl) rfl rfl (by exact vcs) rfl rfl rfl ?_
   repeat (refine nst ?_)
   refine W_cond rfl (by simp) (fun h1 => ?_) (fun h1 => ?_)
   · simp at h1
   repeat (refine nst ?_)
   refine s_call0 (hof) rfl rfl rfl (by rw [hn]; rfl) rfl rfl (by exact vcs) rfl rfl rfl ?_
   repeat (refine nst ?_)
   refine WL_q (opq_of (opy_lit (d := (.recs 1 [[.ints .u8 X]])) rfl (elt_mk Tryz.underlying146 rfl rfl) zok22 rfl (by exact vcs) rfl ⟨by decide, by decide, rfl, rfl⟩) rfl) (by rw [hn]; rfl) ?_
   refine s_call0 (hwr) rfl rfl rfl (by rw [hn]; rfl) rfl rfl (by exact vcs) rfl rfl rfl ?_
   repeat (refine nst ?_)
   exact rt1 []
 · have e1 : conP o = ([], 1) := if_neg hr
   have e2 : whoP o = ([], 1) := if_neg hr
   rw [e1] at hc
   rw [e2]
   refine Ct_intro Tryz.func59 rfl rfl rfl rfl rfl (fun E hn hb => ?_)
   repeat (refine nst ?_)
   refine s_call0 (hc) rfl rfl rfl (by rw [hn]; rfl) rfl rfl (by exact vcs) rfl rfl rfl ?_
   repeat (refine nst ?_)
   refine W_cond rfl (by simp) (fun h1 => ?_) (fun h1 => ?_)
   · repeat (refine nst ?_)
     refine N_retU [] rfl (by simp) (r' := .tup [B8 [], lv (.int .i64 1)]) ⟨.inr ⟨rfl, .inl ⟨_, rfl⟩⟩, .inl rfl, trivial⟩ ⟨rfl, trivial, trivial, rfl⟩ hb rfl trivial
   · simp at h1

def decT (n : Nat) : List Int := if n = 0 then [48] else (decL n).reverse
def refS (x : Int) : ByteArray := strOfNums (decT (x.toNat % 2147483648))
theorem decL_wf (n : Nat) : WfB (decL n) := by
 intro x hx
 have h := List.all_eq_true.1 (decL_isDig n n (Nat.le_refl _)) x hx
 simp [isDig] at h
 omega
theorem decT_wf (n : Nat) : WfB (decT n) := by
 unfold decT
 split
 · intro x hx; simp at hx; omega
 · intro x hx; exact decL_wf n x (List.mem_reverse.1 hx)
theorem decT_len {n : Nat} (h : n < 2147483648) : (decT n).length ≤ 10 := by
 unfold decT
 split
 · simp
 · rw [List.length_reverse]
   exact decL_len 10 n (by omega)
theorem decT_pos (n : Nat) : 0 < (decT n).length := by
 unfold decT
 split
 · simp
 · rename_i h
   rw [List.length_reverse, decL_pos h]
   simp
theorem refS_size (x : Int) : (refS x).size ≤ 20 := by
 rw [refS, size_str]
 have := decT_len (n := x.toNat % 2147483648) (by omega)
 omega
theorem refS_pos (x : Int) : 0 < (refS x).size := by
 rw [refS, size_str]
 exact decT_pos _
theorem refS_eq {x : Int} (h : 0 ≤ x ∧ x ≤ 2147483647) : refS x = strOfNums (decT x.toNat) := by
 have e : x.toNat % 2147483648 = x.toNat := by omega
 rw [refS, e]
theorem decDig : ∀ k u : Nat, u ≤ k → Lib.decDigits u = (decT u).map fun x => UInt8.ofNat x.toNat
 | 0, u, h => by
   have : u = 0 := by omega
   subst this
   rw [Lib.decDigits, dif_pos (by omega)]
   rfl
 | k + 1, u, h => by
   by_cases h1 : u < 10
   · rw [Lib.decDigits, dif_pos h1]
     unfold decT
     split
     · rename_i h2; subst h2; rfl
     · rename_i h2
       have h3 : u / 10 = 0 := by omega
       have h4 : u % 10 = u := by omega
       rw [decL_pos h2, h3, h4, decL_zero]
       show [UInt8.ofNat (48 + u)] = [UInt8.ofNat (48 + (u : Int)).toNat]
       rw [show (48 + (u : Int)).toNat = 48 + u by omega]
   · rw [Lib.decDigits, dif_neg h1, decDig k (u / 10) (by omega)]
     have h2 : u ≠ 0 := by omega
     have h3 : u / 10 ≠ 0 := by omega
     rw [decT, decT, if_neg h2, if_neg h3, decL_pos h2, List.reverse_cons, List.map_append]
     refine congrArg (_ ++ ·) ?_
     show [UInt8.ofNat (48 + u % 10)] = [UInt8.ofNat (48 + ((u % 10 : Nat) : Int)).toNat]
     rw [show (48 + ((u % 10 : Nat) : Int)).toNat = 48 + u % 10 by omega]
theorem itoa_ref {x : Int} (h : 0 ≤ x ∧ x ≤ 2147483647) : (⟨(Lib.itoa x).toArray⟩ : ByteArray) = refS x := by
 rw [refS_eq h, Lib.itoa, if_neg (by omega), decDig _ _ (Nat.le_refl _)]
 rfl
theorem strL_ref {x : Int} (h : 0 ≤ x ∧ x ≤ 2147483647) : strL (refS x) = decT x.toNat := by
 rw [refS_eq h]
 exact bs_str (decT_wf _)
theorem right_in {o : List Int} (hr : rightO o = true) : ∀ x ∈ o, 0 ≤ x ∧ x ≤ 2147483647 := by
 match o, hr with
 | a :: b :: t, hr =>
   rw [rightO_cons] at hr
   split at hr
   · cases hr
   · split at hr
     · cases hr
     · rename_i h
       simp only [Bool.not_eq_true', Bool.not_eq_false, Bool.not_eq_true] at h
       intro x hx
       have := List.all_eq_true.1 (by simpa using h) x hx
       simp [inR] at this
       omega

def splitP : List Int → List (List Int)
 | [] => [[]]
 | x :: l => if x = 46 then [] :: splitP l else match splitP l with | [] => [[x]] | p :: ps => (x :: p) :: ps
def numT (p : List Int) : Option Nat :=
 if p.length = 0 ∨ 10 < p.length ∨ (p.getD 0 0 = 48 ∧ 1 < p.length) then none else if p.all isDig = true then some (decV p) else none
theorem numT_dec {n : Nat} (h : n < 2147483648) : numT (decT n) = some n := by
 have h1 := decT_len h
 have h2 := decT_pos n
 by_cases h0 : n = 0
 · subst h0; rfl
 · have e : decT n = (decL n).reverse := if_neg h0
   obtain ⟨a, x, ea, hx⟩ := decL_last n n (Nat.le_refl _) h0
   unfold numT
   rw [if_neg]
   · rw [e, if_pos (by rw [List.all_reverse]; exact decL_isDig n n (Nat.le_refl _)), decV_decL n n (Nat.le_refl _)]
   · rintro (h3 | h3 | ⟨h3, _⟩)
     · omega
     · omega
     · rw [e, ea] at h3
       simp at h3
       omega
def numsT : List (List Int) → Option (List Int)
 | [] => some []
 | p :: ps => match numT p with | none => none | some n => (match numsT ps with | none => none | some ns => some ((n : Int) :: ns))
def joinP : List (List Int) → List Int
 | [] => []
 | [p] => p
 | p :: q :: ps => p ++ 46 :: joinP (q :: ps)
theorem joinP_cons (p : List Int) {ps : List (List Int)} (h : ps ≠ []) : joinP (p :: ps) = p ++ 46 :: joinP ps := by
 match ps, h with
 | q :: ps, _ => rfl
theorem split_part : ∀ {p : List Int}, (∀ x ∈ p, x ≠ 46) → splitP p = [p]
 | [], _ => rfl
 | x :: p, h => by
   rw [splitP, if_neg (h x (List.mem_cons_self ..)), split_part fun y hy => h y (List.mem_cons_of_mem _ hy)]
theorem split_app : ∀ {p : List Int} (l : List Int), (∀ x ∈ p, x ≠ 46) → splitP (p ++ 46 :: l) = p :: splitP l
 | [], l, _ => by simp [splitP]
 | x :: p, l, h => by
   rw [List.cons_append, splitP, if_neg (h x (List.mem_cons_self ..)), split_app l fun y hy => h y (List.mem_cons_of_mem _ hy)]
theorem split_join : ∀ {ps : List (List Int)}, ps ≠ [] → (∀ p ∈ ps, ∀ x ∈ p, x ≠ 46) → splitP (joinP ps) = ps
 | [p], _, h => split_part (h p (List.mem_cons_self ..))
 | p :: q :: ps, _, h => by
   rw [joinP, split_app _ (h p (List.mem_cons_self ..)), split_join (by simp) fun r hr => h r (List.mem_cons_of_mem _ hr)]
theorem numsT_dec : ∀ {o : List Int}, (∀ x ∈ o, 0 ≤ x ∧ x ≤ 2147483647) → numsT (o.map fun x => decT x.toNat) = some o
 | [], _ => rfl
 | x :: o, h => by
   have hx := h x (List.mem_cons_self ..)
   rw [List.map_cons, numsT, numT_dec (by omega), numsT_dec fun y hy => h y (List.mem_cons_of_mem _ hy)]
   dsimp only
   rw [Int.toNat_of_nonneg hx.1]
theorem decT_no46 (n : Nat) : ∀ x ∈ decT n, x ≠ 46 := by
 intro x hx
 unfold decT at hx
 split at hx
 · simp at hx; omega
 · have := List.all_eq_true.1 (decL_isDig n n (Nat.le_refl _)) x (List.mem_reverse.1 hx)
   simp [isDig] at this
   omega
theorem text_join : ∀ {o : List Int}, (∀ x ∈ o, 0 ≤ x ∧ x ≤ 2147483647) → textO refS o = joinP (o.map fun x => decT x.toNat)
 | [], _ => rfl
 | x :: t, h => by
   rw [textO, List.map_cons, strL_ref (h x (List.mem_cons_self ..))]
   have key : ∀ (t : List Int) (p : List Int), (∀ y ∈ t, 0 ≤ y ∧ y ≤ 2147483647) → p ++ t.flatMap (fun y => 46 :: strL (refS y)) = joinP (p :: t.map fun x => decT x.toNat) := by
     intro t
     induction t with
     | nil => intro p _; simp [joinP]
     | cons y t ih =>
       intro p hy
       rw [List.flatMap_cons, List.map_cons, joinP_cons _ (by simp), ← ih (decT y.toNat) fun z hz => hy z (List.mem_cons_of_mem _ hz), strL_ref (hy y (List.mem_cons_self ..))]
       simp
   exact key t _ fun y hy => h y (List.mem_cons_of_mem _ hy)
def frT (l : List Int) : List Int × Int := match numsT (splitP l) with
 | none => ([], 6)
 | some o => if rightO o = true then (o, 0) else ([], 1)
theorem frT_text {o : List Int} (h : rightO o = true) : frT (textO refS o) = (o, 0) := by
 have hin : ∀ x ∈ o, 0 ≤ x ∧ x ≤ 2147483647 := fun x hx => right_in h x hx
 have hne : o.map (fun x => decT x.toNat) ≠ [] := by
   intro e
   have : o = [] := List.map_eq_nil_iff.1 e
   rw [this] at h
   cases h
 unfold frT
 rw [text_join hin, split_join hne fun p hp x hx => by
   obtain ⟨n, _, rfl⟩ := List.mem_map.1 hp
   exact decT_no46 _ x hx, numsT_dec hin]
 dsimp only
 rw [if_pos h]
theorem text_inj {o q : List Int} (h : rightO o = true) (hq : rightO q = true) (e : textO refS o = textO refS q) : o = q := by
 have h1 := frT_text h
 rw [e, frT_text hq] at h1
 exact (congrArg Prod.fst h1).symm
end Go.Proofs.YtaagjnlkinojcaaGreatDoor

/-
  Clock: contents of times, the program's and the document's; wholes. The conditions: the time is right.
-/
import Derived.Test.YtaagjnlkinojcaaGreatC15
import Derived.Test.YtaagjnlkinojcaaGreatSxX
import Derived.WalkKit
import Derived.ProofKit
import Derived.OpenShut
import Derived.ShutString
import Derived.ChangeOld
import Derived.Below
import Derived.Lib.SmallJoins
import Derived.Test.YtaagjnlkinojcaaGreatC12
import Derived.Test.YtaagjnlkinojcaaGreatC8
import Derived.Test.YtaagjnlkinojcaaGreatSxM
namespace Go.Proofs.YtaagjnlkinojcaaGreat
set_option linter.unusedSimpArgs false
set_option linter.unusedVariables false
open Go.Sx
set_option maxRecDepth 10000
def z6d (n : Int) : List Int := (if 16384 ≤ n then [128 + n / 16384] else []) ++ (if 128 ≤ n then [128 + n / 128 % 128] else []) ++ [n % 128]
theorem zch (n : Nat) (h1 : 31 ≤ n) (h2 : n < 2097152) : z6d (n : Int) = hiL (z0r 128 5 n).reverse := by
 have e : z0r 128 5 n = ((n % 128 : Nat) : Int) :: z0r 128 4 (n / 128) := by rw [z0r, if_neg (by omega)]
 by_cases a : n < 128
 · have e1 : z0r 128 4 (n / 128) = [] := by rw [z0r, if_pos (by omega)]
   rw [e, e1]
   simp only [z6d, hiL]
   rw [if_neg (by omega), if_neg (by omega)]
   simp
 · have e1 : z0r 128 4 (n / 128) = ((n / 128 % 128 : Nat) : Int) :: z0r 128 3 (n / 128 / 128) := by rw [z0r, if_neg (by omega)]
   by_cases b : n < 16384
   · have e2 : z0r 128 3 (n / 128 / 128) = [] := by rw [z0r, if_pos (by omega)]
     rw [e, e1, e2]
     simp only [z6d, hiL]
     rw [if_neg (by omega), if_pos (by omega)]
     simp
     omega
   · have e2 : z0r 128 3 (n / 128 / 128) = ((n / 128 / 128 % 128 : Nat) : Int) :: z0r 128 2 (n / 128 / 128 / 128) := by rw [z0r, if_neg (by omega)]
     have e3 : z0r 128 2 (n / 128 / 128 / 128) = [] := by rw [z0r, if_pos (by omega)]
     rw [e, e1, e2, e3]
     simp only [z6d, hiL]
     rw [if_pos (by omega), if_pos (by omega)]
     simp
     omega
def z2q (n : Int) : List Int :=
 if n < 128 then [n] else if n < 256 then [129, n] else if n < 65536 then [130, n / 256, n % 256] else if n < 16777216 then [131, n / 65536, n / 256 % 256, n % 256]
 else [132, n / 16777216, n / 65536 % 256, n / 256 % 256, n % 256]
theorem z9L (n : Nat) (h : n ≤ 16777216) : z2q (n : Int) = z1P n := by
 unfold z2q z1P
 by_cases a : n < 128
 · rw [if_pos (by omega), if_pos a]
 rw [if_neg (by omega), if_neg a]
 have e : z0r 256 5 n = ((n % 256 : Nat) : Int) :: z0r 256 4 (n / 256) := by rw [z0r, if_neg (by omega)]
 by_cases b : n < 256
 · have e1 : z0r 256 4 (n / 256) = [] := by rw [z0r, if_pos (by omega)]
   rw [e, e1, if_pos (by omega)]
   simp
   omega
 rw [if_neg (by omega)]
 have e1 : z0r 256 4 (n / 256) = ((n / 256 % 256 : Nat) : Int) :: z0r 256 3 (n / 256 / 256) := by rw [z0r, if_neg (by omega)]
 by_cases c : n < 65536
 · have e2 : z0r 256 3 (n / 256 / 256) = [] := by rw [z0r, if_pos (by omega)]
   rw [e, e1, e2, if_pos (by omega)]
   simp
   omega
 rw [if_neg (by omega)]
 have e2 : z0r 256 3 (n / 256 / 256) = ((n / 256 / 256 % 256 : Nat) : Int) :: z0r 256 2 (n / 256 / 256 / 256) := by rw [z0r, if_neg (by omega)]
 by_cases d : n < 16777216
 · have e3 : z0r 256 2 (n / 256 / 256 / 256) = [] := by rw [z0r, if_pos (by omega)]
   rw [e, e1, e2, e3, if_pos (by omega)]
   simp
   omega
 rw [if_neg (by omega)]
 have hn : n = 16777216 := by omega
 subst hn
 decide
set_option maxHeartbeats 4000000 in
theorem zb9 (t : z0m) (h : z1b t = true) : Ct Tryz.prog 105 [z2A t] [] (.c (.own 0 1 0 (tgL t).length)) [] [.row (.ints .u8 (tgL t))] := by
 have h2 : 0 ≤ t.2.1 ∧ t.2.1 < 2097152 := by simp [z1b] at h; omega
 have h4 : 0 ≤ t.1 ∧ t.1 ≤ 3 := by simp [z1b] at h; omega
 have hfm := z6C h
 have hfi : 0 ≤ z19 t ∧ z19 t ≤ 224 := by
   simp only [List.mem_cons, List.not_mem_nil, or_false] at hfm
   omega
 have hT : tgL t = if t.2.1 < 31 then [z19 t + t.2.1] else (z19 t + 31) :: hiL (z0r 128 5 t.2.1.toNat).reverse := rfl
 have hF : z19 t = 64 * t.1 + cond t.2.2 32 0 := rfl
 generalize tgL t = T at *
 generalize z19 t = c at *
 refine z00 Tryz.func105 rfl rfl rfl rfl rfl (fun E hn hb => ?_)
 repeat (refine nst ?_)
 refine z16 rfl rfl rfl (by rw [hn]; rfl) rfl (by exact vcs) rfl rfl ?_
 repeat (refine nst ?_)
 refine zb4 (St.of [(1, .c (.ptr 65 0)), (3, lv (.int .i64 c))] [(65, z3b t)]) ?_ ?_
 · refine z05 rfl (by simp) (fun h1 => ?_) (fun h1 => ?_)
   · have h1' : t.2.2 = true := h1
     rw [h1'] at hF
     rw [hF]
     repeat (refine nst ?_)
     (refine z5L ?_; refine St.le_of ⟨?_, ?_⟩ <;> (repeat' (first | exact trivial | exact rfl | refine ⟨?_, ?_⟩)) <;> first | exact rfl | (simp; done) | skip)
   · have h1' : t.2.2 = false := h1
     rw [h1'] at hF
     have e' : c = 64 * t.1 := by rw [hF]; exact Int.add_zero _
     rw [e']
     repeat (refine nst ?_)
     (refine z5L ?_; refine St.le_of ⟨?_, ?_⟩ <;> (repeat' (first | exact trivial | exact rfl | refine ⟨?_, ?_⟩)) <;> first | exact rfl | (simp; done) | skip)
 repeat (refine nst ?_)
 refine z05 rfl (by simp) (fun h3 => ?_) (fun h3 => ?_)
 · have h3' : t.2.1 < 31 := by simpa using h3
   rw [if_pos h3'] at hT
   subst hT
   repeat (refine nst ?_)
   refine z1v rfl rfl rfl (by rw [hn]; rfl) (z0k Tryz.underlying28 rfl rfl) (z2C) (by exact vcs) ⟨by decide, rfl⟩ ?_
   repeat (refine nst ?_)
   exact rt1 [84]
 have h3' : ¬ t.2.1 < 31 := by simpa using h3
 rw [if_neg h3'] at hT
 rw [← zch t.2.1.toNat (by omega) (by omega), show ((t.2.1.toNat : Nat) : Int) = t.2.1 by omega] at hT
 unfold z6d at hT
 clear h3
 repeat (refine nst ?_)
 refine z1v rfl rfl rfl (by rw [hn]; rfl) (z0k Tryz.underlying28 rfl rfl) (z2C) (by exact vcs) ⟨by decide, rfl⟩ ?_
 repeat (refine nst ?_)
 refine zb4 (St.of [(1, .c (.ptr 65 0)), (3, lv (.int .i64 c)), (4, .c (.own 88 1 0 ([c + 31] ++ (if 16384 ≤ t.2.1 then [128 + t.2.1 / 16384] else [])).length))] [(65, z3b t), (88, .row (.ints .u8 ([c + 31] ++ (if 16384 ≤ t.2.1 then [128 + t.2.1 / 16384] else []))))]) ?_ ?_
 · refine z05 rfl (by simp) (fun h5 => ?_) (fun h5 => ?_)
   · have h5' : 16384 ≤ t.2.1 := by simpa using h5
     rw [if_pos h5']
     repeat (refine nst ?_)
     refine z1v rfl rfl rfl (by rw [hn]; rfl) (z0k Tryz.underlying28 rfl rfl) (z2C) (by exact vcs) ⟨by decide, rfl⟩ ?_
     repeat (refine nst ?_)
     refine z2e rfl rfl rfl rfl rfl rfl (by rw [hn]; rfl) (z0k Tryz.underlying28 rfl rfl) rfl rfl rfl rfl (by exact vcs) (by first | rfl | (simp; done) | (simp; omega)) ⟨by first | (simp; done) | (simp; omega) | (simp at *; omega), by decide⟩ ?_
     repeat (refine nst ?_)
     (refine z5L ?_; refine St.le_of ⟨?_, ?_⟩ <;> (repeat' (first | exact trivial | exact rfl | refine ⟨?_, ?_⟩)) <;> first | exact rfl | (simp; done) | skip)
   · have h5' : ¬ 16384 ≤ t.2.1 := by simpa using h5
     rw [if_neg h5']
     repeat (refine nst ?_)
     (refine z5L ?_; refine St.le_of ⟨?_, ?_⟩ <;> (repeat' (first | exact trivial | exact rfl | refine ⟨?_, ?_⟩)) <;> first | exact rfl | (simp; done) | skip)
 generalize hA : (if 16384 ≤ t.2.1 then [128 + t.2.1 / 16384] else []) = A at *
 have hAl : A.length ≤ 1 := by rw [← hA]; split <;> simp
 generalize hX : [c + 31] ++ A = X at *
 have hXl : X.length ≤ 2 := by rw [← hX]; simp; omega
 repeat (refine nst ?_)
 refine zb4 (St.of [(1, .c (.ptr 65 0)), (4, .c (.own 88 1 0 (X ++ (if 128 ≤ t.2.1 then [128 + t.2.1 / 128 % 128] else [])).length))] [(65, z3b t), (88, .row (.ints .u8 (X ++ (if 128 ≤ t.2.1 then [128 + t.2.1 / 128 % 128] else []))))]) ?_ ?_
 · refine z05 rfl (by simp) (fun h5 => ?_) (fun h5 => ?_)
   · have h5' : 128 ≤ t.2.1 := by simpa using h5
     rw [if_pos h5']
     repeat (refine nst ?_)
     refine z1v rfl rfl rfl (by rw [hn]; rfl) (z0k Tryz.underlying28 rfl rfl) (z2C) (by exact vcs) ⟨by decide, rfl⟩ ?_
     repeat (refine nst ?_)
     refine z2e rfl rfl rfl rfl rfl rfl (by rw [hn]; rfl) (z0k Tryz.underlying28 rfl rfl) rfl rfl rfl rfl (by exact vcs) (by first | rfl | (simp; done) | (simp; omega)) ⟨by first | (simp; done) | (simp; omega) | (simp at *; omega), by decide⟩ ?_
     repeat (refine nst ?_)
     (refine z5L ?_; refine St.le_of ⟨?_, ?_⟩ <;> (repeat' (first | exact trivial | exact rfl | refine ⟨?_, ?_⟩)) <;> first | exact rfl | (simp; done) | skip)
   · have h5' : ¬ 128 ≤ t.2.1 := by simpa using h5
     rw [if_neg h5', List.append_nil]
     repeat (refine nst ?_)
     (refine z5L ?_; refine St.le_of ⟨?_, ?_⟩ <;> (repeat' (first | exact trivial | exact rfl | refine ⟨?_, ?_⟩)) <;> first | exact rfl | (simp; done) | skip)
 generalize hB : (if 128 ≤ t.2.1 then [128 + t.2.1 / 128 % 128] else []) = B at *
 have hBl : B.length ≤ 1 := by rw [← hB]; split <;> simp
 have hT2 : T = X ++ B ++ [t.2.1 % 128] := by rw [hT, ← hX]; simp
 have hYl : (X ++ B).length ≤ 3 := by simp; omega
 generalize X ++ B = Y at *
 subst hT2
 repeat (refine nst ?_)
 refine z1v rfl rfl rfl (by rw [hn]; rfl) (z0k Tryz.underlying28 rfl rfl) (z2C) (by exact vcs) ⟨by decide, rfl⟩ ?_
 repeat (refine nst ?_)
 refine z2e rfl rfl rfl rfl rfl rfl (by rw [hn]; rfl) (z0k Tryz.underlying28 rfl rfl) rfl rfl rfl rfl (by exact vcs) (by first | rfl | (simp; done) | (simp; omega)) ⟨by first | (simp; done) | (simp; omega) | (simp at *; omega), by decide⟩ ?_
 repeat (refine nst ?_)
 exact rt1 [88]
set_option maxRecDepth 100000 in
theorem zds (n : Int) (h0 : 0 ≤ n) (h : n ≤ 16777216) : Ct Tryz.prog 106 [lv (.int .i64 n)] [] (B8 (z2q n)) [] [] := by
 refine Ct.freeze (res := .c (.own 0 1 0 (z2q n).length)) (d := .ints .u8 (z2q n)) ?_ ⟨rfl, rfl, rfl, by simp, by rw [List.drop_zero, List.take_length]⟩ rfl
 generalize hT : z2q n = T at *
 unfold z2q at hT
 refine z00 Tryz.func106 rfl rfl rfl rfl rfl (fun E hn hb => ?_)
 repeat (refine nst ?_)
 refine z05 rfl (by simp) (fun h1 => ?_) (fun h1 => ?_)
 · have h1' : n < 128 := by simpa using h1
   rw [if_pos h1'] at hT
   subst hT
   repeat (refine nst ?_)
   refine z1v rfl rfl rfl (by rw [hn]; rfl) (z0k Tryz.underlying28 rfl rfl) (z2C) (by exact vcs) ⟨by decide, rfl⟩ ?_
   repeat (refine nst ?_)
   exact rt1 [71]
 have h1' : ¬ n < 128 := by simpa using h1
 rw [if_neg h1'] at hT
 repeat (refine nst ?_)
 refine z05 rfl (by simp) (fun h2 => ?_) (fun h2 => ?_)
 · have h2' : n < 256 := by simpa using h2
   rw [if_pos h2'] at hT
   subst hT
   repeat (refine nst ?_)
   refine z1v rfl rfl rfl (by rw [hn]; rfl) (z0k Tryz.underlying28 rfl rfl) (z2C) (by exact vcs) ⟨by decide, rfl⟩ ?_
   repeat (refine nst ?_)
   exact rt1 [76]
 have h2' : ¬ n < 256 := by simpa using h2
 rw [if_neg h2'] at hT
 repeat (refine nst ?_)
 refine z05 rfl (by simp) (fun h3 => ?_) (fun h3 => ?_)
 · have h3' : n < 65536 := by simpa using h3
   rw [if_pos h3'] at hT
   subst hT
   repeat (refine nst ?_)
   refine z1v rfl rfl rfl (by rw [hn]; rfl) (z0k Tryz.underlying28 rfl rfl) (z2C) (by exact vcs) ⟨by decide, rfl⟩ ?_
   repeat (refine nst ?_)
   exact rt1 [85]
 have h3' : ¬ n < 65536 := by simpa using h3
 rw [if_neg h3'] at hT
 repeat (refine nst ?_)
 refine z05 rfl (by simp) (fun h4 => ?_) (fun h4 => ?_)
 · have h4' : n < 16777216 := by simpa using h4
   rw [if_pos h4'] at hT
   subst hT
   repeat (refine nst ?_)
   refine z1v rfl rfl rfl (by rw [hn]; rfl) (z0k Tryz.underlying28 rfl rfl) (z2C) (by exact vcs) ⟨by decide, rfl⟩ ?_
   repeat (refine nst ?_)
   exact rt1 [98]
 have h4' : ¬ n < 16777216 := by simpa using h4
 rw [if_neg h4'] at hT
 subst hT
 repeat (refine nst ?_)
 refine z1v rfl rfl rfl (by rw [hn]; rfl) (z0k Tryz.underlying28 rfl rfl) (z2C) (by exact vcs) ⟨by decide, rfl⟩ ?_
 repeat (refine nst ?_)
 exact rt1 [113]
theorem zdt (n : Nat) (h : n ≤ 16777216) : Ct Tryz.prog 106 [lv (.int .i64 (n : Int))] [] (B8 (z1P n)) [] [] := by
 rw [← z9L n h]
 exact zds (n : Int) (by omega) (by omega)
theorem z7H (t : z0m) (b : List Int) (h : z1b t = true) (hl : b.length ≤ 1000000) : Ct Tryz.prog 47 [z2A t, B8 b] [] (.c (.own 0 1 0 (z0q t b).length)) [] [.row (.ints .u8 (z0q t b))] := by
 have htb := zb9 t h
 have hlb := zdt b.length (by omega)
 have hW : z0q t b = tgL t ++ z1P b.length ++ b := rfl
 have hT5 : (tgL t).length ≤ 10 := by
   have := z1Z 128 5 t.2.1.toNat
   unfold tgL
   split
   · simp
   · simp [z7c]; omega
 have hL5 : (z1P b.length).length ≤ 10 := by
   generalize b.length = n
   have := z1Z 256 5 n
   unfold z1P
   split
   · simp
   · simp; omega
 generalize z0q t b = R at *
 generalize z1P b.length = D at *
 generalize tgL t = T at *
 subst hW
 refine z00 Tryz.func47 rfl rfl rfl rfl rfl (fun E hn hb => ?_)
 repeat (refine nst ?_)
 refine z16 rfl rfl rfl (by rw [hn]; rfl) rfl (by exact vcs) rfl rfl ?_
 repeat (refine nst ?_)
 refine z0n [] htb rfl rfl (by rw [hn]; rfl) rfl rfl (by trivial) ⟨rfl, trivial, trivial, rfl⟩ ?_
 repeat (refine nst ?_)
 refine z18 (hlb) rfl rfl rfl (by rw [hn]; rfl) rfl rfl (by exact vcs) rfl rfl rfl ?_
 repeat (refine nst ?_)
 refine z2e rfl rfl rfl rfl rfl rfl (by rw [hn]; rfl) (z0k Tryz.underlying28 rfl rfl) rfl rfl rfl rfl (by exact vcs) (by first | rfl | (simp; done) | (simp; omega)) ⟨by first | (simp; done) | (simp; omega) | (simp at *; omega), by decide⟩ ?_
 repeat (refine nst ?_)
 refine z2e rfl rfl rfl rfl rfl rfl (by rw [hn]; rfl) (z0k Tryz.underlying28 rfl rfl) rfl rfl rfl rfl (by exact vcs) (by first | rfl | (simp; done) | (simp; omega)) ⟨by first | (simp; done) | (simp; omega) | (simp at *; omega), by decide⟩ ?_
 repeat (refine nst ?_)
 exact rt1 [71]
end Go.Proofs.YtaagjnlkinojcaaGreat

namespace Go.Sx
open Go
open Go.ChangeShapes Go.WideShapes Go.ChangeAt Go.RowKit Go.Joins Go.Deep
set_option linter.unusedVariables false
abbrev Was (w : World) : Nat → Prop := fun b => b < w.heap.size
theorem zhy {w : World} {a : Addr} {v : Value} (h : w.cell? a = some v) : a.block < w.heap.size ∧ a.spot = none := by
 unfold World.cell? at h
 split at h
 · rename_i c e m hb
   refine ⟨(Array.getElem?_eq_some_iff.1 hb).1, ?_⟩
   split at h
   · cases h
   · rename_i hs; simpa using hs
 · cases h
section
variable {H : Type} {enc : TypeId × Value → H} {P : Program} {w : World} {base : Nat} {spare : Nat → Bool} {held : Bool} {fuel : Nat}
theorem zg3 {t e : TypeId} {k : IntKind} {v : Value} {x : DataW H × List MemPlace} (ht : P.underlying t = some (.slice e)) (he : P.underlying e = some (.int k)) (hc : P.cellsOf e = 1)
   (h : DataW.trod enc P w base spare held fuel t [v] = some x) : ∃ l : List Int, l.length ≤ 9223372036854775807 ∧ (∀ n ∈ l, (Lit.int k n).wf = true) ∧ LfR (Was w) w (.ints k l) v := by
 rcases open_ints ht he hc h with ⟨hcs, _⟩ | ⟨a, len, cap, zs, hcs, _, hl, hm, hz, _, hcell, hw⟩
 · simp at hcs
   subst hcs
   refine ⟨[], Nat.zero_le _, ?_, LfR.ints _ _ _ _ _ rfl (Nat.le_refl _) (Nat.zero_le _) (fun h => absurd rfl h)⟩
   intro n hn
   cases hn
 · simp at hcs
   subst hcs
   have hlz : len ≤ zs.length := by rw [hz]; split <;> omega
   have hlt : (zs.take len).length = len := by simp; omega
   have hm' : cap ≤ 9223372036854775807 := hm
   refine ⟨zs.take len, by omega, fun n hn => hw n (List.mem_of_mem_take hn), LfR.ints _ _ _ _ _ hlt.symm hl hm fun hne => ?_⟩
   have h0 : 0 < len := by
     rcases Nat.eq_zero_or_pos len with h | h
     · subst h; simp at hne
     · exact h
   have hb := zhy (hcell 0 (by omega))
   obtain ⟨b, o, sp⟩ := a
   simp only [Addr.add, if_true] at hb
   obtain ⟨hb1, hsp⟩ := hb
   subst hsp
   have hadd : ∀ i, (⟨b, o, none⟩ : Addr).add i = ⟨b, o + i, none⟩ := by
     intro i
     unfold Addr.add
     split
     · rename_i h; subst h; rfl
     · rfl
   refine ⟨b, o, rfl, hb1, fun i x hx => ?_⟩
   obtain ⟨hi, hxe⟩ := List.getElem?_eq_some_iff.1 hx
   rw [hlt] at hi
   have := hcell i (by omega)
   rw [hadd] at this
   rw [this]
   rw [List.getElem_take] at hxe
   rw [← hxe]
   simp [show i < zs.length by omega]
theorem znV {n : Int} (h : (Lit.int .u8 n).wf = true) : 0 ≤ n ∧ n < 256 := by
 simp only [Lit.wf, Bool.and_eq_true, decide_eq_true_eq] at h
 have h1 : IntKind.u8.min = 0 := by decide
 have h2 : IntKind.u8.max = 255 := by decide
 omega
theorem open_bytes {t e : TypeId} {v : Value} {d : DataW H} {p : List MemPlace} (ht : P.underlying t = some (.slice e)) (he : P.underlying e = some (.int .u8)) (hc : P.cellsOf e = 1) {r : Reach} {b0 : Nat} (hv : Value.okWide P w r b0 t v)
   (h : DataW.Trod enc P w base spare held t v d p) : ∃ l : List Int, l.length ≤ 9223372036854775807 ∧ (∀ n ∈ l, 0 ≤ n ∧ n < 256) ∧ ∀ β, AvR β (Was w) w (.c (.lf (.ints .u8 l))) v := by
 obtain ⟨a, n, c, rfl⟩ := okWide_slice ht hv
 obtain ⟨fuel, h⟩ := h
 simp only [Value.cells] at h
 obtain ⟨l, h1, h2, h3⟩ := zg3 ht he hc h
 exact ⟨l, h1, fun n hn => znV (h2 n hn), fun β => .c (.lf h3)⟩
theorem Ct.calls {f : FuncId} {args : List Av} (h : Ct P f args [] (.c (.lf (.v (.bool true)))) [] []) (w : World) (vs : List Value) (hl : vs.length = args.length) (ha : ∀ (i : Nat) (x : Av) (v : Value), args[i]? = some x → vs[i]? = some v → AvR (fun _ => none) (Was w) w x v) (hgd : GdK w (fun _ => False) := by exact fun p hp => nomatch hp) :
   Calls P f vs.toArray w fun e w' => e = .returned (.bool true) ∧ Below w.heap.size w w' := by
 refine (h.2.2 w (fun _ => none) (Was w) vs hl ha (fun i b h => by simp at h) (fun i j g h => absurd h (Nat.not_lt_zero _)) (fun j g h => absurd h (Nat.not_lt_zero _)) (fun _ _ => rfl) (fun b hb => hb) (fun p hp => ⟨by rintro ⟨i, hi, _⟩; exact absurd hi (Nat.not_lt_zero _), (hgd p hp).2⟩)).mono fun e w' hq => ?_
 obtain ⟨v, β', F', rfl, hr, _, _, ho⟩ := hq
 refine ⟨?_, ?_⟩
 · cases hr with | c hr => cases hr with | lf hr => cases hr with | v x h => rfl
 · have hk := ho.keep
   exact ⟨hk.os, hk.tape, hk.output, hk.size, fun k hk' => hk.block k hk' (by rintro ⟨i, hi, _⟩; exact absurd hi (Nat.not_lt_zero _))⟩
end
end Go.Sx

namespace Go.Proofs.YtaagjnlkinojcaaGreat
set_option linter.unusedSimpArgs false
set_option linter.unusedVariables false
open Go.Sx
set_option maxRecDepth 10000
theorem z9j (t : z0m) (bs : List (List Int)) (h : z1b t = true) (hbl : bs.length ≤ 100000) (hl : bs.flatten.length ≤ 1000000) :
   Ct Tryz.prog 158 [z2A t, z4i bs] [] (.tup [B8 (z0q t bs.flatten), lv (.int .i64 0)]) [] [] :=
 (zfl t bs h hbl hl).freeze ⟨⟨rfl, rfl, rfl, by simp, by rw [List.drop_zero, List.take_length]⟩, rfl, trivial⟩ rfl
theorem z8M (t : z0m) (b : List Int) (h : z1b t = true) (hl : b.length ≤ 1000000) : Ct Tryz.prog 47 [z2A t, B8 b] [] (B8 (z0q t b)) [] [] :=
 (z7H t b h hl).freeze ⟨rfl, rfl, rfl, by simp, by rw [List.drop_zero, List.take_length]⟩ rfl
end Go.Proofs.YtaagjnlkinojcaaGreat

namespace Go.Proofs.YtaagjnlkinojcaaGreat
set_option linter.unusedSimpArgs false
set_option linter.unusedVariables false
open Go.Sx
set_option maxRecDepth 10000
abbrev zg4 (x : Int) : Cell := .lf (.v (.int .i64 x))
end Go.Proofs.YtaagjnlkinojcaaGreat

namespace Go.Proofs.YtaagjnlkinojcaaGreat
set_option linter.unusedSimpArgs false
set_option linter.unusedVariables false
open Go.Sx
set_option maxRecDepth 10000
@[simp] theorem ztT (l : List Int) : (strOfNums l).size = l.length := strOfNums_size l
end Go.Proofs.YtaagjnlkinojcaaGreat

namespace Go.Proofs.YtaagjnlkinojcaaGreat
set_option linter.unusedSimpArgs false
set_option linter.unusedVariables false
open Go.Sx
set_option maxRecDepth 10000
def tw2 (n : Int) : List Int := [48 + n / 10 % 10, 48 + n % 10]
@[simp] theorem zub (n : Int) : (tw2 n).length = 2 := rfl
end Go.Proofs.YtaagjnlkinojcaaGreat

/-
  Clock: contents of times, the program's and the document's; wholes. The conditions: the time is right.
-/
import Derived.Test.YtohfhephkjihfaaGreatSxX
import Derived.WalkKit
import Derived.ProofKit
import Derived.OpenShut
import Derived.ShutString
import Derived.ChangeOld
import Derived.Below
import Derived.Lib.SmallJoins
import Derived.Test.YtohfhephkjihfaaGreatC15
import Derived.Test.YtohfhephkjihfaaGreatC12
import Derived.Test.YtohfhephkjihfaaGreatW16
import Derived.Test.YtohfhephkjihfaaGreatSxM
namespace Go.Sx
open Go
open Go.ChangeShapes Go.WideShapes Go.ChangeAt Go.RowKit Go.Joins Go.Deep
set_option linter.unusedVariables false
abbrev Was (w : World) : Nat → Prop := fun b => b < w.heap.size
theorem cell_in {w : World} {a : Addr} {v : Value} (h : w.cell? a = some v) : a.block < w.heap.size ∧ a.spot = none := by
 unfold World.cell? at h
 split at h
 · rename_i c e m hb
   refine ⟨(Array.getElem?_eq_some_iff.1 hb).1, ?_⟩
   split at h
   · cases h
   · rename_i hs; simpa using hs
 · cases h
section
variable {H : Type} {enc : TypeId × Value → H} {P : Program} {w : World} {base : Nat} {spare : Nat → Bool} {held : Bool} {fuel : Nat}
theorem open_row {t e : TypeId} {k : IntKind} {v : Value} {x : DataW H × List MemPlace} (ht : P.underlying t = some (.slice e)) (he : P.underlying e = some (.int k)) (hc : P.cellsOf e = 1)
   (h : DataW.trod enc P w base spare held fuel t [v] = some x) : ∃ l : List Int, l.length ≤ 9223372036854775807 ∧ (∀ n ∈ l, (Lit.int k n).wf = true) ∧ LfR (Was w) w (.ints k l) v := by
 rcases open_ints ht he hc h with ⟨hcs, _⟩ | ⟨a, len, cap, zs, hcs, _, hl, hm, hz, _, hcell, hw⟩
 · simp at hcs
   subst hcs
   refine ⟨[], Nat.zero_le _, ?_, LfR.ints _ _ _ _ _ rfl (Nat.le_refl _) (Nat.zero_le _) (fun h => absurd rfl h)⟩
   intro n hn
   cases hn
 · simp at hcs
   subst hcs
   have hlz : len ≤ zs.length := by rw [hz]; split <;> omega
   have hlt : (zs.take len).length = len := by simp; omega
   have hm' : cap ≤ 9223372036854775807 := hm
   refine ⟨zs.take len, by omega, fun n hn => hw n (List.mem_of_mem_take hn), LfR.ints _ _ _ _ _ hlt.symm hl hm fun hne => ?_⟩
   have h0 : 0 < len := by
     rcases Nat.eq_zero_or_pos len with h | h
     · subst h; simp at hne
     · exact h
   have hb := cell_in (hcell 0 (by omega))
   obtain ⟨b, o, sp⟩ := a
   simp only [Addr.add, if_true] at hb
   obtain ⟨hb1, hsp⟩ := hb
   subst hsp
   have hadd : ∀ i, (⟨b, o, none⟩ : Addr).add i = ⟨b, o + i, none⟩ := by
     intro i
     unfold Addr.add
     split
     · rename_i h; subst h; rfl
     · rfl
   refine ⟨b, o, rfl, hb1, fun i x hx => ?_⟩
   obtain ⟨hi, hxe⟩ := List.getElem?_eq_some_iff.1 hx
   rw [hlt] at hi
   have := hcell i (by omega)
   rw [hadd] at this
   rw [this]
   rw [List.getElem_take] at hxe
   rw [← hxe]
   simp [show i < zs.length by omega]
theorem wf_u8 {n : Int} (h : (Lit.int .u8 n).wf = true) : 0 ≤ n ∧ n < 256 := by
 simp only [Lit.wf, Bool.and_eq_true, decide_eq_true_eq] at h
 have h1 : IntKind.u8.min = 0 := by decide
 have h2 : IntKind.u8.max = 255 := by decide
 omega
theorem Ct.calls {f : FuncId} {args : List Av} (h : Ct P f args [] (.c (.lf (.v (.bool true)))) [] []) (w : World) (vs : List Value) (hl : vs.length = args.length) (ha : ∀ (i : Nat) (x : Av) (v : Value), args[i]? = some x → vs[i]? = some v → AvR (fun _ => none) (Was w) w x v) (hgd : GdK w (fun _ => False) := by exact fun p hp => nomatch hp) :
   Calls P f vs.toArray w fun e w' => e = .returned (.bool true) ∧ Below w.heap.size w w' := by
 refine (h.2.2 w (fun _ => none) (Was w) vs hl ha (fun i b h => by simp at h) (fun i j g h => absurd h (Nat.not_lt_zero _)) (fun j g h => absurd h (Nat.not_lt_zero _)) (fun _ _ => rfl) (fun b hb => hb) (fun p hp => ⟨by rintro ⟨i, hi, _⟩; exact absurd hi (Nat.not_lt_zero _), (hgd p hp).2⟩)).mono fun e w' hq => ?_
 obtain ⟨v, β', F', rfl, hr, _, _, ho⟩ := hq
 refine ⟨?_, ?_⟩
 · cases hr with | c hr => cases hr with | lf hr => cases hr with | v x h => rfl
 · have hk := ho.keep
   exact ⟨hk.os, hk.tape, hk.output, hk.size, fun k hk' => hk.block k hk' (by rintro ⟨i, hi, _⟩; exact absurd hi (Nat.not_lt_zero _))⟩
end
end Go.Sx

namespace Go.Proofs.YtohfhephkjihfaaGreat
set_option linter.unusedSimpArgs false
set_option linter.unusedVariables false
open Go.Sx
set_option maxRecDepth 10000
theorem wrap_ok (t : TagP) (bs : List (List Int)) (h : rightT t = true) (hbl : bs.length ≤ 100000) (hl : bs.flatten.length ≤ 1000000) :
   Ct Tryz.prog 97 [tagA t, rowsA bs] [] (.tup [B8 (wrapL t bs.flatten), lv (.int .i64 0)]) [] [] :=
 (wrapO_ok t bs h hbl hl).freeze ⟨⟨rfl, rfl, rfl, by simp, by rw [List.drop_zero, List.take_length]⟩, rfl, trivial⟩ rfl
end Go.Proofs.YtohfhephkjihfaaGreat

namespace Go.Proofs.YtohfhephkjihfaaGreat
set_option linter.unusedSimpArgs false
set_option linter.unusedVariables false
open Go.Sx
set_option maxRecDepth 10000
abbrev i64c (x : Int) : Cell := .lf (.v (.int .i64 x))
end Go.Proofs.YtohfhephkjihfaaGreat

namespace Go.Proofs.YtohfhephkjihfaaGreat
set_option linter.unusedSimpArgs false
set_option linter.unusedVariables false
open Go.Sx
set_option maxRecDepth 10000
theorem str_of (t : ByteArray) : ∃ l : List Int, t = strOfNums l ∧ WfB l ∧ l.length = t.size := by
 refine ⟨bs t, ?_, ?_, ?_⟩
 · apply ByteArray.ext
   apply Array.ext'
   rw [strOfNums_data]
   simp only [bs, List.map_map]
   conv => lhs; rw [← List.map_id t.data.toList]
   apply List.map_congr_left
   intro b _
   show b = UInt8.ofNat ((b.toNat : Int)).toNat
   rw [Int.toNat_natCast, UInt8.ofNat_toNat]
 · intro x hx
   obtain ⟨b, _, rfl⟩ := List.mem_map.1 hx
   have := b.toNat_lt
   omega
 · show (t.data.toList.map _).length = t.data.size
   rw [List.length_map, Array.length_toList]
theorem bs_str {l : List Int} (h : WfB l) : bs (strOfNums l) = l := by
 simp only [bs, strOfNums_data, List.map_map]
 conv => rhs; rw [← List.map_id l]
 apply List.map_congr_left
 intro x hx
 have := h x hx
 simp only [Function.comp]
 rw [UInt8.toNat_ofNat']
 simp only [id]
 omega

@[simp] theorem size_str (l : List Int) : (strOfNums l).size = l.length := strOfNums_size l
end Go.Proofs.YtohfhephkjihfaaGreat

namespace Go.Proofs.YtohfhephkjihfaaGreat
set_option linter.unusedSimpArgs false
set_option linter.unusedVariables false
open Go.Sx
set_option maxRecDepth 10000
def tw2 (n : Int) : List Int := [48 + n / 10 % 10, 48 + n % 10]
@[simp] theorem tw2_len (n : Int) : (tw2 n).length = 2 := rfl
end Go.Proofs.YtohfhephkjihfaaGreat

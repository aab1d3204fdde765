/-
  The library's contracts on slices.Sorted(maps.Keys(m)) laid at this translation, in plain words (printed by lay-iter.mjs, lay-plain.mjs). No condition.
-/
import Derived.Shelf.SlIter.Nil
import Derived.Shelf.SortM.Plain
import Derived.Shelf.SortM.SortNone
import Derived.Test.YtohfhephkjihfaaGreatProg
namespace Go.Proofs
open Go.RowKit Go.Maps Go.Sort Go.Shelf
def Tryz.keys31_ren : Go.Shelf.Ren := ⟨fun | 7 => 31 | 10 => 46 | n => n, fun | 23 => 51 | 26 => 9 | 3 => 29 | 28 => 70 | 0 => 0 | 27 => 69 | 33 => 88 | 4 => 4 | n => n, fun | n => n⟩
theorem Tryz.keys31 : Go.Proofs.SlLaysZ.n7 Tryz.prog Tryz.keys31_ren := {
 mixed := by kernel_rfl
 f7 := ⟨Tryz.f31.name, by decide, Tryz.func31.trans (congrArg some (by kernel_rfl))⟩
 f10 := ⟨Tryz.f46.name, by decide, Tryz.func46.trans (congrArg some (by kernel_rfl))⟩
 t0 := Tryz.underlying0
 a0 := Tryz.isAgg0
 z0 := Tryz.sizeOf0
 v0 := Tryz.zeroValue0
 t4 := Tryz.underlying4
 a4 := Tryz.isAgg4
 z4 := Tryz.sizeOf4
 v4 := Tryz.zeroValue4
 t23 := Tryz.underlying51
 a23 := Tryz.isAgg51
 z23 := Tryz.sizeOf51
 v23 := Tryz.zeroValue51
 t26 := Tryz.underlying9
 a26 := Tryz.isAgg9
 z26 := Tryz.sizeOf9
 v26 := Tryz.zeroValue9
 t27 := Tryz.underlying69
 a27 := Tryz.isAgg69
 z27 := Tryz.sizeOf69
 v27 := Tryz.zeroValue69
 t28 := Tryz.underlying70
 a28 := Tryz.isAgg70
 z28 := Tryz.sizeOf70
 v28 := Tryz.zeroValue70
 t33 := Tryz.underlying88
 a33 := Tryz.isAgg88
 z33 := Tryz.sizeOf88
 v33 := Tryz.zeroValue88 }
def Tryz.sorted30_ren : Go.Shelf.Ren := ⟨fun | 6 => 30 | 8 => 44 | 9 => 45 | 11 => 61 | 13 => 63 | 12 => 62 | 23 => 84 | 24 => 85 | 14 => 75 | 15 => 76 | 16 => 77 | 17 => 78 | 18 => 79 | 19 => 80 | 20 => 81 | 21 => 82 | 22 => 83 | 25 => 100 | 26 => 101 | 27 => 102 | 28 => 103 | 29 => 104 | 30 => 105 | 31 => 121 | n => n, fun | 26 => 9 | 28 => 70 | 24 => 67 | 0 => 0 | 3 => 3 | 37 => 90 | 48 => 106 | 50 => 32 | 4 => 4 | 40 => 135 | 39 => 134 | 45 => 56 | 5 => 5 | 9 => 9 | 51 => 158 | 55 => 162 | 57 => 177 | 58 => 178 | 33 => 88 | n => n, fun | n => n⟩
theorem Tryz.sorted30 : Go.Proofs.SlLaysZ.n6 Tryz.prog Tryz.sorted30_ren := {
 mixed := by kernel_rfl
 f6 := ⟨Tryz.f30.name, by decide, Tryz.func30.trans (congrArg some (by kernel_rfl))⟩
 f8 := ⟨Tryz.f44.name, by decide, Tryz.func44.trans (congrArg some (by kernel_rfl))⟩
 f11 := ⟨Tryz.f61.name, by decide, Tryz.func61.trans (congrArg some (by kernel_rfl))⟩
 t0 := Tryz.underlying0
 a0 := Tryz.isAgg0
 z0 := Tryz.sizeOf0
 v0 := Tryz.zeroValue0
 t24 := Tryz.underlying67
 a24 := Tryz.isAgg67
 z24 := Tryz.sizeOf67
 v24 := Tryz.zeroValue67
 t26 := Tryz.underlying9
 a26 := Tryz.isAgg9
 z26 := Tryz.sizeOf9
 v26 := Tryz.zeroValue9
 t28 := Tryz.underlying70
 a28 := Tryz.isAgg70
 z28 := Tryz.sizeOf70
 v28 := Tryz.zeroValue70
 i26 := by kernel_rfl }
def Tryz.sort45_ren : Go.Shelf.Ren := ⟨fun | 6 => 45 | 8 => 63 | 9 => 62 | 19 => 84 | 20 => 85 | 21 => 75 | 22 => 76 | 23 => 77 | 24 => 78 | 25 => 79 | 26 => 80 | 27 => 81 | 28 => 82 | 29 => 83 | 36 => 100 | 31 => 101 | 32 => 102 | 37 => 103 | 38 => 104 | 39 => 105 | 41 => 121 | n => n, fun | 27 => 67 | 29 => 9 | 3 => 3 | 32 => 90 | 26 => 67 | 0 => 0 | 44 => 106 | 46 => 32 | 4 => 4 | 36 => 135 | 35 => 134 | 41 => 56 | 5 => 5 | 9 => 9 | 53 => 158 | 57 => 162 | 63 => 177 | 64 => 178 | n => n, fun | n => n⟩
theorem Tryz.sort45 : Go.Proofs.SlLaysM.n6 Tryz.prog Tryz.sort45_ren := {
 mixed := by kernel_rfl
 f6 := ⟨Tryz.f45.name, by decide, Tryz.func45.trans (congrArg some (by kernel_rfl))⟩
 f8 := Tryz.func63.trans (congrArg some (by kernel_rfl))
 f9 := ⟨Tryz.f62.name, by decide, Tryz.func62.trans (congrArg some (by kernel_rfl))⟩
 f19 := Tryz.func84.trans (congrArg some (by kernel_rfl))
 f20 := Tryz.func85.trans (congrArg some (by kernel_rfl))
 f21 := ⟨Tryz.f75.name, by decide, Tryz.func75.trans (congrArg some (by kernel_rfl))⟩
 f22 := ⟨Tryz.f76.name, by decide, Tryz.func76.trans (congrArg some (by kernel_rfl))⟩
 f23 := ⟨Tryz.f77.name, by decide, Tryz.func77.trans (congrArg some (by kernel_rfl))⟩
 f24 := ⟨Tryz.f78.name, by decide, Tryz.func78.trans (congrArg some (by kernel_rfl))⟩
 f25 := ⟨Tryz.f79.name, by decide, Tryz.func79.trans (congrArg some (by kernel_rfl))⟩
 f26 := ⟨Tryz.f80.name, by decide, Tryz.func80.trans (congrArg some (by kernel_rfl))⟩
 f27 := ⟨Tryz.f81.name, by decide, Tryz.func81.trans (congrArg some (by kernel_rfl))⟩
 f28 := ⟨Tryz.f82.name, by decide, Tryz.func82.trans (congrArg some (by kernel_rfl))⟩
 f29 := ⟨Tryz.f83.name, by decide, Tryz.func83.trans (congrArg some (by kernel_rfl))⟩
 f31 := Tryz.func101.trans (congrArg some (by kernel_rfl))
 f32 := Tryz.func102.trans (congrArg some (by kernel_rfl))
 f36 := ⟨Tryz.f100.name, by decide, Tryz.func100.trans (congrArg some (by kernel_rfl))⟩
 f37 := ⟨Tryz.f103.name, by decide, Tryz.func103.trans (congrArg some (by kernel_rfl))⟩
 f38 := ⟨Tryz.f104.name, by decide, Tryz.func104.trans (congrArg some (by kernel_rfl))⟩
 f39 := ⟨Tryz.f105.name, by decide, Tryz.func105.trans (congrArg some (by kernel_rfl))⟩
 f41 := ⟨Tryz.f121.name, by decide, Tryz.func121.trans (congrArg some (by kernel_rfl))⟩
 t0 := Tryz.underlying0
 a0 := Tryz.isAgg0
 z0 := Tryz.sizeOf0
 v0 := Tryz.zeroValue0
 t3 := Tryz.underlying3
 a3 := Tryz.isAgg3
 z3 := Tryz.sizeOf3
 v3 := Tryz.zeroValue3
 t4 := Tryz.underlying4
 a4 := Tryz.isAgg4
 z4 := Tryz.sizeOf4
 v4 := Tryz.zeroValue4
 t5 := Tryz.underlying5
 a5 := Tryz.isAgg5
 z5 := Tryz.sizeOf5
 v5 := Tryz.zeroValue5
 t9 := Tryz.underlying9
 a9 := Tryz.isAgg9
 z9 := Tryz.sizeOf9
 v9 := Tryz.zeroValue9
 t26 := Tryz.underlying67
 a26 := Tryz.isAgg67
 z26 := Tryz.sizeOf67
 v26 := Tryz.zeroValue67
 t27 := Tryz.underlying67
 a27 := Tryz.isAgg67
 z27 := Tryz.sizeOf67
 v27 := Tryz.zeroValue67
 t29 := Tryz.underlying9
 a29 := Tryz.isAgg9
 z29 := Tryz.sizeOf9
 v29 := Tryz.zeroValue9
 t32 := Tryz.underlying90
 a32 := Tryz.isAgg90
 z32 := Tryz.sizeOf90
 v32 := Tryz.zeroValue90
 t35 := Tryz.underlying134
 a35 := Tryz.isAgg134
 z35 := Tryz.sizeOf134
 v35 := Tryz.zeroValue134
 t36 := Tryz.underlying135
 a36 := Tryz.isAgg135
 z36 := Tryz.sizeOf135
 v36 := Tryz.zeroValue135
 t41 := Tryz.underlying56
 a41 := Tryz.isAgg56
 z41 := Tryz.sizeOf56
 v41 := Tryz.zeroValue56
 t44 := Tryz.underlying106
 a44 := Tryz.isAgg106
 z44 := Tryz.sizeOf106
 v44 := Tryz.zeroValue106
 t46 := Tryz.underlying32
 a46 := Tryz.isAgg32
 z46 := Tryz.sizeOf32
 v46 := Tryz.zeroValue32
 t53 := Tryz.underlying158
 a53 := Tryz.isAgg158
 z53 := Tryz.sizeOf158
 v53 := Tryz.zeroValue158
 t57 := Tryz.underlying162
 a57 := Tryz.isAgg162
 z57 := Tryz.sizeOf162
 v57 := Tryz.zeroValue162
 t63 := Tryz.underlying177
 a63 := Tryz.isAgg177
 z63 := Tryz.sizeOf177
 v63 := Tryz.zeroValue177
 t64 := Tryz.underlying178
 a64 := Tryz.isAgg178
 z64 := Tryz.sizeOf178
 v64 := Tryz.zeroValue178 }
theorem Tryz.sorts30 (m : Nat) : AnyZ.SortsIn Tryz.prog Tryz.sorted30_ren Fence.wide m :=
 ⟨fun blk off cap ss W hH hblk hsz => callsIn_wide.2 (AnyM.slices_Sort_string Tryz.sort45 blk off cap ss W hH hblk hsz),
  fun p cap W => callsIn_wide.2 (AnyM.slices_Sort_string_none Tryz.sort45 p cap W)⟩
theorem Tryz.sortedAny {H : Type} (Bm b nn : Nat) (D0 : DataW H) (R : Value → Option (DataW H × List MemPlace)) (w : World) (hBm : Bm < w.heap.size) (hm : w.cell? ⟨Bm, 0, none⟩ = some (.map (some b))) (hown : w.ownsMap Tryz.prog 9 R b nn D0) (hmax : Maps.size D0 ≤ maxLen) (hbytes : Maps.size D0 * 16 ≤ 140737488355328) :
   Calls Tryz.prog 30 #[.func (.func 46) #[] #[.pointer (some ⟨Bm, 0, none⟩)]] w fun e w' => ∃ (v : Value) (ss : List (List UInt8)), e = .returned v ∧ ss.Perm (strKeys D0) ∧
     w'.ownsRow w.heap.size 9 1 v ss.length ((ss.mergeSort (fun x y => decide (x ≤ y))).map encStr) ∧ (v = .slice none 0 0 ↔ ss = []) ∧ Below w.heap.size w w' := by
 have hseq : SeqGives Fence.wide 2 Tryz.prog 46 #[.pointer (some ⟨Bm, 0, none⟩)] encStr (fun ss => ss.Perm (strKeys D0)) (Maps.size D0) w :=
   AnyZ.keys_gives (ρ := Tryz.keys31_ren) { Tryz.keys31 with } Fence.wide _ trivial rfl (by omega) Bm b nn D0 _ hBm hm hown
 exact callsIn_wide.1 (AnyZ.sorted_in Tryz.sorted30 Fence.wide 5 trivial trivial trivial trivial rfl (by omega) (Tryz.sorts30 _) (enters_of Tryz.func45 (by kernel_rfl) rfl) 46 #[.pointer (some ⟨Bm, 0, none⟩)] trivial (enters_of Tryz.func46 (by kernel_rfl) rfl) _ _ hmax hbytes _ hseq)
end Go.Proofs

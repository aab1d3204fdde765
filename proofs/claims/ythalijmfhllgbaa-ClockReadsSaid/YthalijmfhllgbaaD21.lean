/-
  Chapter 10's law ClockReads, walked: it returns true. The conditions: rows that a machine can hold.
-/
import Derived.Test.YthalijmfhllgbaaD18
import Derived.Test.YthalijmfhllgbaaSxQ
namespace Go.Proofs.Ythalijmfhllgbaa
set_option linter.unusedSimpArgs false
set_option linter.unusedVariables false
open Go.Sx Dt

set_option maxRecDepth 10000

theorem cut_eq (l : List Int) (q n : Nat) : (l.take ((q : Int) + (n : Int)).toNat).drop ((q : Int)).toNat = (l.drop q).take n := by
  rw [show ((q : Int) + (n : Int)).toNat = q + n by omega, Int.toNat_natCast, List.take_drop]
set_option maxHeartbeats 4000000 in
theorem rread10_ok (b : Bool) (l : List Int) (p : Nat) (hp : p ≤ l.length) (hl : l.length ≤ 1000000) (hw : WfB l) :
    Ct Try.prog 48 [B8 l, lv (.int .i64 (p : Int)), lv (.bool b)] [] (.tup [timA (readTm (lkS b) l p).1.1 (readTm (lkS b) l p).1.2, lv (.int .i64 ((readTm (lkS b) l p).2.1 : Int)), lv (.int .i64 (readTm (lkS b) l p).2.2)]) [] [] := by
  have hr := refread_ok l p hp hl hw
  have hle := readP_le l p hp
  have hpos := readP_pos l p hw
  generalize hRR : readTm (lkS b) l p = R
  unfold readTm at hRR
  generalize readP l p = F at *
  obtain ⟨⟨⟨t1, t2, t3⟩, n⟩, q, e⟩ := F
  dsimp only at *
  dsimp only [frR, tagA] at hr
  by_cases he : e = 0
  · subst he
    rw [if_neg (by simp)] at hRR
    obtain ⟨N, rfl⟩ : ∃ N : Nat, n = N := ⟨n.toNat, by omega⟩
    rw [Int.toNat_natCast] at hRR
    refine Ct_intro Try.func48 rfl rfl rfl rfl rfl (fun E hn hb => ?_)
    repeat refine nx ?_
    refine sg true rfl rfl rfl (by rw [hn]; rfl) ?_ ?_
    · intro hG
      refine ⟨hG, fun h => ?_⟩
      show ((!bif t1 != 0 then true else t3) && t2 != 23) = true
      rw [hG, h]; rfl
    repeat refine nx ?_
    generalize hBad : (!(t1 == 0) || t3 || !knownB t2) = BAD at hRR
    refine W_cond rfl (by simp) (fun hc => ?_) (fun hc => ?_)
    · have hb2 : BAD = true := by
        rw [← hBad]
        revert hc
        unfold knownB
        cases t3 <;> simp [Bool.cond_eq_ite] <;> omega
      subst hb2
      rw [if_pos rfl] at hRR
      subst hRR
      repeat refine nx ?_
      exact rt1 []
    · have hb2 : BAD = false := by
        rw [← hBad]
        revert hc
        unfold knownB
        cases t3 <;> simp [Bool.cond_eq_ite] <;> omega
      subst hb2
      rw [if_neg (by simp)] at hRR
      clear hc hBad
      repeat refine nx ?_
      refine W_cond rfl (by simp) (fun hc => ?_) (fun hc => ?_)
      · have hN : (l.length : Int) - q < N := by simpa using hc
        rw [if_pos hN] at hRR
        subst hRR
        repeat refine nx ?_
        exact rt1 []
      · have hN : ¬ (l.length : Int) - q < N := by simpa using hc
        rw [if_neg hN] at hRR
        have hbl : ((l.drop q).take N).length ≤ 1000000 := by simp; omega
        have hpa := rparse10_ok t2 ((l.drop q).take N) hbl
        rw [← parse_same] at hpa
        generalize parse10 t2 ((l.drop q).take N) = PP at *
        rw [← cut_eq] at hpa
        obtain ⟨pk, ps, pe⟩ := PP
        dsimp only at *
        repeat refine nx ?_
        have hkk := rkind_ok ps
        unfold lkS at hRR
        generalize kindN ps = KN at *
        by_cases hpe : pe = 0
        · subst hpe
          rw [if_neg (by simp)] at hRR
          repeat refine nx ?_
          refine W_cond rfl (by simp) (fun hc => ?_) (fun hc => ?_)
          · have h : (b && !(KN == pk)) = true := by simpa using hc
            rw [h] at hRR
            rw [if_pos (by simp)] at hRR
            subst hRR
            repeat refine nx ?_
            exact rt1 []
          · have h : (b && !(KN == pk)) = false := by
              cases b <;> simp at hc ⊢ <;> omega
            rw [h] at hRR
            rw [if_neg (by simp)] at hRR
            subst hRR
            repeat refine nx ?_
            exact rt1 []
        · rw [if_pos hpe] at hRR
          subst hRR
          repeat refine nx ?_
          exact rt1 []
  · rw [if_pos he] at hRR
    subst hRR
    refine Ct_intro Try.func48 rfl rfl rfl rfl rfl (fun E hn hb => ?_)
    repeat refine nx ?_
    exact rt1 []
end Go.Proofs.Ythalijmfhllgbaa

namespace Go.Proofs.Ythalijmfhllgbaa
set_option linter.unusedSimpArgs false
set_option linter.unusedVariables false
open Go.Sx Dt

set_option maxRecDepth 10000

set_option maxHeartbeats 4000000 in
theorem reads10_ok (l0 : List Int) (hl0 : l0.length ≤ 9223372036854775807) (hw0 : WfB l0) : Ct Try.prog 8 [B8 l0] [] (lv (.bool true)) [] [] := by
  have hl : (l0.take (min (l0.length : Int) 100).toNat).length ≤ 100 := by simp; omega
  have hw : WfB (l0.take (min (l0.length : Int) 100).toNat) := fun x hx => hw0 x (List.mem_of_mem_take hx)
  refine Ct_intro Try.func8 rfl rfl rfl rfl rfl (fun E hn hb => ?_)
  repeat refine nx ?_
  generalize l0.take (min (l0.length : Int) 100).toNat = l at *
  have hkn := known10ex_ok
  have hne := curnew_ok l (by omega)
  have h1 := cread_ok l 0 (by omega) (by omega) hw
  have h2 := creadS_ok l 0 (by omega) (by omega) hw
  have h3 := creadG_ok l 0 (by omega) (by omega) hw
  have h4 := rread10_ok false l 0 (by omega) (by omega) hw
  have h5 := rread10_ok true l 0 (by omega) (by omega) hw
  have h6 := rreadG_ok l 0 (by omega) (by omega) hw
  generalize readTm (lkS false) l 0 = A at *
  generalize readTm (lkS true) l 0 = B at *
  generalize genTm l 0 = C at *
  obtain ⟨⟨a1, a2⟩, a3, a4⟩ := A
  obtain ⟨⟨b1, b2⟩, b3, b4⟩ := B
  obtain ⟨c1, c2, c3⟩ := C
  dsimp only [tmR] at *
  have g1 := lawof_ok a1 a2
  have g2 := lawof_ok b1 b2
  have p1 := at_ok l a3
  have p2 := at_ok l b3
  have p3 := at_ok l c2
  repeat refine nx ?_
  refine rt2 [] ?_ ?_
  · refine congrArg (fun x => lv (.bool x)) ?_
    simp [eqCs, Cell.kill, Cell.kill1]
  · trivial
end Go.Proofs.Ythalijmfhllgbaa

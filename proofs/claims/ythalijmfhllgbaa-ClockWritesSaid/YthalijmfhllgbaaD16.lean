/-
  Clock: the readers, the program's and the document's. The conditions: rows of bytes that a machine can hold.
-/
import Derived.Test.YthalijmfhllgbaaSxV
import Derived.Test.YthalijmfhllgbaaSxL
namespace Go.Proofs.Ythalijmfhllgbaa
set_option linter.unusedSimpArgs false
set_option linter.unusedVariables false
open Go.Sx Dt

set_option maxRecDepth 10000

theorem upd_eq {hp : Nat → Blk} {j : Nat} {b : Blk} (h : hp j = b) : hp = fun k => if k = j then b else hp k := by
  funext k
  split
  · rename_i e; rw [e, h]
  · rfl
theorem headread_ok (l : List Int) (p : Nat) (hp : p ≤ l.length) (hl : l.length ≤ 1000000) (hw : WfB l) : Ct Try.prog 141 [.c (.ptr 0 0)] [curB l p] (.tup [tagA (readP l p).1.1, lv (.int .i64 (readP l p).1.2), lv (.int .i64 (readP l p).2.2)]) [curB l (readP l p).2.1] [] := by
  have hr := read_ok l p hp hl hw
  generalize readP l p = F at *
  obtain ⟨⟨⟨t1, t2, t3⟩, n⟩, q, e⟩ := F
  dsimp only at *
  refine Ct_intro Try.func141 rfl rfl rfl rfl rfl (fun E hn hb => ?_)
  repeat (first | refine stp ?_ | refine N_block_pass rfl ?_ | refine sp1 ?_ | refine sg1 ?_ | refine WL_nil ?_)
  refine s_allocN rfl rfl rfl (by rw [hn]; rfl) rfl zok136 ?_
  repeat (first | refine stp ?_ | refine N_block_pass rfl ?_ | refine sp1 ?_ | refine sg1 ?_ | refine WL_nil ?_)
  refine s_call [0] hr rfl rfl (by rw [hn]; rfl) rfl rfl (by trivial) ⟨rfl, rfl, (by simp [ordL]), rfl⟩ ?_
  repeat (first | refine stp ?_ | refine N_block_pass rfl ?_ | refine sp1 ?_ | refine sg1 ?_ | refine WL_nil ?_)
  refine s_allocN rfl rfl rfl (by rw [hn]; rfl) rfl zok205 ?_
  refine s_storeN rfl rfl rfl rfl rfl (by first | trivial | (simp; done) | (simp; omega) | (simp at *; done) | (simp at *; omega)) rfl rfl rfl (by rw [cellsOf205]; rfl) (by rw [info205]; rfl) rfl rfl ?_
  repeat (first | refine stp ?_ | refine N_block_pass rfl ?_ | refine sp1 ?_ | refine sg1 ?_ | refine WL_nil ?_)
  refine W_drawF [2, 3, 4] (fun hp => hp 69 = .cells [i64c t1, i64c t2, .lf (.v (.bool t3)), i64c n]) (by kernel_rfl) (by kernel_rfl) (by rw [hn]; rfl) rfl ?_
  refine DrawF_op rfl rfl rfl (ops_pure true rfl rfl (by first | trivial | (simp; done) | (simp; omega))) ?_
  refine DrawF_op rfl rfl rfl (ops_pure true rfl rfl (by first | trivial | (simp; done) | (simp; omega))) ?_
  refine DrawF_fr rfl rfl rfl (fun hp hK => ops_pure true rfl rfl (by first | trivial | (simp; done) | (simp; omega))) ?_
  refine DrawF_fr rfl rfl rfl (fun hp hK => by rw [upd_eq hK]; exact ops_pure true rfl rfl (by first | trivial | (simp; done) | (simp; omega))) ?_
  refine DrawF_fr rfl rfl rfl (fun hp hK => ops_pure true rfl rfl (by first | trivial | (simp; done) | (simp; omega))) ?_
  rw [cellsOf136]
  refine DrawF_store rfl rfl rfl rfl (by first | trivial | (simp; done) | (simp; omega)) rfl rfl rfl (by rw [cellsOf136]; rfl) (by rw [info136]; rfl) rfl rfl rfl ?_
  refine DrawF_op rfl rfl rfl (ops_pure true rfl rfl (by first | trivial | (simp; done) | (simp; omega))) ?_
  refine DrawF_op rfl rfl rfl (ops_pure true rfl rfl (by first | trivial | (simp; done) | (simp; omega))) ?_
  refine DrawF_nil ?_
  repeat (first | refine stp ?_ | refine N_block_pass rfl ?_ | refine sp1 ?_ | refine sg1 ?_ | refine WL_nil ?_)
  exact rt1 []
theorem fail10_ok (l : List Int) (p q : Nat) (e : Int) (hq : p ≤ q) (hl : q ≤ 1000000) : Ct Try.prog 142 [lv (.int .i64 e), .c (.ptr 1 0), .c (.ptr 2 0)] [curB l q, ptrB, .cells [i64c (p : Int)]] (.tup [timA 0 0, lv (.int .i64 e)]) [curB l p, ptrB, .cells [i64c (p : Int)]] [] := by
  have hb1 := back_ok l q p hq hl
  refine Ct_intro Try.func142 rfl rfl rfl rfl rfl (fun E hn hb => ?_)
  repeat (first | refine stp ?_ | refine N_block_pass rfl ?_ | refine sp1 ?_ | refine sg1 ?_ | refine WL_nil ?_)
  refine s_allocN rfl rfl rfl (by rw [hn]; rfl) rfl zok44 ?_
  repeat (first | refine stp ?_ | refine N_block_pass rfl ?_ | refine sp1 ?_ | refine sg1 ?_ | refine WL_nil ?_)
  refine s_call [0] hb1 rfl rfl (by rw [hn]; rfl) rfl rfl (by trivial) ⟨rfl, rfl, (by simp [ordL]), rfl⟩ ?_
  repeat (first | refine stp ?_ | refine N_block_pass rfl ?_ | refine sp1 ?_ | refine sg1 ?_ | refine WL_nil ?_)
  refine s_storeN rfl rfl rfl rfl rfl (by first | trivial | (simp; done) | (simp; omega) | (simp at *; done) | (simp at *; omega)) rfl rfl rfl (by rw [cellsOf44]; rfl) (by rw [info44]; rfl) rfl rfl ?_
  repeat (first | refine stp ?_ | refine N_block_pass rfl ?_ | refine sp1 ?_ | refine sg1 ?_ | refine WL_nil ?_)
  exact rt1 []
/-- The next time, with a look at it. -/
def readTm (lk : Int → Int → Int) (l : List Int) (p : Nat) : (Int × Int) × Nat × Int :=
  if ¬ (readP l p).2.2 = 0 then ((0, 0), p, (readP l p).2.2)
  else if (!((readP l p).1.1.1 == 0) || (readP l p).1.1.2.2 || !knownB (readP l p).1.1.2.1) = true then ((0, 0), p, 4)
  else if (l.length : Int) - (readP l p).2.1 < (readP l p).1.2 then ((0, 0), p, 3)
  else
    let P := parse10 (readP l p).1.1.2.1 ((l.drop (readP l p).2.1).take (readP l p).1.2.toNat)
    if ¬ P.2.2 = 0 then ((0, 0), p, P.2.2)
    else if ¬ lk P.1 P.2.1 = 0 then ((0, 0), p, lk P.1 P.2.1)
    else ((P.1, P.2.1), (readP l p).2.1 + (readP l p).1.2.toNat, 0)
abbrev tmR (r : (Int × Int) × Nat × Int) : Av := .tup [timA r.1.1 r.1.2, lv (.int .i64 r.2.2)]
set_option maxHeartbeats 4000000 in
theorem read10_ok (g : FuncId) (lk : Int → Int → Int) (hg : ∀ k s, Ct Try.prog g [timA k s] [] (lv (.int .i64 (lk k s))) [] []) (l : List Int) (p : Nat) (hp : p ≤ l.length) (hl : l.length ≤ 1000000) (hw : WfB l) :
    Ct Try.prog 99 [.c (.ptr 0 0), .c (.fn (.func g) [] [])] [curB l p] (tmR (readTm lk l p)) [curB l (readTm lk l p).2.1] [] := by
  have hr := headread_ok l p hp hl hw
  have hle := readP_le l p hp
  have hpos := readP_pos l p hw
  have hst : ¬ (readP l p).2.2 = 0 → (readP l p).2.1 = p := keepP_stay _ _ _
  have hat := at_ok l p
  unfold readTm
  generalize readP l p = F at *
  obtain ⟨⟨⟨t1, t2, t3⟩, n⟩, q, e⟩ := F
  dsimp only at *
  have hkn := known10_ok t2
  have hf := fun e => fail10_ok l p q e hle.1 (by omega)
  by_cases he : e = 0
  · subst he
    rw [if_neg (by simp)]
    obtain ⟨N, rfl⟩ : ∃ N : Nat, n = N := ⟨n.toNat, by omega⟩
    rw [Int.toNat_natCast]
    refine Ct_intro Try.func99 rfl rfl rfl rfl rfl (fun E hn hb => ?_)
    repeat (first | refine stp ?_ | refine N_block_pass rfl ?_ | refine sp1 ?_ | refine sg1 ?_ | refine WL_nil ?_)
    refine s_boxN rfl rfl rfl (by rw [hn]; rfl) rfl (by first | trivial | (simp; done) | (simp; omega) | (simp at *; done) | (simp at *; omega)) rfl rfl ?_
    repeat (first | refine stp ?_ | refine N_block_pass rfl ?_ | refine sp1 ?_ | refine sg1 ?_ | refine WL_nil ?_)
    refine s_allocN rfl rfl rfl (by rw [hn]; rfl) rfl zok44 ?_
    repeat (first | refine stp ?_ | refine N_block_pass rfl ?_ | refine sp1 ?_ | refine sg1 ?_ | refine WL_nil ?_)
    refine WL_q (opq_of (opy_callL (hat) rfl rfl rfl (by first | trivial | (simp; done) | (simp; omega) | (simp at *; done) | (simp at *; omega)) ⟨.inr (.inr ⟨0, 0, _, _, rfl, rfl, rfl, rfl⟩), trivial⟩ rfl) rfl) (by rw [hn]; rfl) ?_
    repeat (first | refine stp ?_ | refine N_block_pass rfl ?_ | refine sp1 ?_ | refine sg1 ?_ | refine WL_nil ?_)
    refine s_allocN rfl rfl rfl (by rw [hn]; rfl) rfl zok3 ?_
    refine s_storeN rfl rfl rfl rfl rfl (by first | trivial | (simp; done) | (simp; omega) | (simp at *; done) | (simp at *; omega)) rfl rfl rfl (by rw [cellsOf3]; rfl) (by rw [info3]; rfl) rfl rfl ?_
    repeat (first | refine stp ?_ | refine N_block_pass rfl ?_ | refine sp1 ?_ | refine sg1 ?_ | refine WL_nil ?_)
    refine s_call [0] hr rfl rfl (by rw [hn]; rfl) rfl rfl (by trivial) ⟨rfl, rfl, (by simp [ordL]), rfl⟩ ?_
    repeat (first | refine stp ?_ | refine N_block_pass rfl ?_ | refine sp1 ?_ | refine sg1 ?_ | refine WL_nil ?_)
    refine s_allocN rfl rfl rfl (by rw [hn]; rfl) rfl zok136 ?_
    refine s_storeN rfl rfl rfl rfl rfl (by first | trivial | (simp; done) | (simp; omega) | (simp at *; done) | (simp at *; omega)) rfl rfl rfl (by rw [cellsOf136]; rfl) (by rw [info136]; rfl) rfl rfl ?_
    repeat (first | refine stp ?_ | refine N_block_pass rfl ?_ | refine sp1 ?_ | refine sg1 ?_ | refine WL_nil ?_)
    refine W_cond rfl (by simp) (fun hc => ?_) (fun hc => ?_)
    · simp at hc
    clear hc
    repeat (first | refine stp ?_ | refine N_block_pass rfl ?_ | refine sp1 ?_ | refine sg1 ?_ | refine WL_nil ?_)
    refine WL_q (opq_callG rfl rfl rfl rfl rfl (fun _ => hkn) (fun hG => by first | exact hG | (first | trivial | (simp; done) | (simp; omega) | (simp at *; done) | (simp at *; omega))) rfl rfl) (by rw [hn]; rfl) ?_
    repeat (first | refine stp ?_ | refine N_block_pass rfl ?_ | refine sp1 ?_ | refine sg1 ?_ | refine WL_nil ?_)
    generalize hBad : (!(t1 == 0) || t3 || !knownB t2) = BAD
    refine W_cond rfl (by simp) (fun hc => ?_) (fun hc => ?_)
    · have hb2 : BAD = true := by
        rw [← hBad]
        revert hc
        cases t3 <;> cases knownB t2 <;> simp [Bool.cond_eq_ite]
      subst hb2
      rw [if_pos rfl]
      repeat (first | refine stp ?_ | refine N_block_pass rfl ?_ | refine sp1 ?_ | refine sg1 ?_ | refine WL_nil ?_)
      refine s_call [0, 66, 70] (hf 4) rfl rfl (by rw [hn]; rfl) rfl rfl (by trivial) ⟨rfl, ⟨rfl, rfl, rfl⟩, by simp [ordL], rfl⟩ ?_
      repeat (first | refine stp ?_ | refine N_block_pass rfl ?_ | refine sp1 ?_ | refine sg1 ?_ | refine WL_nil ?_)
      refine s_storeN rfl rfl rfl rfl rfl (by first | trivial | (simp; done) | (simp; omega) | (simp at *; done) | (simp at *; omega)) rfl rfl rfl (by rw [cellsOf44]; rfl) (by rw [info44]; rfl) rfl rfl ?_
      repeat (first | refine stp ?_ | refine N_block_pass rfl ?_ | refine sp1 ?_ | refine sg1 ?_ | refine WL_nil ?_)
      exact rt1 []
    · have hb2 : BAD = false := by
        rw [← hBad]
        revert hc
        cases t3 <;> cases knownB t2 <;> simp [Bool.cond_eq_ite]
      subst hb2
      rw [if_neg (by simp)]
      clear hc hBad
      repeat (first | refine stp ?_ | refine N_block_pass rfl ?_ | refine sp1 ?_ | refine sg1 ?_ | refine WL_nil ?_)
      by_cases hN : (l.length : Int) - q < N
      · rw [if_pos hN]
        have htk := take_err l q N (by omega) hle.2 hN hl
        refine s_call [0] htk rfl rfl (by rw [hn]; rfl) rfl rfl (by trivial) ⟨rfl, rfl, (by simp [ordL]), rfl⟩ ?_
        repeat (first | refine stp ?_ | refine N_block_pass rfl ?_ | refine sp1 ?_ | refine sg1 ?_ | refine WL_nil ?_)
        refine W_cond rfl (by simp) (fun hc => ?_) (fun hc => ?_)
        · repeat (first | refine stp ?_ | refine N_block_pass rfl ?_ | refine sp1 ?_ | refine sg1 ?_ | refine WL_nil ?_)
          refine s_call [0, 66, 70] (hf 3) rfl rfl (by rw [hn]; rfl) rfl rfl (by trivial) ⟨rfl, ⟨rfl, rfl, rfl⟩, by simp [ordL], rfl⟩ ?_
          repeat (first | refine stp ?_ | refine N_block_pass rfl ?_ | refine sp1 ?_ | refine sg1 ?_ | refine WL_nil ?_)
          refine s_storeN rfl rfl rfl rfl rfl (by first | trivial | (simp; done) | (simp; omega) | (simp at *; done) | (simp at *; omega)) rfl rfl rfl (by rw [cellsOf44]; rfl) (by rw [info44]; rfl) rfl rfl ?_
          repeat (first | refine stp ?_ | refine N_block_pass rfl ?_ | refine sp1 ?_ | refine sg1 ?_ | refine WL_nil ?_)
          exact rt1 []
        · simp at hc
      · rw [if_neg hN]
        have htk := take_ok l q N (by omega) hl
        have hbl : ((l.drop q).take N).length ≤ 1000000 := by simp; omega
        have hf2 := fun e => fail10_ok l p (q + N) e (by omega) (by omega)
        generalize (l.drop q).take N = b at *
        have hpa := parse10_ok t2 b hbl
        generalize parse10 t2 b = P at *
        obtain ⟨pk, ps, pe⟩ := P
        dsimp only at *
        refine s_call [0] htk rfl rfl (by rw [hn]; rfl) rfl rfl (by trivial) ⟨rfl, rfl, (by simp [ordL]), rfl⟩ ?_
        repeat (first | refine stp ?_ | refine N_block_pass rfl ?_ | refine sp1 ?_ | refine sg1 ?_ | refine WL_nil ?_)
        refine W_cond rfl (by simp) (fun hc => ?_) (fun hc => ?_)
        · simp at hc
        clear hc
        repeat (first | refine stp ?_ | refine N_block_pass rfl ?_ | refine sp1 ?_ | refine sg1 ?_ | refine WL_nil ?_)
        refine s_call0 hpa rfl rfl rfl (by rw [hn]; rfl) rfl rfl (by first | trivial | (simp; done) | (simp; omega) | (simp at *; done) | (simp at *; omega)) rfl rfl rfl ?_
        repeat (first | refine stp ?_ | refine N_block_pass rfl ?_ | refine sp1 ?_ | refine sg1 ?_ | refine WL_nil ?_)
        refine s_allocN rfl rfl rfl (by rw [hn]; rfl) rfl zok44 ?_
        refine s_storeN rfl rfl rfl rfl rfl (by first | trivial | (simp; done) | (simp; omega) | (simp at *; done) | (simp at *; omega)) rfl rfl rfl (by rw [cellsOf44]; rfl) (by rw [info44]; rfl) rfl rfl ?_
        repeat (first | refine stp ?_ | refine N_block_pass rfl ?_ | refine sp1 ?_ | refine sg1 ?_ | refine WL_nil ?_)
        by_cases hpe : pe = 0
        · subst hpe
          rw [if_neg (by simp)]
          have hlk := hg pk ps
          generalize lk pk ps = L at *
          refine W_cond rfl (by simp) (fun hc => ?_) (fun hc => ?_)
          · repeat (first | refine stp ?_ | refine N_block_pass rfl ?_ | refine sp1 ?_ | refine sg1 ?_ | refine WL_nil ?_)
            refine s_call0 hlk rfl rfl rfl (by rw [hn]; rfl) rfl rfl (by first | trivial | (simp; done) | (simp; omega) | (simp at *; done) | (simp at *; omega)) rfl rfl rfl ?_
            repeat (first | refine stp ?_ | refine N_block_pass rfl ?_ | refine sp1 ?_ | refine sg1 ?_ | refine WL_nil ?_)
            refine W_cond rfl (by simp) (fun hd => ?_) (fun hd => ?_)
            · have hL : ¬ L = 0 := by simpa using hd
              rw [if_pos hL]
              repeat (first | refine stp ?_ | refine N_block_pass rfl ?_ | refine sp1 ?_ | refine sg1 ?_ | refine WL_nil ?_)
              refine s_call [0, 66, 70] (hf2 L) rfl rfl (by rw [hn]; rfl) rfl rfl (by trivial) ⟨rfl, ⟨rfl, rfl, rfl⟩, by simp [ordL], rfl⟩ ?_
              repeat (first | refine stp ?_ | refine N_block_pass rfl ?_ | refine sp1 ?_ | refine sg1 ?_ | refine WL_nil ?_)
              refine s_storeN rfl rfl rfl rfl rfl (by first | trivial | (simp; done) | (simp; omega) | (simp at *; done) | (simp at *; omega)) rfl rfl rfl (by rw [cellsOf44]; rfl) (by rw [info44]; rfl) rfl rfl ?_
              repeat (first | refine stp ?_ | refine N_block_pass rfl ?_ | refine sp1 ?_ | refine sg1 ?_ | refine WL_nil ?_)
              exact rt1 []
            · have hL : L = 0 := by simpa using hd
              rw [if_neg (by simp [hL])]
              repeat (first | refine stp ?_ | refine N_block_pass rfl ?_ | refine sp1 ?_ | refine sg1 ?_ | refine WL_nil ?_)
              refine s_storeN rfl rfl rfl rfl rfl (by first | trivial | (simp; done) | (simp; omega) | (simp at *; done) | (simp at *; omega)) rfl rfl rfl (by rw [cellsOf44]; rfl) (by rw [info44]; rfl) rfl rfl ?_
              repeat (first | refine stp ?_ | refine N_block_pass rfl ?_ | refine sp1 ?_ | refine sg1 ?_ | refine WL_nil ?_)
              exact rt1 []
          · simp at hc
        · rw [if_pos hpe]
          refine W_cond rfl (by simp) (fun hc => ?_) (fun hc => ?_)
          · simp at hc; exact absurd hc hpe
          · repeat (first | refine stp ?_ | refine N_block_pass rfl ?_ | refine sp1 ?_ | refine sg1 ?_ | refine WL_nil ?_)
            refine W_cond rfl (by simp) (fun hd => ?_) (fun hd => ?_)
            · repeat (first | refine stp ?_ | refine N_block_pass rfl ?_ | refine sp1 ?_ | refine sg1 ?_ | refine WL_nil ?_)
              refine s_call [0, 66, 70] (hf2 pe) rfl rfl (by rw [hn]; rfl) rfl rfl (by trivial) ⟨rfl, ⟨rfl, rfl, rfl⟩, by simp [ordL], rfl⟩ ?_
              repeat (first | refine stp ?_ | refine N_block_pass rfl ?_ | refine sp1 ?_ | refine sg1 ?_ | refine WL_nil ?_)
              refine s_storeN rfl rfl rfl rfl rfl (by first | trivial | (simp; done) | (simp; omega) | (simp at *; done) | (simp at *; omega)) rfl rfl rfl (by rw [cellsOf44]; rfl) (by rw [info44]; rfl) rfl rfl ?_
              repeat (first | refine stp ?_ | refine N_block_pass rfl ?_ | refine sp1 ?_ | refine sg1 ?_ | refine WL_nil ?_)
              exact rt1 []
            · simp at hd; exact absurd hd hpe
  · rw [if_pos he]
    obtain rfl := hst he
    refine Ct_intro Try.func99 rfl rfl rfl rfl rfl (fun E hn hb => ?_)
    repeat (first | refine stp ?_ | refine N_block_pass rfl ?_ | refine sp1 ?_ | refine sg1 ?_ | refine WL_nil ?_)
    refine s_boxN rfl rfl rfl (by rw [hn]; rfl) rfl (by first | trivial | (simp; done) | (simp; omega) | (simp at *; done) | (simp at *; omega)) rfl rfl ?_
    repeat (first | refine stp ?_ | refine N_block_pass rfl ?_ | refine sp1 ?_ | refine sg1 ?_ | refine WL_nil ?_)
    refine s_allocN rfl rfl rfl (by rw [hn]; rfl) rfl zok44 ?_
    repeat (first | refine stp ?_ | refine N_block_pass rfl ?_ | refine sp1 ?_ | refine sg1 ?_ | refine WL_nil ?_)
    refine WL_q (opq_of (opy_callL (hat) rfl rfl rfl (by first | trivial | (simp; done) | (simp; omega) | (simp at *; done) | (simp at *; omega)) ⟨.inr (.inr ⟨0, 0, _, _, rfl, rfl, rfl, rfl⟩), trivial⟩ rfl) rfl) (by rw [hn]; rfl) ?_
    repeat (first | refine stp ?_ | refine N_block_pass rfl ?_ | refine sp1 ?_ | refine sg1 ?_ | refine WL_nil ?_)
    refine s_allocN rfl rfl rfl (by rw [hn]; rfl) rfl zok3 ?_
    refine s_storeN rfl rfl rfl rfl rfl (by first | trivial | (simp; done) | (simp; omega) | (simp at *; done) | (simp at *; omega)) rfl rfl rfl (by rw [cellsOf3]; rfl) (by rw [info3]; rfl) rfl rfl ?_
    repeat (first | refine stp ?_ | refine N_block_pass rfl ?_ | refine sp1 ?_ | refine sg1 ?_ | refine WL_nil ?_)
    refine s_call [0] hr rfl rfl (by rw [hn]; rfl) rfl rfl (by trivial) ⟨rfl, rfl, (by simp [ordL]), rfl⟩ ?_
    repeat (first | refine stp ?_ | refine N_block_pass rfl ?_ | refine sp1 ?_ | refine sg1 ?_ | refine WL_nil ?_)
    refine s_allocN rfl rfl rfl (by rw [hn]; rfl) rfl zok136 ?_
    refine s_storeN rfl rfl rfl rfl rfl (by first | trivial | (simp; done) | (simp; omega) | (simp at *; done) | (simp at *; omega)) rfl rfl rfl (by rw [cellsOf136]; rfl) (by rw [info136]; rfl) rfl rfl ?_
    repeat (first | refine stp ?_ | refine N_block_pass rfl ?_ | refine sp1 ?_ | refine sg1 ?_ | refine WL_nil ?_)
    refine W_cond rfl (by simp) (fun hc => ?_) (fun hc => ?_)
    · repeat (first | refine stp ?_ | refine N_block_pass rfl ?_ | refine sp1 ?_ | refine sg1 ?_ | refine WL_nil ?_)
      refine s_storeN rfl rfl rfl rfl rfl (by first | trivial | (simp; done) | (simp; omega) | (simp at *; done) | (simp at *; omega)) rfl rfl rfl (by rw [cellsOf44]; rfl) (by rw [info44]; rfl) rfl rfl ?_
      repeat (first | refine stp ?_ | refine N_block_pass rfl ?_ | refine sp1 ?_ | refine sg1 ?_ | refine WL_nil ?_)
      exact rt1 []
    · simp at hc; exact absurd hc he
end Go.Proofs.Ythalijmfhllgbaa

namespace Go.Proofs.Ythalijmfhllgbaa
set_option linter.unusedSimpArgs false
set_option linter.unusedVariables false
open Go.Sx Dt

set_option maxRecDepth 10000

/-- What a look finds: strictly, another kind is wrong. -/
def lkS (b : Bool) (k s : Int) : Int := bif b && !(kindN s == k) then 6 else 0
theorem lookStrict_ok (k s : Int) : Ct Try.prog 101 [timA k s] [] (lv (.int .i64 (lkS true k s))) [] [] := by
  have hk := kind_ok s
  unfold lkS
  generalize kindN s = K at *
  refine Ct_intro Try.func101 rfl rfl rfl rfl rfl (fun E hn hb => ?_)
  repeat (first | refine stp ?_ | refine N_block_pass rfl ?_ | refine sp1 ?_ | refine sg1 ?_ | refine WL_nil ?_)
  refine s_boxN rfl rfl rfl (by rw [hn]; rfl) rfl (by first | trivial | (simp; done) | (simp; omega) | (simp at *; done) | (simp at *; omega)) rfl rfl ?_
  repeat (first | refine stp ?_ | refine N_block_pass rfl ?_ | refine sp1 ?_ | refine sg1 ?_ | refine WL_nil ?_)
  refine W_drawW 6 (by kernel_rfl) (by kernel_rfl) (by kernel_rfl) (by rw [hn]; rfl) rfl rfl ?_
  repeat (first | refine dp1 ?_ | refine dg1 ?_ | refine DrawW_nil ?_)
  refine DrawW_cons rfl (ops_of (opys_call hk rfl rfl rfl (by first | trivial | (simp; done) | (simp; omega) | (simp at *; done) | (simp at *; omega)) rfl rfl rfl) rfl) ?_
  repeat (first | refine dp1 ?_ | refine dg1 ?_ | refine DrawW_nil ?_)
  repeat (first | refine stp ?_ | refine N_block_pass rfl ?_ | refine sp1 ?_ | refine sg1 ?_ | refine WL_nil ?_)
  refine W_cond rfl (by simp) (fun hc => ?_) (fun hc => ?_)
  · have h : (true && !(K == k)) = true := by simp at hc ⊢; omega
    rw [h]
    repeat (first | refine stp ?_ | refine N_block_pass rfl ?_ | refine sp1 ?_ | refine sg1 ?_ | refine WL_nil ?_)
    exact rt1 []
  · have h : (true && !(K == k)) = false := by simp at hc ⊢; omega
    rw [h]
    repeat (first | refine stp ?_ | refine N_block_pass rfl ?_ | refine sp1 ?_ | refine sg1 ?_ | refine WL_nil ?_)
    exact rt1 []
theorem creadS_ok (l : List Int) (p : Nat) (hp : p ≤ l.length) (hl : l.length ≤ 1000000) (hw : WfB l) : Ct Try.prog 46 [.c (.ptr 0 0)] [curB l p] (tmR (readTm (lkS true) l p)) [curB l (readTm (lkS true) l p).2.1] [] := by
  have hr := read10_ok 101 (lkS true) lookStrict_ok l p hp hl hw
  generalize readTm (lkS true) l p = R at *
  obtain ⟨⟨k, s⟩, q, e⟩ := R
  dsimp only at *
  refine Ct_intro Try.func46 rfl rfl rfl rfl rfl (fun E hn hb => ?_)
  repeat (first | refine stp ?_ | refine N_block_pass rfl ?_ | refine sp1 ?_ | refine sg1 ?_ | refine WL_nil ?_)
  refine s_allocN rfl rfl rfl (by rw [hn]; rfl) rfl zok44 ?_
  repeat (first | refine stp ?_ | refine N_block_pass rfl ?_ | refine sp1 ?_ | refine sg1 ?_ | refine WL_nil ?_)
  refine s_call [0] hr rfl rfl (by rw [hn]; rfl) rfl rfl (by trivial) ⟨rfl, rfl, (by simp [ordL]), rfl⟩ ?_
  repeat (first | refine stp ?_ | refine N_block_pass rfl ?_ | refine sp1 ?_ | refine sg1 ?_ | refine WL_nil ?_)
  refine s_storeN rfl rfl rfl rfl rfl (by first | trivial | (simp; done) | (simp; omega) | (simp at *; done) | (simp at *; omega)) rfl rfl rfl (by rw [cellsOf44]; rfl) (by rw [info44]; rfl) rfl rfl ?_
  repeat (first | refine stp ?_ | refine N_block_pass rfl ?_ | refine sp1 ?_ | refine sg1 ?_ | refine WL_nil ?_)
  exact rt1 []
end Go.Proofs.Ythalijmfhllgbaa

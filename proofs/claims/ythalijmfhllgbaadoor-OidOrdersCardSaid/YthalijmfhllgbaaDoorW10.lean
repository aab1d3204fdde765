/-
  A row turned about, in place. The conditions: rows of at most a million bytes.
-/
import Derived.Test.YthalijmfhllgbaaDoorW9
import Derived.Test.YthalijmfhllgbaaDoorSxX
namespace Go.Proofs.YthalijmfhllgbaaDoor
set_option linter.unusedSimpArgs false
set_option linter.unusedVariables false
open Go.Sx

set_option maxRecDepth 10000

/-- The first i and the last i turned about. -/
def revA (l : List Int) (i : Nat) : List Int := (List.range l.length).map fun k => if k < i ∨ l.length ≤ k + i then l.getD (l.length - 1 - k) 0 else l.getD k 0
theorem revA_len (l : List Int) (i : Nat) : (revA l i).length = l.length := by simp [revA]
theorem revA_get (l : List Int) (i k : Nat) (h : k < l.length) : (revA l i).getD k 0 = if k < i ∨ l.length ≤ k + i then l.getD (l.length - 1 - k) 0 else l.getD k 0 := by
  simp [revA, h]
theorem revA_zero (l : List Int) : revA l 0 = l := by
  apply List.ext_getElem?
  intro k
  by_cases h : k < l.length
  · simp [revA, h]; intro; omega
  · simp [revA, h]
theorem revA_all (l : List Int) (i : Nat) (h : l.length ≤ 2 * i + 1) : revA l i = l.reverse := by
  apply List.ext_getElem?
  intro k
  by_cases hk : k < l.length
  · rw [List.getElem?_reverse hk]
    simp only [revA, List.getElem?_map, List.getElem?_range hk, Option.map_some]
    have h1 : l.length - 1 - k < l.length := by omega
    rw [List.getElem?_eq_getElem h1]
    split
    · simp [h1]
    · have : l.length - 1 - k = k := by omega
      simp [this, hk]
  · simp [revA, hk]
theorem revA_set (l : List Int) (i : Nat) (h : 2 * i + 1 < l.length) : ((revA l i).set i (l.getD (l.length - 1 - i) 0)).set (l.length - 1 - i) (l.getD i 0) = revA l (i + 1) := by
  apply List.ext_getElem?
  intro k
  by_cases hk : k < l.length
  · simp only [List.getElem?_set, revA, List.getElem?_map, List.getElem?_range hk, Option.map_some, List.length_set, List.length_map, List.length_range]
    by_cases h1 : l.length - 1 - i = k
    · subst h1
      have e : l.length - 1 - (l.length - 1 - i) = i := by omega
      rw [if_pos rfl, if_pos (by omega), e, if_pos (by omega)]
    · rw [if_neg h1]
      by_cases h2 : i = k
      · subst h2
        rw [if_pos rfl, if_pos (by omega), if_pos (by omega)]
      · rw [if_neg h2]
        congr 1
        by_cases h3 : k < i ∨ l.length ≤ k + i
        · rw [if_pos h3, if_pos (by omega)]
        · rw [if_neg h3, if_neg (by omega)]
  · simp [revA, hk]

theorem reverse_ok (l : List Int) (hl : l.length ≤ 1000000) : Ct Tryd.prog 32 [.c (.own 0 1 0 l.length)] [.row (.ints .u8 l)] (.tup []) [.row (.ints .u8 l.reverse)] [] := by
  refine Ct_intro Tryd.func32 rfl rfl rfl rfl rfl (fun E hn hb => ?_)
  repeat (first | refine stp ?_ | refine N_block_pass rfl ?_ | refine sp1 ?_ | refine sg1 ?_ | refine WL_nil ?_)
  have ez := revA_zero l
  refine W_weaken (St.le_of (l := [(0, .c (.own 0 1 0 l.length)), (2, lv (.int .i64 0)), (3, lv (.int .i64 ((l.length : Int) - 1)))]) (h := [(0, .row (.ints .u8 l))]) (by refine ⟨?_, ?_⟩ <;> (repeat' (first | exact trivial | exact rfl | refine ⟨?_, ?_⟩)) <;> first | exact rfl | (simp; done) | skip)) ?_
  refine W_weaken (τ := St.of [(0, .c (.own 0 1 0 l.length)), (2, lv (.int .i64 ((0 : Nat) : Int))), (3, lv (.int .i64 ((l.length : Int) - 1 - (0 : Nat))))] [(0, .row (.ints .u8 (revA l 0)))]) ?_ ?_
  · rw [ez]; simp only [Int.natCast_zero, Int.sub_zero]; exact ⟨fun _ => .inl rfl, fun _ => .inl rfl⟩
  refine W_loop (ι := {i : Nat // 2 * i ≤ l.length + 1}) (fun i => St.of [(0, .c (.own 0 1 0 l.length)), (2, lv (.int .i64 (i.1 : Int))), (3, lv (.int .i64 ((l.length : Int) - 1 - i.1)))] [(0, .row (.ints .u8 (revA l i.1)))]) (fun i => l.length + 1 - 2 * i.1) (fun i => ?_) ⟨0, by omega⟩
  obtain ⟨i, hi⟩ := i
  dsimp only
  have hL := revA_len l i
  repeat (first | refine stp ?_ | refine N_block_pass rfl ?_ | refine sp1 ?_ | refine sg1 ?_ | refine WL_nil ?_)
  refine W_cond rfl (by simp) (fun hc => ?_) (fun hc => ?_)
  · have h2 : 2 * i + 1 < l.length := by simp at hc; omega
    repeat (first | refine stp ?_ | refine N_block_pass rfl ?_ | refine sp1 ?_ | refine sg1 ?_ | refine WL_nil ?_)
    refine W_drawX [2, 3] (by kernel_rfl) (by kernel_rfl) (by rw [hn]; rfl) ?_
    repeat (first | refine DrawX_op rfl rfl rfl (ops_pure true rfl rfl (by first | trivial | (simp; done) | (simp; omega) | (simp at *; done) | (simp at *; omega))) ?_ | refine DrawX_op rfl rfl rfl (ops_pureG true rfl rfl rfl (by intro hG; first | trivial | (simp; done) | (simp; omega) | (simp at *; done) | (simp at *; omega))) ?_ | refine DrawX_fr rfl rfl rfl (fun _ => ops_pure true rfl rfl (by first | trivial | (simp; done) | (simp; omega) | (simp at *; done) | (simp at *; omega))) ?_ | refine DrawX_nil ?_)
    refine DrawX_storeI rfl rfl rfl rfl (by first | trivial | (simp; done) | (simp; omega) | (simp at *; done) | (simp at *; omega)) rfl (by rw [cellsOf5]) (by first | (simp; done) | (simp; omega) | (simp at *; omega)) ?_
    repeat (first | refine DrawX_op rfl rfl rfl (ops_pure true rfl rfl (by first | trivial | (simp; done) | (simp; omega) | (simp at *; done) | (simp at *; omega))) ?_ | refine DrawX_op rfl rfl rfl (ops_pureG true rfl rfl rfl (by intro hG; first | trivial | (simp; done) | (simp; omega) | (simp at *; done) | (simp at *; omega))) ?_ | refine DrawX_fr rfl rfl rfl (fun _ => ops_pure true rfl rfl (by first | trivial | (simp; done) | (simp; omega) | (simp at *; done) | (simp at *; omega))) ?_ | refine DrawX_nil ?_)
    refine DrawX_storeI rfl rfl rfl rfl (by first | trivial | (simp; done) | (simp; omega) | (simp at *; done) | (simp at *; omega)) rfl (by rw [cellsOf5]) (by first | (simp; done) | (simp; omega) | (simp at *; omega)) ?_
    repeat (first | refine DrawX_op rfl rfl rfl (ops_pure true rfl rfl (by first | trivial | (simp; done) | (simp; omega) | (simp at *; done) | (simp at *; omega))) ?_ | refine DrawX_op rfl rfl rfl (ops_pureG true rfl rfl rfl (by intro hG; first | trivial | (simp; done) | (simp; omega) | (simp at *; done) | (simp at *; omega))) ?_ | refine DrawX_fr rfl rfl rfl (fun _ => ops_pure true rfl rfl (by first | trivial | (simp; done) | (simp; omega) | (simp at *; done) | (simp at *; omega))) ?_ | refine DrawX_nil ?_)
    repeat (first | refine stp ?_ | refine N_block_pass rfl ?_ | refine sp1 ?_ | refine sg1 ?_ | refine WL_nil ?_)
    have e1 : ((l.length : Int) - 1 - i).toNat = l.length - 1 - i := by omega
    have g1 : (revA l i).getD (0 + ((l.length : Int) - 1 - i).toNat) 0 = l.getD (l.length - 1 - i) 0 := by
      rw [e1, Nat.zero_add, revA_get l i _ (by omega), if_neg (by omega)]
    have g2 : (revA l i).getD (0 + (i : Int).toNat) 0 = l.getD i 0 := by
      rw [Int.toNat_natCast, Nat.zero_add, revA_get l i _ (by omega), if_neg (by omega)]
    rw [g1, g2]
    refine N_round ⟨i + 1, by omega⟩ (by dsimp only; omega) (St.le_of ⟨⟨rfl, rfl, ?_⟩, ?_⟩)
    · show lv (.int .i64 ((l.length : Int) - 1 - i - 1)) = lv (.int .i64 ((l.length : Int) - 1 - (i + 1 : Nat)))
      have : (l.length : Int) - 1 - i - 1 = (l.length : Int) - 1 - (i + 1 : Nat) := by omega
      rw [this]
    · show Blk.row (.ints .u8 (((revA l i).set (0 + (i : Int).toNat) (l.getD (l.length - 1 - i) 0)).set (0 + ((l.length : Int) - 1 - i).toNat) (l.getD i 0))) = Blk.row (.ints .u8 (revA l (i + 1)))
      rw [e1, Int.toNat_natCast, Nat.zero_add, Nat.zero_add, revA_set l i h2]
  · have h2 : l.length ≤ 2 * i + 1 := by simp at hc; omega
    repeat (first | refine stp ?_ | refine N_block_pass rfl ?_ | refine sp1 ?_ | refine sg1 ?_ | refine WL_nil ?_)
    refine N_endN [] rfl trivial ⟨rfl, ?_, trivial, rfl⟩ hb rfl (by simp [ordL])
    exact congrArg (fun l => Blk.row (.ints .u8 l)) (revA_all l i h2)
end Go.Proofs.YthalijmfhllgbaaDoor

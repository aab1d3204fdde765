/-
  Chapter 02: what stands ahead of contents, and contents. The conditions: rows of at most a million bytes.
-/
import Derived.Test.YthalijmfhllgbaaDoorW5
import Derived.Test.YthalijmfhllgbaaDoorSxX
namespace Go.Proofs.YthalijmfhllgbaaDoor
set_option linter.unusedSimpArgs false
set_option linter.unusedVariables false
open Go.Sx

set_option maxRecDepth 10000

def dig (n : Int) : Int := if n < 10 then 48 + n else 87 + n
theorem digit_ok (n : Int) (h : 0 ≤ n ∧ n < 16) : Ct Tryd.prog 55 [lv (.int .u8 n)] [] (lv (.int .u8 (dig n))) [] [] := by
  refine Ct_intro Tryd.func55 rfl rfl rfl rfl rfl (fun E hn hb => ?_)
  repeat (first | refine stp ?_ | refine N_block_pass rfl ?_ | refine sp1 ?_ | refine sg1 ?_ | refine WL_nil ?_)
  refine W_cond rfl (by simp) (fun hc => ?_) (fun hc => ?_)
  · have h1 : n < 10 := by simpa using hc
    repeat (first | refine stp ?_ | refine N_block_pass rfl ?_ | refine sp1 ?_ | refine sg1 ?_ | refine WL_nil ?_)
    refine rt2 [] ?_ ?_
    · simp only [dig, h1, if_true]; rfl
    · trivial
  · have h1 : ¬ n < 10 := by simpa using hc
    have e : 97 + n - 10 = 87 + n := by omega
    repeat (first | refine stp ?_ | refine N_block_pass rfl ?_ | refine sp1 ?_ | refine sg1 ?_ | refine WL_nil ?_)
    refine rt2 [] ?_ ?_
    · simp only [dig, h1, if_false, e]; rfl
    · trivial

def hexL (l : List Int) : List Int := l.flatMap fun c => [dig (c / 16), dig (c % 16)]
theorem hexL_len (l : List Int) : (hexL l).length = 2 * l.length := by
  induction l with
  | nil => rfl
  | cons x l ih => simp only [hexL, List.flatMap_cons] at *; simp [ih]; omega
theorem and15 (n : Int) (h : 0 ≤ n ∧ n < 256) : IntKind.u8.wrap (BitVec.ofInt IntKind.u8.bits n &&& BitVec.ofInt IntKind.u8.bits 15).toNat = n % 16 := by
  obtain ⟨m, rfl⟩ : ∃ m : Nat, n = m := ⟨n.toNat, by omega⟩
  have key : ∀ m : Fin 256, IntKind.u8.wrap (BitVec.ofInt IntKind.u8.bits ((m.val : Nat) : Int) &&& BitVec.ofInt IntKind.u8.bits 15).toNat = ((m.val : Nat) : Int) % 16 := by decide
  exact key ⟨m, by omega⟩

theorem hex_ok (l : List Int) (hl : l.length ≤ 100000) (hw : WfB l) : Ct Tryd.prog 28 [B8 l] [] (lv (.string (strOfNums (hexL l)))) [] [] := by
  refine Ct_intro Tryd.func28 rfl rfl rfl rfl rfl (fun E hn hb => ?_)
  repeat (first | refine stp ?_ | refine N_block_pass rfl ?_ | refine sp1 ?_ | refine sg1 ?_ | refine WL_nil ?_)
  refine s_makeI (by_ := 1) rfl rfl rfl (by rw [hn]; rfl) (elt_mk Tryd.underlying28 rfl rfl) rfl rfl rfl (by first | trivial | (simp; done) | (simp; omega) | (simp at *; done) | (simp at *; omega)) 0 (by first | rfl | (simp; done) | omega) (by first | (simp; done) | omega | (simp at *; omega)) ?_
  repeat (first | refine stp ?_ | refine N_block_pass rfl ?_ | refine sp1 ?_ | refine sg1 ?_ | refine WL_nil ?_)
  refine W_weaken (St.le_of (l := [(3, .c (.own 73 1 0 0)), (10, B8 l), (11, lv (.int .i64 (l.length : Int))), (12, lv (.int .i64 0))]) (h := [(73, .row (.ints .u8 []))]) (by refine ⟨?_, ?_⟩ <;> (repeat' (first | exact trivial | exact rfl | refine ⟨?_, ?_⟩)) <;> first | exact rfl | (simp; done) | skip)) ?_
  refine W_loop (ι := {i : Nat // i ≤ l.length}) (fun i => St.of [(3, .c (.own 73 1 0 (hexL (l.take i.1)).length)), (10, B8 l), (11, lv (.int .i64 (l.length : Int))), (12, lv (.int .i64 (i.1 : Int)))] [(73, .row (.ints .u8 (hexL (l.take i.1))))]) (fun i => l.length - i.1) (fun i => ?_) ⟨0, by omega⟩
  obtain ⟨i, hi⟩ := i
  dsimp only
  have hhl := hexL_len (l.take i)
  have htl : (l.take i).length ≤ l.length := by simp; omega
  repeat (first | refine stp ?_ | refine N_block_pass rfl ?_ | refine sp1 ?_ | refine sg1 ?_ | refine WL_nil ?_)
  refine W_cond rfl (by simp) (fun hc => ?_) (fun hc => ?_)
  · have hi8 : i < l.length := by simp at hc; omega
    have hg : l.getD (i : Int).toNat 0 = l[i] := by simp [hi8]
    have hx := hw l[i] (List.getElem_mem hi8)
    have e4 : l[i] / 2 ^ min (Int.toNat 4) IntKind.u8.bits = l[i] / 16 := by simp [IntKind.bits]
    repeat (first | refine stp ?_ | refine N_block_pass rfl ?_ | refine sp1 ?_ | refine sg1 ?_ | refine WL_nil ?_)
    rw [hg]
    repeat (first | refine stp ?_ | refine N_block_pass rfl ?_ | refine sp1 ?_ | refine sg1 ?_ | refine WL_nil ?_)
    rw [e4]
    refine s_call0 (digit_ok (l[i] / 16) (by omega)) rfl rfl rfl (by rw [hn]; rfl) rfl rfl (by first | trivial | (simp; done) | (simp; omega) | (simp at *; done) | (simp at *; omega)) rfl rfl rfl ?_
    repeat (first | refine stp ?_ | refine N_block_pass rfl ?_ | refine sp1 ?_ | refine sg1 ?_ | refine WL_nil ?_)
    rw [and15 _ hx]
    refine s_call0 (digit_ok (l[i] % 16) (by omega)) rfl rfl rfl (by rw [hn]; rfl) rfl rfl (by first | trivial | (simp; done) | (simp; omega) | (simp at *; done) | (simp at *; omega)) rfl rfl rfl ?_
    refine s_litI rfl rfl rfl (by rw [hn]; rfl) (elt_mk Tryd.underlying28 rfl rfl) (zok5) (by first | trivial | (simp; done) | (simp; omega) | (simp at *; done) | (simp at *; omega)) ⟨by decide, rfl⟩ ?_
    refine s_appI rfl rfl rfl rfl rfl rfl (by rw [hn]; rfl) (elt_mk Tryd.underlying28 rfl rfl) rfl rfl rfl rfl (by first | trivial | (simp; done) | (simp; omega) | (simp at *; done) | (simp at *; omega)) (by first | rfl | (simp; done) | (simp; omega)) ⟨by first | (simp; done) | (simp; omega) | (simp at *; omega), by decide⟩ ?_
    repeat (first | refine stp ?_ | refine N_block_pass rfl ?_ | refine sp1 ?_ | refine sg1 ?_ | refine WL_nil ?_)
    have eT : l.take (i + 1) = l.take i ++ [l[i]] := by rw [List.take_add_one, List.getElem?_eq_getElem hi8]; rfl
    have eH : hexL (l.take (i + 1)) = hexL (l.take i) ++ [dig (l[i] / 16), dig (l[i] % 16)] := by rw [eT]; simp only [hexL, List.flatMap_append, List.flatMap_cons, List.flatMap_nil, List.append_nil]
    refine N_round ⟨i + 1, by omega⟩ (by dsimp only; omega) (St.le_of ⟨⟨?_, rfl, rfl, rfl⟩, ?_⟩)
    · show Av.c (.own 73 1 0 (hexL (l.take i) ++ [dig (l[i] / 16), dig (l[i] % 16)]).length) = Av.c (.own 73 1 0 (hexL (l.take (i + 1))).length)
      rw [eH]
    · show Blk.row (.ints .u8 (hexL (l.take i) ++ [dig (l[i] / 16), dig (l[i] % 16)])) = Blk.row (.ints .u8 (hexL (l.take (i + 1))))
      rw [eH]
  · have : i = l.length := by simp at hc; omega
    subst this
    repeat (first | refine stp ?_ | refine N_block_pass rfl ?_ | refine sp1 ?_ | refine sg1 ?_ | refine WL_nil ?_)
    refine WL_q (opq_of (opy_str rfl Tryd.underlying28 Tryd.underlying5 Tryd.underlying9 rfl (by first | trivial | (simp; done) | (simp; omega) | (simp at *; done) | (simp at *; omega))) rfl) (by rw [hn]; rfl) ?_
    repeat (first | refine stp ?_ | refine N_block_pass rfl ?_ | refine sp1 ?_ | refine sg1 ?_ | refine WL_nil ?_)
    refine rt2 [] ?_ ?_
    · have e : (hexL (l.take l.length)).take (hexL (l.take l.length)).length = hexL l := by rw [List.take_length, List.take_length]
      exact congrArg (fun l => lv (.string (strOfNums l))) e
    · trivial

end Go.Proofs.YthalijmfhllgbaaDoor

namespace Go.Proofs.YthalijmfhllgbaaDoor
set_option linter.unusedSimpArgs false
set_option linter.unusedVariables false
open Go.Sx

set_option maxRecDepth 10000

def hd0 (l : List Int) : Int := l.getD 0 0
end Go.Proofs.YthalijmfhllgbaaDoor

namespace Go.Proofs.YthalijmfhllgbaaDoor
set_option linter.unusedSimpArgs false
set_option linter.unusedVariables false
open Go.Sx

set_option maxRecDepth 10000

/-- The first i and the last i turned about. -/
def revA (l : List Int) (i : Nat) : List Int := (List.range l.length).map fun k => if k < i ∨ l.length ≤ k + i then l.getD (l.length - 1 - k) 0 else l.getD k 0
theorem revA_len (l : List Int) (i : Nat) : (revA l i).length = l.length := by simp [revA]
theorem revA_get (l : List Int) (i k : Nat) (h : k < l.length) : (revA l i).getD k 0 = if k < i ∨ l.length ≤ k + i then l.getD (l.length - 1 - k) 0 else l.getD k 0 := by
  simp [revA, h]
theorem revA_zero (l : List Int) : revA l 0 = l := by
  apply List.ext_getElem?
  intro k
  by_cases h : k < l.length
  · simp [revA, h]; intro; omega
  · simp [revA, h]
theorem revA_all (l : List Int) (i : Nat) (h : l.length ≤ 2 * i + 1) : revA l i = l.reverse := by
  apply List.ext_getElem?
  intro k
  by_cases hk : k < l.length
  · rw [List.getElem?_reverse hk]
    simp only [revA, List.getElem?_map, List.getElem?_range hk, Option.map_some]
    have h1 : l.length - 1 - k < l.length := by omega
    rw [List.getElem?_eq_getElem h1]
    split
    · simp [h1]
    · have : l.length - 1 - k = k := by omega
      simp [this, hk]
  · simp [revA, hk]
theorem revA_set (l : List Int) (i : Nat) (h : 2 * i + 1 < l.length) : ((revA l i).set i (l.getD (l.length - 1 - i) 0)).set (l.length - 1 - i) (l.getD i 0) = revA l (i + 1) := by
  apply List.ext_getElem?
  intro k
  by_cases hk : k < l.length
  · simp only [List.getElem?_set, revA, List.getElem?_map, List.getElem?_range hk, Option.map_some, List.length_set, List.length_map, List.length_range]
    by_cases h1 : l.length - 1 - i = k
    · subst h1
      have e : l.length - 1 - (l.length - 1 - i) = i := by omega
      rw [if_pos rfl, if_pos (by omega), e, if_pos (by omega)]
    · rw [if_neg h1]
      by_cases h2 : i = k
      · subst h2
        rw [if_pos rfl, if_pos (by omega), if_pos (by omega)]
      · rw [if_neg h2]
        congr 1
        by_cases h3 : k < i ∨ l.length ≤ k + i
        · rw [if_pos h3, if_pos (by omega)]
        · rw [if_neg h3, if_neg (by omega)]
  · simp [revA, hk]

theorem reverse_ok (l : List Int) (hl : l.length ≤ 1000000) : Ct Tryd.prog 32 [.c (.own 0 1 0 l.length)] [.row (.ints .u8 l)] (.tup []) [.row (.ints .u8 l.reverse)] [] := by
  refine Ct_intro Tryd.func32 rfl rfl rfl rfl rfl (fun E hn hb => ?_)
  repeat (first | refine stp ?_ | refine N_block_pass rfl ?_ | refine sp1 ?_ | refine sg1 ?_ | refine WL_nil ?_)
  have ez := revA_zero l
  refine W_weaken (St.le_of (l := [(0, .c (.own 0 1 0 l.length)), (2, lv (.int .i64 0)), (3, lv (.int .i64 ((l.length : Int) - 1)))]) (h := [(0, .row (.ints .u8 l))]) (by refine ⟨?_, ?_⟩ <;> (repeat' (first | exact trivial | exact rfl | refine ⟨?_, ?_⟩)) <;> first | exact rfl | (simp; done) | skip)) ?_
  refine W_weaken (τ := St.of [(0, .c (.own 0 1 0 l.length)), (2, lv (.int .i64 ((0 : Nat) : Int))), (3, lv (.int .i64 ((l.length : Int) - 1 - (0 : Nat))))] [(0, .row (.ints .u8 (revA l 0)))]) ?_ ?_
  · rw [ez]; simp only [Int.natCast_zero, Int.sub_zero]; exact ⟨fun _ => .inl rfl, fun _ => .inl rfl⟩
  refine W_loop (ι := {i : Nat // 2 * i ≤ l.length + 1}) (fun i => St.of [(0, .c (.own 0 1 0 l.length)), (2, lv (.int .i64 (i.1 : Int))), (3, lv (.int .i64 ((l.length : Int) - 1 - i.1)))] [(0, .row (.ints .u8 (revA l i.1)))]) (fun i => l.length + 1 - 2 * i.1) (fun i => ?_) ⟨0, by omega⟩
  obtain ⟨i, hi⟩ := i
  dsimp only
  have hL := revA_len l i
  repeat (first | refine stp ?_ | refine N_block_pass rfl ?_ | refine sp1 ?_ | refine sg1 ?_ | refine WL_nil ?_)
  refine W_cond rfl (by simp) (fun hc => ?_) (fun hc => ?_)
  · have h2 : 2 * i + 1 < l.length := by simp at hc; omega
    repeat (first | refine stp ?_ | refine N_block_pass rfl ?_ | refine sp1 ?_ | refine sg1 ?_ | refine WL_nil ?_)
    refine W_drawX [2, 3] (by kernel_rfl) (by kernel_rfl) (by rw [hn]; rfl) ?_
    repeat (first | refine DrawX_op rfl rfl rfl (ops_pure true rfl rfl (by first | trivial | (simp; done) | (simp; omega) | (simp at *; done) | (simp at *; omega))) ?_ | refine DrawX_op rfl rfl rfl (ops_pureG true rfl rfl rfl (by intro hG; first | trivial | (simp; done) | (simp; omega) | (simp at *; done) | (simp at *; omega))) ?_ | refine DrawX_fr rfl rfl rfl (fun _ => ops_pure true rfl rfl (by first | trivial | (simp; done) | (simp; omega) | (simp at *; done) | (simp at *; omega))) ?_ | refine DrawX_nil ?_)
    refine DrawX_storeI rfl rfl rfl rfl (by first | trivial | (simp; done) | (simp; omega) | (simp at *; done) | (simp at *; omega)) rfl (by rw [cellsOf5]) (by first | (simp; done) | (simp; omega) | (simp at *; omega)) ?_
    repeat (first | refine DrawX_op rfl rfl rfl (ops_pure true rfl rfl (by first | trivial | (simp; done) | (simp; omega) | (simp at *; done) | (simp at *; omega))) ?_ | refine DrawX_op rfl rfl rfl (ops_pureG true rfl rfl rfl (by intro hG; first | trivial | (simp; done) | (simp; omega) | (simp at *; done) | (simp at *; omega))) ?_ | refine DrawX_fr rfl rfl rfl (fun _ => ops_pure true rfl rfl (by first | trivial | (simp; done) | (simp; omega) | (simp at *; done) | (simp at *; omega))) ?_ | refine DrawX_nil ?_)
    refine DrawX_storeI rfl rfl rfl rfl (by first | trivial | (simp; done) | (simp; omega) | (simp at *; done) | (simp at *; omega)) rfl (by rw [cellsOf5]) (by first | (simp; done) | (simp; omega) | (simp at *; omega)) ?_
    repeat (first | refine DrawX_op rfl rfl rfl (ops_pure true rfl rfl (by first | trivial | (simp; done) | (simp; omega) | (simp at *; done) | (simp at *; omega))) ?_ | refine DrawX_op rfl rfl rfl (ops_pureG true rfl rfl rfl (by intro hG; first | trivial | (simp; done) | (simp; omega) | (simp at *; done) | (simp at *; omega))) ?_ | refine DrawX_fr rfl rfl rfl (fun _ => ops_pure true rfl rfl (by first | trivial | (simp; done) | (simp; omega) | (simp at *; done) | (simp at *; omega))) ?_ | refine DrawX_nil ?_)
    repeat (first | refine stp ?_ | refine N_block_pass rfl ?_ | refine sp1 ?_ | refine sg1 ?_ | refine WL_nil ?_)
    have e1 : ((l.length : Int) - 1 - i).toNat = l.length - 1 - i := by omega
    have g1 : (revA l i).getD (0 + ((l.length : Int) - 1 - i).toNat) 0 = l.getD (l.length - 1 - i) 0 := by
      rw [e1, Nat.zero_add, revA_get l i _ (by omega), if_neg (by omega)]
    have g2 : (revA l i).getD (0 + (i : Int).toNat) 0 = l.getD i 0 := by
      rw [Int.toNat_natCast, Nat.zero_add, revA_get l i _ (by omega), if_neg (by omega)]
    rw [g1, g2]
    refine N_round ⟨i + 1, by omega⟩ (by dsimp only; omega) (St.le_of ⟨⟨rfl, rfl, ?_⟩, ?_⟩)
    · show lv (.int .i64 ((l.length : Int) - 1 - i - 1)) = lv (.int .i64 ((l.length : Int) - 1 - (i + 1 : Nat)))
      have : (l.length : Int) - 1 - i - 1 = (l.length : Int) - 1 - (i + 1 : Nat) := by omega
      rw [this]
    · show Blk.row (.ints .u8 (((revA l i).set (0 + (i : Int).toNat) (l.getD (l.length - 1 - i) 0)).set (0 + ((l.length : Int) - 1 - i).toNat) (l.getD i 0))) = Blk.row (.ints .u8 (revA l (i + 1)))
      rw [e1, Int.toNat_natCast, Nat.zero_add, Nat.zero_add, revA_set l i h2]
  · have h2 : l.length ≤ 2 * i + 1 := by simp at hc; omega
    repeat (first | refine stp ?_ | refine N_block_pass rfl ?_ | refine sp1 ?_ | refine sg1 ?_ | refine WL_nil ?_)
    refine N_endN [] rfl trivial ⟨rfl, ?_, trivial, rfl⟩ hb rfl (by simp [ordL])
    exact congrArg (fun l => Blk.row (.ints .u8 l)) (revA_all l i h2)
end Go.Proofs.YthalijmfhllgbaaDoor

namespace Go.Proofs.YthalijmfhllgbaaDoor
set_option linter.unusedSimpArgs false
set_option linter.unusedVariables false
open Go.Sx

theorem trim_nz (l : List Int) : trimL l = [] ∨ ∃ x t, trimL l = x :: t ∧ x ≠ 0 := by
  unfold trimL
  induction l with
  | nil => exact .inl rfl
  | cons x l ih =>
    simp only [List.dropWhile_cons]
    split
    · exact ih
    · rename_i h
      exact .inr ⟨x, l, rfl, by simpa using h⟩
theorem trim_idem (l : List Int) : trimL (trimL l) = trimL l := by
  rcases trim_nz l with h | ⟨x, t, h, hx⟩
  · rw [h]; rfl
  · rw [h]; simp [trimL, hx]
theorem made_idem (b : Bool) (l : List Int) : madeB (madeB b l) (trimL l) = madeB b l := by
  simp only [madeB, trim_idem]
  cases b
  · rfl
  · cases decide (0 < ((trimL l).length : Int)) <;> rfl
end Go.Proofs.YthalijmfhllgbaaDoor

namespace Go.Proofs.YthalijmfhllgbaaDoor
set_option linter.unusedSimpArgs false
set_option linter.unusedVariables false
open Go.Sx

set_option maxRecDepth 10000

/-- A row's value, to the base 256, behind c. -/
def valA : Int → List Int → Int
  | c, [] => c
  | c, x :: l => valA (256 * c + x) l
theorem wf_tail {x : Int} {l : List Int} (h : WfB (x :: l)) : WfB l := fun y hy => h y (List.mem_cons_of_mem _ hy)
theorem val_nonneg : ∀ (l : List Int) (c : Int), 0 ≤ c → WfB l → c ≤ valA c l
  | [], c, _, _ => Int.le_refl _
  | x :: l, c, hc, hw => by
    have hx := hw x (List.mem_cons_self ..)
    have := val_nonneg l (256 * c + x) (by omega) (wf_tail hw)
    simp only [valA]
    omega
theorem val_trim : ∀ l : List Int, valA 0 (trimL l) = valA 0 l
  | [] => rfl
  | x :: l => by
    by_cases hx : x = 0
    · subst hx
      have e1 : trimL (0 :: l) = trimL l := by simp [trimL]
      rw [e1, val_trim l]; rfl
    · have e1 : trimL (x :: l) = x :: l := by simp [trimL, hx]
      rw [e1]
theorem val_bound : ∀ (l : List Int) (c : Int), WfB l → valA c l < (c + 1) * 256 ^ l.length
  | [], c, _ => by simp [valA]; omega
  | x :: l, c, hw => by
    have hx := hw x (List.mem_cons_self ..)
    have := val_bound l (256 * c + x) (wf_tail hw)
    simp only [valA, List.length_cons]
    have h2 : (256 * c + x + 1) * 256 ^ l.length ≤ (256 * (c + 1)) * (256 : Int) ^ l.length := Int.mul_le_mul_of_nonneg_right (by omega) (Int.pow_nonneg (by decide))
    have h3 : (c + 1) * (256 : Int) ^ (l.length + 1) = (256 * (c + 1)) * 256 ^ l.length := by
      rw [Int.pow_succ, Int.mul_comm ((256 : Int) ^ l.length) 256, ← Int.mul_assoc, Int.mul_comm (c + 1) 256]
    omega
/-- The decimal digits of a value, as signs, the lowest first. -/
def decL (n : Nat) : List Int := if h : n = 0 then [] else (48 + ((n % 10 : Nat) : Int)) :: decL (n / 10)
termination_by n
decreasing_by omega
theorem decL_zero : decL 0 = [] := by rw [decL]; simp
theorem decL_pos {n : Nat} (h : n ≠ 0) : decL n = (48 + ((n % 10 : Nat) : Int)) :: decL (n / 10) := by rw [decL]; simp [h]
theorem decL_len : ∀ (k n : Nat), n < 10 ^ k → (decL n).length ≤ k
  | 0, n, h => by
    have : n = 0 := by simpa using h
    subst this; rw [decL_zero]; simp
  | k + 1, n, h => by
    by_cases h0 : n = 0
    · subst h0; rw [decL_zero]; simp
    · rw [decL_pos h0]
      have : n / 10 < 10 ^ k := by rw [Nat.pow_succ] at h; omega
      have := decL_len k (n / 10) this
      simp; omega
theorem dec_len (l : List Int) (hw : WfB l) : (decL (valA 0 l).toNat).length ≤ 3 * l.length := by
  apply decL_len
  have h := val_bound l 0 hw
  have h0 := val_nonneg l 0 (by decide) hw
  have h1 : (256 : Nat) ^ l.length ≤ 10 ^ (3 * l.length) := by rw [Nat.pow_mul]; exact Nat.pow_le_pow_left (by decide) _
  have h2 : ((256 ^ l.length : Nat) : Int) = (0 + 1) * 256 ^ l.length := by simp
  omega
/-- A number's text. -/
def textL (b : Bool) (l : List Int) : List Int := (cond b [45] []) ++ (if l = [] then [48] else (decL (valA 0 l).toNat).reverse)

end Go.Proofs.YthalijmfhllgbaaDoor

namespace Go.Proofs.YthalijmfhllgbaaDoor
set_option linter.unusedSimpArgs false
set_option linter.unusedVariables false
open Go.Sx

set_option maxRecDepth 10000

theorem wf_take {l : List Int} (h : WfB l) (n : Nat) : WfB (l.take n) := fun x hx => h x (List.mem_of_mem_take hx)

end Go.Proofs.YthalijmfhllgbaaDoor

namespace Go.Proofs.YthalijmfhllgbaaDoor
set_option linter.unusedSimpArgs false
set_option linter.unusedVariables false
open Go.Sx

set_option maxRecDepth 10000

theorem val_app : ∀ (a b : List Int) (c : Int), valA c (a ++ b) = valA (valA c a) b
  | [], _, _ => rfl
  | x :: a, b, c => by simp only [List.cons_append, valA, val_app a b]
theorem val_take_le (l : List Int) (i : Nat) (hw : WfB l) : valA 0 (l.take i) ≤ valA 0 l := by
  have h0 := val_nonneg (l.take i) 0 (by decide) (fun x hx => hw x (List.mem_of_mem_take hx))
  have h := val_nonneg (l.drop i) (valA 0 (l.take i)) h0 (fun x hx => hw x (List.mem_of_mem_drop hx))
  rw [← val_app, List.take_append_drop] at h
  exact h
theorem pow_le (a b : Nat) (h : a ≤ b) : (256 : Int) ^ a ≤ 256 ^ b := by
  have h1 : (256 : Nat) ^ a ≤ 256 ^ b := Nat.pow_le_pow_right (by decide) h
  have h2 : ((256 ^ a : Nat) : Int) = 256 ^ a := by simp
  have h3 : ((256 ^ b : Nat) : Int) = 256 ^ b := by simp
  rw [← h2, ← h3]
  exact Int.ofNat_le.2 h1
theorem val_snoc (a : List Int) (x : Int) : valA 0 (a ++ [x]) = 256 * valA 0 a + x := by rw [val_app]; rfl

/-- Rows without noughts ahead are told by their values. -/
theorem val_inj : ∀ (n : Nat) (a b : List Int), a.length ≤ n → WfB a → WfB b → trimL a = a → trimL b = b → valA 0 a = valA 0 b → a = b := by
  have pos : ∀ (x : Int) (t : List Int), WfB (x :: t) → trimL (x :: t) = x :: t → 256 ^ t.length ≤ valA 0 (x :: t) := by
    intro x t hw ht
    have hx := hw x (List.mem_cons_self ..)
    have hx0 : x ≠ 0 := by
      rintro rfl
      have e1 : trimL (0 :: t) = trimL t := by simp [trimL]
      have : (trimL t).length ≤ t.length := (List.dropWhile_sublist _).length_le
      rw [← e1, ht] at this
      simp at this
      omega
    have key : ∀ (t : List Int) (c : Int), 0 ≤ c → WfB t → c * 256 ^ t.length ≤ valA c t := by
      intro t
      induction t with
      | nil => intro c _ _; simp [valA]
      | cons y t ih =>
        intro c hc hw
        have hy := hw y (List.mem_cons_self ..)
        have := ih (256 * c + y) (by omega) (wf_tail hw)
        have h2 : (256 * c) * (256 : Int) ^ t.length ≤ (256 * c + y) * 256 ^ t.length := Int.mul_le_mul_of_nonneg_right (by omega) (Int.pow_nonneg (by decide))
        have h3 : c * (256 : Int) ^ (t.length + 1) = (256 * c) * 256 ^ t.length := by
          rw [Int.pow_succ, Int.mul_comm ((256 : Int) ^ t.length) 256, ← Int.mul_assoc, Int.mul_comm c 256]
        simp only [valA, List.length_cons]
        omega
    have h1 := key t (256 * 0 + x) (by omega) (wf_tail hw)
    have h2 : (1 : Int) * 256 ^ t.length ≤ (256 * 0 + x) * 256 ^ t.length := Int.mul_le_mul_of_nonneg_right (by omega) (Int.pow_nonneg (by decide))
    simp only [valA]
    omega
  have len : ∀ (a b : List Int), WfB a → WfB b → trimL a = a → trimL b = b → valA 0 a = valA 0 b → a.length ≤ b.length := by
    intro a b ha hb hta htb he
    cases a with
    | nil => simp
    | cons x t =>
      have h1 := pos x t ha hta
      have h2 := val_bound b 0 hb
      rcases Nat.lt_or_ge b.length (t.length + 1) with h | h
      · have h4 := pow_le b.length t.length (by omega)
        omega
      · exact h
  intro n a b _ ha hb hta htb he
  have hl1 := len a b ha hb hta htb he
  have hl2 := len b a hb ha htb hta he.symm
  clear hta htb len pos
  have key : ∀ (a b : List Int) (c d : Int), 0 ≤ c → 0 ≤ d → a.length = b.length → WfB a → WfB b → valA c a = valA d b → c = d ∧ a = b := by
    intro a
    induction a with
    | nil =>
      intro b c d _ _ hl _ _ he
      cases b with
      | nil => exact ⟨he, rfl⟩
      | cons y b => simp at hl
    | cons x a ih =>
      intro b c d hc hd hl ha hb he
      cases b with
      | nil => simp at hl
      | cons y b =>
        have hx := ha x (List.mem_cons_self ..)
        have hy := hb y (List.mem_cons_self ..)
        obtain ⟨h1, h2⟩ := ih b (256 * c + x) (256 * d + y) (by omega) (by omega) (by simpa using hl) (wf_tail ha) (wf_tail hb) he
        have : c = d := by omega
        have : x = y := by omega
        subst h2
        exact ⟨by omega, by rw [this]⟩
  exact (key a b 0 0 (by decide) (by decide) (by omega) ha hb he).2

theorem pat_wf (m : Int) : WfB (patL m) := by
  intro x hx
  obtain ⟨i, _, rfl⟩ := List.mem_map.1 hx
  constructor
  · exact Int.emod_nonneg _ (by decide)
  · exact Int.emod_lt_of_pos _ (by decide)
theorem pat_val (m : Int) (h0 : 0 ≤ m) (h1 : m < 18446744073709551616) : valA 0 (patL m) = m := by
  have e : patL m = [m / 72057594037927936 % 256, m / 281474976710656 % 256, m / 1099511627776 % 256, m / 4294967296 % 256, m / 16777216 % 256, m / 65536 % 256, m / 256 % 256, m / 1 % 256] := rfl
  rw [e]
  simp only [valA]
  omega

/-- The document's digits of a size. -/
def digL (n : Nat) : List Int := if h : n = 0 then [] else digL (n / 256) ++ [((n % 256 : Nat) : Int)]
termination_by n
decreasing_by omega
theorem dig_zero : digL 0 = [] := by rw [digL]; simp
theorem dig_pos {n : Nat} (h : n ≠ 0) : digL n = digL (n / 256) ++ [((n % 256 : Nat) : Int)] := by rw [digL]; simp [h]
theorem dig_spec : ∀ (k n : Nat), n ≤ k → WfB (digL n) ∧ trimL (digL n) = digL n ∧ valA 0 (digL n) = n
  | 0, n, h => by
    have : n = 0 := by omega
    subst this
    rw [dig_zero]
    exact ⟨fun x hx => (by cases hx), rfl, rfl⟩
  | k + 1, n, h => by
    by_cases h0 : n = 0
    · subst h0
      rw [dig_zero]
      exact ⟨fun x hx => (by cases hx), rfl, rfl⟩
    · obtain ⟨h1, h2, h3⟩ := dig_spec k (n / 256) (by omega)
      rw [dig_pos h0]
      refine ⟨?_, ?_, ?_⟩
      · intro x hx
        rcases List.mem_append.1 hx with hx | hx
        · exact h1 x hx
        · simp at hx; subst hx; omega
      · by_cases h4 : n / 256 = 0
        · rw [h4, dig_zero]
          have : ¬ ((n % 256 : Nat) : Int) = 0 := by omega
          simp only [List.nil_append, trimL, List.dropWhile_cons, beq_iff_eq, this]
          simp
        · cases hd : digL (n / 256) with
          | nil => rw [hd] at h3; simp [valA] at h3; omega
          | cons x t =>
            rw [hd] at h2
            have hx0 : x ≠ 0 := by
              rintro rfl
              have e1 : trimL (0 :: t) = trimL t := by simp [trimL]
              have : (trimL t).length ≤ t.length := (List.dropWhile_sublist _).length_le
              rw [← e1, h2] at this
              simp at this
              omega
            simp [trimL, hx0]
      · rw [val_snoc, h3]; omega

end Go.Proofs.YthalijmfhllgbaaDoor

namespace Go.Proofs.YthalijmfhllgbaaDoor
set_option linter.unusedSimpArgs false
set_option linter.unusedVariables false
open Go.Sx

set_option maxRecDepth 10000

/-- The number of a tag in digits: what it is, where the cursor stands, the error; so many more rounds may be. -/
def numP (b : List Int) : Nat → Nat → Int → Int × Nat × Int
  | 0, p, _ => if p < b.length then (0, p + 1, 4) else (0, p, 3)
  | k + 1, p, n =>
    if p < b.length then
      if k = 2 ∧ b.getD p 0 = 128 then (0, p + 1, 4)
      else if b.getD p 0 < 128 then
        if 128 * n + b.getD p 0 % 128 < 31 then (0, p + 1, 4) else (128 * n + b.getD p 0 % 128, p + 1, 0)
      else numP b k (p + 1) (128 * n + b.getD p 0 % 128)
    else (0, p, 3)
/-- A tag. -/
abbrev TagP : Type := Int × Int × Bool
/-- With an error the cursor stays. -/
def keepP {α : Type} (z : α) (p : Nat) (r : α × Nat × Int) : α × Nat × Int := if r.2.2 = 0 then r else (z, p, r.2.2)
/-- A length of n bytes. -/
def longP (b : List Int) (p n : Nat) : Int × Nat × Int :=
  if b.length < p + n then (0, p, 3)
  else if b.getD p 0 = 0 ∨ valA 0 ((b.drop p).take n) < 128 then (0, p + n, 5)
  else if 16777216 < valA 0 ((b.drop p).take n) then (0, p + n, 2)
  else (valA 0 ((b.drop p).take n), p + n, 0)
def rawL (b : List Int) (p : Nat) : Int × Nat × Int :=
  if p < b.length then
    if b.getD p 0 < 128 then (b.getD p 0, p + 1, 0)
    else if b.getD p 0 = 128 ∨ 132 < b.getD p 0 then (0, p + 1, 5)
    else longP b (p + 1) (b.getD p 0 % 128).toNat
  else (0, p, 3)
/-- The length at a place, the place behind it, the error. -/
def lenP (b : List Int) (p : Nat) : Int × Nat × Int := keepP 0 p (rawL b p)
structure NS where
  i : Nat
  p : Nat
  n : Int
def NS.ok (l : List Int) (p : Nat) (s : NS) : Prop := s.i ≤ 3 ∧ s.p ≤ l.length ∧ numP l (3 - s.i) s.p s.n = numP l 3 p 0 ∧ 0 ≤ s.n ∧ (s.i = 0 ∧ s.n < 1 ∨ s.i = 1 ∧ s.n < 128 ∨ s.i = 2 ∧ s.n < 16384 ∨ s.i = 3 ∧ s.n < 2097152)

end Go.Proofs.YthalijmfhllgbaaDoor

namespace Go.Proofs.YthalijmfhllgbaaDoor
set_option linter.unusedSimpArgs false
set_option linter.unusedVariables false
open Go.Sx

set_option maxRecDepth 10000

/-! What a reader of a tag tells is kept. -/
abbrev tagA (t : TagP) : Av := .agg [.lf (.v (.int .i64 t.1)), .lf (.v (.int .i64 t.2.1)), .lf (.v (.bool t.2.2))]
end Go.Proofs.YthalijmfhllgbaaDoor

namespace Go.Proofs.YthalijmfhllgbaaDoor
set_option linter.unusedSimpArgs false
set_option linter.unusedVariables false
open Go.Sx

set_option maxRecDepth 10000

/-! Contents. -/
abbrev tagB (t : TagP) : Blk := .cells [.lf (.v (.int .i64 t.1)), .lf (.v (.int .i64 t.2.1)), .lf (.v (.bool t.2.2))]
end Go.Proofs.YthalijmfhllgbaaDoor

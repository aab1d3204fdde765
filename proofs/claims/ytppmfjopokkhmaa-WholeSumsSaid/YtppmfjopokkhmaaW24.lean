/-
  Chapter 03: sums of sizes, the program's way. The conditions: rows of at most a hundred thousand bytes.
-/
import Derived.Test.YtppmfjopokkhmaaW19
import Derived.Test.YtppmfjopokkhmaaSxX
namespace Go.Proofs.Ytppmfjopokkhmaa
set_option linter.unusedSimpArgs false
set_option linter.unusedVariables false
open Go.Sx

set_option maxRecDepth 10000

theorem pad_len (l : List Int) (n : Nat) (h : l.length ≤ n) : (padL l n).length = n := by simp [padL]; omega
theorem pad_wf {l : List Int} (n : Nat) (h : WfB l) : WfB (padL l n) := by
  intro x hx
  rcases List.mem_append.1 hx with hx | hx
  · obtain ⟨_, rfl⟩ := List.mem_replicate.1 hx; omega
  · exact h x hx
theorem pad_val (l : List Int) (n : Nat) : valA 0 (padL l n) = valA 0 l := by
  unfold padL
  generalize n - l.length = k
  induction k with
  | zero => rfl
  | succ k ih => rw [List.replicate_succ]; exact ih

theorem wide_ok (l : List Int) (n : Nat) (hnl : l.length ≤ n) (hl : n ≤ 100000) : Ct Try.prog 103 [B8 l, lv (.int .i64 (n : Int))] [] (.c (.own 0 1 0 n)) [] [.row (.ints .u8 (padL l n))] := by
  refine Ct_intro Try.func103 rfl rfl rfl rfl rfl (fun E hn hb => ?_)
  repeat (first | refine W_seq ?_ | refine W_region ?_ | refine W_block ?_ | refine W_skip ?_ | refine W_ret ?_ | refine W_exit ?_ | refine WL_nil ?_ | refine N_then ?_ | refine N_then_exit ?_ | refine N_then_ret ?_ | refine N_block ?_ | refine N_block_ret ?_ | refine N_block_exit ?_ | refine N_block_pass rfl ?_ | refine sp true rfl rfl (by rw [hn]; rfl) (by first | trivial | (simp; done) | (simp; omega) | (simp at *; done) | (simp at *; omega)) ?_ | refine sg true rfl rfl rfl (by rw [hn]; rfl) (by intro hG; first | trivial | (simp; done) | (simp; omega) | (simp at *; done) | (simp at *; omega)) ?_)
  refine s_makeI (by_ := 1) rfl rfl rfl (by rw [hn]; rfl) (elt_mk Try.underlying22 rfl rfl) rfl rfl rfl (by first | trivial | (simp; done) | (simp; omega) | (simp at *; done) | (simp at *; omega)) n (by first | rfl | (simp; done) | omega) (by first | (simp; done) | omega | (simp at *; omega)) ?_
  repeat (first | refine W_seq ?_ | refine W_region ?_ | refine W_block ?_ | refine W_skip ?_ | refine W_ret ?_ | refine W_exit ?_ | refine WL_nil ?_ | refine N_then ?_ | refine N_then_exit ?_ | refine N_then_ret ?_ | refine N_block ?_ | refine N_block_ret ?_ | refine N_block_exit ?_ | refine N_block_pass rfl ?_ | refine sp true rfl rfl (by rw [hn]; rfl) (by first | trivial | (simp; done) | (simp; omega) | (simp at *; done) | (simp at *; omega)) ?_ | refine sg true rfl rfl rfl (by rw [hn]; rfl) (by intro hG; first | trivial | (simp; done) | (simp; omega) | (simp at *; done) | (simp at *; omega)) ?_)
  refine s_copyI rfl rfl rfl rfl rfl rfl (by rw [hn]; rfl) (elt_mk Try.underlying22 rfl rfl) rfl rfl rfl (by first | trivial | (simp; done) | (simp; omega) | (simp at *; done) | (simp at *; omega)) (by first | (simp; done) | (simp; omega) | (simp at *; omega)) ?_
  repeat (first | refine W_seq ?_ | refine W_region ?_ | refine W_block ?_ | refine W_skip ?_ | refine W_ret ?_ | refine W_exit ?_ | refine WL_nil ?_ | refine N_then ?_ | refine N_then_exit ?_ | refine N_then_ret ?_ | refine N_block ?_ | refine N_block_ret ?_ | refine N_block_exit ?_ | refine N_block_pass rfl ?_ | refine sp true rfl rfl (by rw [hn]; rfl) (by first | trivial | (simp; done) | (simp; omega) | (simp at *; done) | (simp at *; omega)) ?_ | refine sg true rfl rfl rfl (by rw [hn]; rfl) (by intro hG; first | trivial | (simp; done) | (simp; omega) | (simp at *; done) | (simp at *; omega)) ?_)
  refine N_retN [71] rfl (by first | trivial | (simp; done) | (simp; omega) | (simp at *; done) | (simp at *; omega)) ⟨?_, by first | trivial | exact ⟨rfl, rfl⟩, ?_, rfl⟩ hb rfl (by first | trivial | (simp; done))
  · rfl
  · have e1 : 0 + ((n : Int) - l.length).toNat * 1 = n - l.length := by omega
    have e2 : l.take (n - ((n : Int) - l.length).toNat) = l := List.take_of_length_le (by omega)
    have e3 : (List.replicate n (0 : Int)).take (n - l.length) ++ l ++ (List.replicate n (0 : Int)).drop (n - l.length + l.length) = padL l n := by
      rw [List.take_replicate, List.drop_replicate, padL]
      have h1 : min (n - l.length) n = n - l.length := by omega
      have h2 : n - (n - l.length + l.length) = 0 := by omega
      rw [h1, h2]; simp
    rw [e1, e2, e3]
    rfl

/-- Two rows added, from the right. -/
def addC : List Int → List Int → List Int × Int
  | x :: a, y :: b => ((x + y + (addC a b).2) % 256 :: (addC a b).1, (x + y + (addC a b).2) / 256)
  | _, _ => ([], 0)
theorem add_len : ∀ (a b : List Int), a.length = b.length → (addC a b).1.length = a.length
  | [], [], _ => rfl
  | x :: a, y :: b, h => by simp [addC, add_len a b (by simpa using h)]
  | [], _ :: _, h => by simp at h
  | _ :: _, [], h => by simp at h
theorem add_low : ∀ (a b : List Int), WfB a → WfB b → 0 ≤ (addC a b).2 ∧ (addC a b).2 ≤ 1
  | [], b, _, _ => by cases b <;> simp [addC]
  | x :: a, [], _, _ => by simp [addC]
  | x :: a, y :: b, ha, hb => by
    have hx := ha x (List.mem_cons_self ..)
    have hy := hb y (List.mem_cons_self ..)
    have := add_low a b (wf_tail ha) (wf_tail hb)
    simp only [addC]
    omega
theorem add_wf : ∀ (a b : List Int), WfB (addC a b).1
  | [], b => by cases b <;> (intro x hx; simp [addC] at hx)
  | x :: a, [] => by intro x hx; simp [addC] at hx
  | x :: a, y :: b => by
    intro z hz
    simp only [addC] at hz
    cases hz with
    | head => omega
    | tail _ hz => exact add_wf a b z hz
theorem add_val : ∀ (a b : List Int) (p q : Int), a.length = b.length → valA (p + q + (addC a b).2) (addC a b).1 = valA p a + valA q b
  | [], [], p, q, _ => by simp only [addC, valA]; omega
  | x :: a, y :: b, p, q, h => by
    have := add_val a b (256 * p + x) (256 * q + y) (by simpa using h)
    simp only [addC, valA]
    rw [← this]
    congr 1
    omega
  | [], _ :: _, _, _, h => by simp at h
  | _ :: _, [], _, _, h => by simp at h

theorem plus1_ok (x y : List Int) (n i : Nat) (hx : x.length = n) (hy : y.length = n) (hi : i < n) (hn' : n ≤ 100001) (hwx : WfB x) (hwy : WfB y) (c : Int) (hc : 0 ≤ c ∧ c ≤ 1) :
    Ct Try.prog 104 [lv (.int .i64 (i : Int)), .c (.ptr 0 0), .c (.ptr 1 0), .c (.ptr 2 0)] [.cells [.own 3 1 0 n], .cells [.own 4 1 0 n], .cells [.lf (.v (.int .i64 c))], .row (.ints .u8 x), .row (.ints .u8 y)] (.tup [])
      [.cells [.own 3 1 0 n], .cells [.own 4 1 0 n], .cells [.lf (.v (.int .i64 ((x.getD i 0 + y.getD i 0 + c) / 256)))], .row (.ints .u8 (x.set i ((x.getD i 0 + y.getD i 0 + c) % 256))), .row (.ints .u8 y)] [] := by
  have hgx : x.getD (0 + (i : Int).toNat) 0 = x[i]'(by omega) := by simp [show i < x.length by omega]
  have hgy : y.getD (0 + (i : Int).toNat) 0 = y[i]'(by omega) := by simp [show i < y.length by omega]
  have hbx := hwx x[i] (List.getElem_mem (by omega))
  have hby := hwy y[i] (List.getElem_mem (by omega))
  refine Ct_intro Try.func104 rfl rfl rfl rfl rfl (fun E hn hb => ?_)
  repeat (first | refine W_seq ?_ | refine W_region ?_ | refine W_block ?_ | refine W_skip ?_ | refine W_ret ?_ | refine W_exit ?_ | refine WL_nil ?_ | refine N_then ?_ | refine N_then_exit ?_ | refine N_then_ret ?_ | refine N_block ?_ | refine N_block_ret ?_ | refine N_block_exit ?_ | refine N_block_pass rfl ?_ | refine sp true rfl rfl (by rw [hn]; rfl) (by first | trivial | (simp; done) | (simp; omega) | (simp at *; done) | (simp at *; omega)) ?_ | refine sg true rfl rfl rfl (by rw [hn]; rfl) (by intro hG; first | trivial | (simp; done) | (simp; omega) | (simp at *; done) | (simp at *; omega)) ?_)
  refine W_drawW 14 (by kernel_rfl) (by kernel_rfl) (by kernel_rfl) (by rw [hn]; rfl) rfl rfl ?_
  repeat (first | refine DrawW_cons rfl (ops_pure true rfl rfl (by first | trivial | (simp; done) | (simp; omega) | (simp at *; done) | (simp at *; omega))) ?_ | refine DrawW_cons rfl (ops_pureG true rfl rfl rfl (by intro hG; first | trivial | (simp; done) | (simp; omega) | (simp at *; done) | (simp at *; omega))) ?_ | refine DrawW_nil ?_)
  rw [hgx, hgy]
  repeat (first | refine DrawW_cons rfl (ops_pure true rfl rfl (by first | trivial | (simp; done) | (simp; omega) | (simp at *; done) | (simp at *; omega))) ?_ | refine DrawW_cons rfl (ops_pureG true rfl rfl rfl (by intro hG; first | trivial | (simp; done) | (simp; omega) | (simp at *; done) | (simp at *; omega))) ?_ | refine DrawW_nil ?_)
  repeat (first | refine W_seq ?_ | refine W_region ?_ | refine W_block ?_ | refine W_skip ?_ | refine W_ret ?_ | refine W_exit ?_ | refine WL_nil ?_ | refine N_then ?_ | refine N_then_exit ?_ | refine N_then_ret ?_ | refine N_block ?_ | refine N_block_ret ?_ | refine N_block_exit ?_ | refine N_block_pass rfl ?_ | refine sp true rfl rfl (by rw [hn]; rfl) (by first | trivial | (simp; done) | (simp; omega) | (simp at *; done) | (simp at *; omega)) ?_ | refine sg true rfl rfl rfl (by rw [hn]; rfl) (by intro hG; first | trivial | (simp; done) | (simp; omega) | (simp at *; done) | (simp at *; omega)) ?_)
  refine sp false rfl rfl (by rw [hn]; rfl) (by first | trivial | (simp; done) | (simp; omega) | (simp at *; done) | (simp at *; omega)) ?_
  repeat (first | refine W_seq ?_ | refine W_region ?_ | refine W_block ?_ | refine W_skip ?_ | refine W_ret ?_ | refine W_exit ?_ | refine WL_nil ?_ | refine N_then ?_ | refine N_then_exit ?_ | refine N_then_ret ?_ | refine N_block ?_ | refine N_block_ret ?_ | refine N_block_exit ?_ | refine N_block_pass rfl ?_ | refine sp true rfl rfl (by rw [hn]; rfl) (by first | trivial | (simp; done) | (simp; omega) | (simp at *; done) | (simp at *; omega)) ?_ | refine sg true rfl rfl rfl (by rw [hn]; rfl) (by intro hG; first | trivial | (simp; done) | (simp; omega) | (simp at *; done) | (simp at *; omega)) ?_)
  refine s_storeI rfl rfl rfl rfl rfl (by first | trivial | (simp; done) | (simp; omega) | (simp at *; done) | (simp at *; omega)) rfl (by rw [cellsOf5]) (by first | (simp; done) | (simp; omega) | (simp at *; omega)) ?_
  repeat (first | refine W_seq ?_ | refine W_region ?_ | refine W_block ?_ | refine W_skip ?_ | refine W_ret ?_ | refine W_exit ?_ | refine WL_nil ?_ | refine N_then ?_ | refine N_then_exit ?_ | refine N_then_ret ?_ | refine N_block ?_ | refine N_block_ret ?_ | refine N_block_exit ?_ | refine N_block_pass rfl ?_ | refine sp true rfl rfl (by rw [hn]; rfl) (by first | trivial | (simp; done) | (simp; omega) | (simp at *; done) | (simp at *; omega)) ?_ | refine sg true rfl rfl rfl (by rw [hn]; rfl) (by intro hG; first | trivial | (simp; done) | (simp; omega) | (simp at *; done) | (simp at *; omega)) ?_)
  refine s_storeN rfl rfl rfl rfl rfl (by first | trivial | (simp; done) | (simp; omega) | (simp at *; done) | (simp at *; omega)) rfl rfl rfl (by rw [cellsOf3]; rfl) (by rw [info3]; rfl) rfl rfl ?_
  repeat (first | refine W_seq ?_ | refine W_region ?_ | refine W_block ?_ | refine W_skip ?_ | refine W_ret ?_ | refine W_exit ?_ | refine WL_nil ?_ | refine N_then ?_ | refine N_then_exit ?_ | refine N_then_ret ?_ | refine N_block ?_ | refine N_block_ret ?_ | refine N_block_exit ?_ | refine N_block_pass rfl ?_ | refine sp true rfl rfl (by rw [hn]; rfl) (by first | trivial | (simp; done) | (simp; omega) | (simp at *; done) | (simp at *; omega)) ?_ | refine sg true rfl rfl rfl (by rw [hn]; rfl) (by intro hG; first | trivial | (simp; done) | (simp; omega) | (simp at *; done) | (simp at *; omega)) ?_)
  have e8 : (x[i] + y[i] + c) / 2 ^ min (Int.toNat 8) IntKind.i64.bits = (x[i] + y[i] + c) / 256 := by
    have : min (Int.toNat 8) IntKind.i64.bits = 8 := by decide
    rw [this]; rfl
  have ex : x.getD i 0 = x[i] := by simp [show i < x.length by omega]
  have ey : y.getD i 0 = y[i] := by simp [show i < y.length by omega]
  rw [ex, ey]
  refine N_endN [] rfl trivial ⟨rfl, ⟨rfl, rfl, ?_, ?_, rfl⟩, trivial, rfl⟩ hb rfl (by simp [ordL])
  · show Blk.cells [.lf (.v (.int .i64 ((x[i] + y[i] + c) / 2 ^ min (Int.toNat 8) IntKind.i64.bits)))] = _
    rw [e8]; rfl
  · show Blk.row (.ints .u8 (x.set (0 + (i : Int).toNat) (IntKind.u8.wrap (x[i] + y[i] + c)))) = _
    rw [wrapE8, Nat.zero_add, Int.toNat_natCast]; rfl

end Go.Proofs.Ytppmfjopokkhmaa

/-
  Chapter 03: a number's text, the program's way. The conditions: rows of at most a hundred thousand bytes.
-/
import Derived.Test.YtppmfjopokkhmaaW11
import Derived.Test.YtppmfjopokkhmaaL1
namespace Go.Proofs.Ytppmfjopokkhmaa
set_option linter.unusedSimpArgs false
set_option linter.unusedVariables false
open Go.Sx

set_option maxRecDepth 10000

/-- A row's value, to the base 256, behind c. -/
def valA : Int → List Int → Int
  | c, [] => c
  | c, x :: l => valA (256 * c + x) l
theorem wf_tail {x : Int} {l : List Int} (h : WfB (x :: l)) : WfB l := fun y hy => h y (List.mem_cons_of_mem _ hy)
theorem val_nonneg : ∀ (l : List Int) (c : Int), 0 ≤ c → WfB l → c ≤ valA c l
  | [], c, _, _ => Int.le_refl _
  | x :: l, c, hc, hw => by
    have hx := hw x (List.mem_cons_self ..)
    have := val_nonneg l (256 * c + x) (by omega) (wf_tail hw)
    simp only [valA]
    omega
theorem val_ten : ∀ (l : List Int) (q c : Int), valA q (tenC c l).1 * 10 + (tenC c l).2 = valA (10 * q + c) l
  | [], q, c => by simp only [tenC, valA]; omega
  | x :: l, q, c => by
    simp only [tenC, valA]
    rw [val_ten l]
    congr 1
    omega
theorem ten_wf : ∀ (l : List Int) (c : Int), 0 ≤ c ∧ c < 10 → WfB l → WfB (tenC c l).1
  | [], _, _, _ => fun x hx => by cases hx
  | x :: l, c, hc, hw => by
    have hx := hw x (List.mem_cons_self ..)
    intro y hy
    simp only [tenC] at hy
    cases hy with
    | head => omega
    | tail _ hy => exact ten_wf l _ (by omega) (wf_tail hw) y hy
theorem val_trim : ∀ l : List Int, valA 0 (trimL l) = valA 0 l
  | [] => rfl
  | x :: l => by
    by_cases hx : x = 0
    · subst hx
      have e1 : trimL (0 :: l) = trimL l := by simp [trimL]
      rw [e1, val_trim l]; rfl
    · have e1 : trimL (x :: l) = x :: l := by simp [trimL, hx]
      rw [e1]
theorem val_bound : ∀ (l : List Int) (c : Int), WfB l → valA c l < (c + 1) * 256 ^ l.length
  | [], c, _ => by simp [valA]; omega
  | x :: l, c, hw => by
    have hx := hw x (List.mem_cons_self ..)
    have := val_bound l (256 * c + x) (wf_tail hw)
    simp only [valA, List.length_cons]
    have h2 : (256 * c + x + 1) * 256 ^ l.length ≤ (256 * (c + 1)) * (256 : Int) ^ l.length := Int.mul_le_mul_of_nonneg_right (by omega) (Int.pow_nonneg (by decide))
    have h3 : (c + 1) * (256 : Int) ^ (l.length + 1) = (256 * (c + 1)) * 256 ^ l.length := by
      rw [Int.pow_succ, Int.mul_comm ((256 : Int) ^ l.length) 256, ← Int.mul_assoc, Int.mul_comm (c + 1) 256]
    omega
/-- The decimal digits of a value, as signs, the lowest first. -/
def decL (n : Nat) : List Int := if h : n = 0 then [] else (48 + ((n % 10 : Nat) : Int)) :: decL (n / 10)
termination_by n
decreasing_by omega
theorem decL_zero : decL 0 = [] := by rw [decL]; simp
theorem decL_pos {n : Nat} (h : n ≠ 0) : decL n = (48 + ((n % 10 : Nat) : Int)) :: decL (n / 10) := by rw [decL]; simp [h]
theorem decL_len : ∀ (k n : Nat), n < 10 ^ k → (decL n).length ≤ k
  | 0, n, h => by
    have : n = 0 := by simpa using h
    subst this; rw [decL_zero]; simp
  | k + 1, n, h => by
    by_cases h0 : n = 0
    · subst h0; rw [decL_zero]; simp
    · rw [decL_pos h0]
      have : n / 10 < 10 ^ k := by rw [Nat.pow_succ] at h; omega
      have := decL_len k (n / 10) this
      simp; omega
theorem dec_len (l : List Int) (hw : WfB l) : (decL (valA 0 l).toNat).length ≤ 3 * l.length := by
  apply decL_len
  have h := val_bound l 0 hw
  have h0 := val_nonneg l 0 (by decide) hw
  have h1 : (256 : Nat) ^ l.length ≤ 10 ^ (3 * l.length) := by rw [Nat.pow_mul]; exact Nat.pow_le_pow_left (by decide) _
  have h2 : ((256 ^ l.length : Nat) : Int) = (0 + 1) * 256 ^ l.length := by simp
  omega
/-- A number's text. -/
def textL (b : Bool) (l : List Int) : List Int := (cond b [45] []) ++ (if l = [] then [48] else (decL (valA 0 l).toNat).reverse)

structure TextI (s : List Int) where
  p : List Int
  t : List Int
  out : List Int
  wf : WfB t
  tr : trimL t = t
  len : p.length + t.length = s.length
  ev : out ++ decL (valA 0 t).toNat = decL (valA 0 s).toNat

theorem made_own' (b : Bool) (l : List Int) (hl : l.length ≤ 1000000) : Ct Try.prog 65 [lv (.bool b), B8 l] [] (.agg [.lf (.v (.bool (madeB b l))), .own 0 1 0 (trimL l).length]) [] [.row (.ints .u8 (trimL l))] := made_own b l hl
theorem text_ok (b : Bool) (l : List Int) (hl : l.length ≤ 100000) (hw : WfB l) : Ct Try.prog 32 [numA b l] [] (lv (.string (strOfNums (textL (madeB b l) (trimL l))))) [] [] := by
  have ht := len_trim l
  have hws := wf_trim hw
  have htt := trim_idem l
  refine Ct_intro Try.func32 rfl rfl rfl rfl rfl (fun E hn hb => ?_)
  repeat (first | refine W_seq ?_ | refine W_region ?_ | refine W_block ?_ | refine W_skip ?_ | refine W_ret ?_ | refine W_exit ?_ | refine WL_nil ?_ | refine N_then ?_ | refine N_then_exit ?_ | refine N_then_ret ?_ | refine N_block ?_ | refine N_block_ret ?_ | refine N_block_exit ?_ | refine N_block_pass rfl ?_ | refine sp true rfl rfl (by rw [hn]; rfl) (by first | trivial | (simp; done) | (simp; omega) | (simp at *; done) | (simp at *; omega)) ?_ | refine sg true rfl rfl rfl (by rw [hn]; rfl) (by intro hG; first | trivial | (simp; done) | (simp; omega) | (simp at *; done) | (simp at *; omega)) ?_)
  refine s_boxN rfl rfl rfl (by rw [hn]; rfl) rfl (by first | trivial | (simp; done) | (simp; omega) | (simp at *; done) | (simp at *; omega)) rfl rfl ?_
  repeat (first | refine W_seq ?_ | refine W_region ?_ | refine W_block ?_ | refine W_skip ?_ | refine W_ret ?_ | refine W_exit ?_ | refine WL_nil ?_ | refine N_then ?_ | refine N_then_exit ?_ | refine N_then_ret ?_ | refine N_block ?_ | refine N_block_ret ?_ | refine N_block_exit ?_ | refine N_block_pass rfl ?_ | refine sp true rfl rfl (by rw [hn]; rfl) (by first | trivial | (simp; done) | (simp; omega) | (simp at *; done) | (simp at *; omega)) ?_ | refine sg true rfl rfl rfl (by rw [hn]; rfl) (by intro hG; first | trivial | (simp; done) | (simp; omega) | (simp at *; done) | (simp at *; omega)) ?_)
  refine s_call1 (made_own' b l (by omega)) rfl rfl rfl (by rw [hn]; rfl) rfl rfl (by first | trivial | (simp; done) | (simp; omega) | (simp at *; done) | (simp at *; omega)) rfl rfl rfl ?_
  refine s_storeN rfl rfl rfl rfl rfl (by first | trivial | (simp; done) | (simp; omega) | (simp at *; done) | (simp at *; omega)) rfl rfl rfl (by rw [cellsOf30]; rfl) (by rw [info30]; rfl) rfl rfl ?_
  repeat (first | refine W_seq ?_ | refine W_region ?_ | refine W_block ?_ | refine W_skip ?_ | refine W_ret ?_ | refine W_exit ?_ | refine WL_nil ?_ | refine N_then ?_ | refine N_then_exit ?_ | refine N_then_ret ?_ | refine N_block ?_ | refine N_block_ret ?_ | refine N_block_exit ?_ | refine N_block_pass rfl ?_ | refine sp true rfl rfl (by rw [hn]; rfl) (by first | trivial | (simp; done) | (simp; omega) | (simp at *; done) | (simp at *; omega)) ?_ | refine sg true rfl rfl rfl (by rw [hn]; rfl) (by intro hG; first | trivial | (simp; done) | (simp; omega) | (simp at *; done) | (simp at *; omega)) ?_)
  refine W_own_nil 3 67 1 (.ints .u8 []) rfl rfl (.inl rfl) ?_
  generalize hs : trimL l = s at *
  generalize hbe : madeB b l = be at *
  refine W_weaken (St.le_of (l := [(1, .c (.ptr 65 0)), (3, .c (.own 67 1 0 0)), (4, .c (.own 73 1 0 s.length))]) (h := [(65, .cells [.lf (.v (.bool be)), .own 73 1 0 s.length]), (67, .row (.ints .u8 [])), (73, .row (.ints .u8 s))]) (by refine ⟨?_, ?_⟩ <;> (repeat' (first | exact trivial | exact rfl | refine ⟨?_, ?_⟩)) <;> first | exact rfl | (simp; done) | skip)) ?_
  have hdl := dec_len s hws
  refine W_loop (ι := TextI s) (fun i => St.of [(1, .c (.ptr 65 0)), (3, .c (.own 67 1 0 i.out.length)), (4, .c (.own 73 1 i.p.length i.t.length))] [(65, .cells [.lf (.v (.bool be)), .own 73 1 0 s.length]), (67, .row (.ints .u8 i.out)), (73, .row (.ints .u8 (i.p ++ i.t)))]) (fun i => (valA 0 i.t).toNat) (fun i => ?_) ⟨[], s, [], hws, htt, by simp, rfl⟩
  obtain ⟨p, t, out, twf, ttr, tlen, tev⟩ := i
  dsimp only at *
  have hol : out.length ≤ 3 * s.length := by rw [← tev] at hdl; simp at hdl; omega
  repeat (first | refine W_seq ?_ | refine W_region ?_ | refine W_block ?_ | refine W_skip ?_ | refine W_ret ?_ | refine W_exit ?_ | refine WL_nil ?_ | refine N_then ?_ | refine N_then_exit ?_ | refine N_then_ret ?_ | refine N_block ?_ | refine N_block_ret ?_ | refine N_block_exit ?_ | refine N_block_pass rfl ?_ | refine sp true rfl rfl (by rw [hn]; rfl) (by first | trivial | (simp; done) | (simp; omega) | (simp at *; done) | (simp at *; omega)) ?_ | refine sg true rfl rfl rfl (by rw [hn]; rfl) (by intro hG; first | trivial | (simp; done) | (simp; omega) | (simp at *; done) | (simp at *; omega)) ?_)
  refine W_cond rfl (by simp) (fun hc => ?_) (fun hc => ?_)
  · have hlow := tenC_low t 0 (by omega)
    have htl := tenC_len t 0
    have hwt := ten_wf t 0 (by omega) twf
    have hval : valA 0 (tenC 0 t).1 * 10 + (tenC 0 t).2 = valA 0 t := val_ten t 0 0
    have hv0 := val_nonneg t 0 (by decide) twf
    have hpos : 0 < valA 0 t := by
      match t, hc, ttr, twf with
      | x :: t, _, ttr, twf =>
        have hx := twf x (List.mem_cons_self ..)
        have hx0 : x ≠ 0 := by
          rintro rfl
          have e1 : trimL (0 :: t) = trimL t := by simp [trimL]
          have := len_trim t
          rw [← e1, ttr] at this
          simp at this
          omega
        have := val_nonneg t (256 * 0 + x) (by omega) (wf_tail twf)
        simp only [valA]
        omega
    repeat (first | refine W_seq ?_ | refine W_region ?_ | refine W_block ?_ | refine W_skip ?_ | refine W_ret ?_ | refine W_exit ?_ | refine WL_nil ?_ | refine N_then ?_ | refine N_then_exit ?_ | refine N_then_ret ?_ | refine N_block ?_ | refine N_block_ret ?_ | refine N_block_exit ?_ | refine N_block_pass rfl ?_ | refine sp true rfl rfl (by rw [hn]; rfl) (by first | trivial | (simp; done) | (simp; omega) | (simp at *; done) | (simp at *; omega)) ?_ | refine sg true rfl rfl rfl (by rw [hn]; rfl) (by intro hG; first | trivial | (simp; done) | (simp; omega) | (simp at *; done) | (simp at *; omega)) ?_)
    refine s_call [73] (tenth_at p t (by omega) twf) rfl rfl (by rw [hn]; rfl) rfl rfl trivial ⟨rfl, rfl, by simp [ordL], rfl⟩ ?_
    repeat (first | refine W_seq ?_ | refine W_region ?_ | refine W_block ?_ | refine W_skip ?_ | refine W_ret ?_ | refine W_exit ?_ | refine WL_nil ?_ | refine N_then ?_ | refine N_then_exit ?_ | refine N_then_ret ?_ | refine N_block ?_ | refine N_block_ret ?_ | refine N_block_exit ?_ | refine N_block_pass rfl ?_ | refine sp true rfl rfl (by rw [hn]; rfl) (by first | trivial | (simp; done) | (simp; omega) | (simp at *; done) | (simp at *; omega)) ?_ | refine sg true rfl rfl rfl (by rw [hn]; rfl) (by intro hG; first | trivial | (simp; done) | (simp; omega) | (simp at *; done) | (simp at *; omega)) ?_)
    refine s_litI rfl rfl rfl (by rw [hn]; rfl) (elt_mk Try.underlying22 rfl rfl) (zok5) (by first | trivial | (simp; done) | (simp; omega) | (simp at *; done) | (simp at *; omega)) ⟨by decide, rfl⟩ ?_
    repeat (first | refine W_seq ?_ | refine W_region ?_ | refine W_block ?_ | refine W_skip ?_ | refine W_ret ?_ | refine W_exit ?_ | refine WL_nil ?_ | refine N_then ?_ | refine N_then_exit ?_ | refine N_then_ret ?_ | refine N_block ?_ | refine N_block_ret ?_ | refine N_block_exit ?_ | refine N_block_pass rfl ?_ | refine sp true rfl rfl (by rw [hn]; rfl) (by first | trivial | (simp; done) | (simp; omega) | (simp at *; done) | (simp at *; omega)) ?_ | refine sg true rfl rfl rfl (by rw [hn]; rfl) (by intro hG; first | trivial | (simp; done) | (simp; omega) | (simp at *; done) | (simp at *; omega)) ?_)
    refine s_appI rfl rfl rfl rfl rfl rfl (by rw [hn]; rfl) (elt_mk Try.underlying22 rfl rfl) rfl rfl rfl rfl (by first | trivial | (simp; done) | (simp; omega) | (simp at *; done) | (simp at *; omega)) (by first | rfl | (simp; done) | (simp; omega)) ⟨by first | (simp; done) | (simp; omega) | (simp at *; omega), by decide⟩ ?_
    repeat (first | refine W_seq ?_ | refine W_region ?_ | refine W_block ?_ | refine W_skip ?_ | refine W_ret ?_ | refine W_exit ?_ | refine WL_nil ?_ | refine N_then ?_ | refine N_then_exit ?_ | refine N_then_ret ?_ | refine N_block ?_ | refine N_block_ret ?_ | refine N_block_exit ?_ | refine N_block_pass rfl ?_ | refine sp true rfl rfl (by rw [hn]; rfl) (by first | trivial | (simp; done) | (simp; omega) | (simp at *; done) | (simp at *; omega)) ?_ | refine sg true rfl rfl rfl (by rw [hn]; rfl) (by intro hG; first | trivial | (simp; done) | (simp; omega) | (simp at *; done) | (simp at *; omega)) ?_)
    have hT := trim_at p (tenC 0 t).1 (by rw [htl]; omega)
    rw [htl] at hT
    refine s_call [73] hT rfl rfl (by rw [hn]; rfl) rfl rfl trivial ⟨rfl, rfl, by simp [ordL], rfl⟩ ?_
    repeat (first | refine W_seq ?_ | refine W_region ?_ | refine W_block ?_ | refine W_skip ?_ | refine W_ret ?_ | refine W_exit ?_ | refine WL_nil ?_ | refine N_then ?_ | refine N_then_exit ?_ | refine N_then_ret ?_ | refine N_block ?_ | refine N_block_ret ?_ | refine N_block_exit ?_ | refine N_block_pass rfl ?_ | refine sp true rfl rfl (by rw [hn]; rfl) (by first | trivial | (simp; done) | (simp; omega) | (simp at *; done) | (simp at *; omega)) ?_ | refine sg true rfl rfl rfl (by rw [hn]; rfl) (by intro hG; first | trivial | (simp; done) | (simp; omega) | (simp at *; done) | (simp at *; omega)) ?_)
    have hdig : (48 : Int) + (tenC 0 t).2 = 48 + (((valA 0 t).toNat % 10 : Nat) : Int) := by omega
    have hdiv : (valA 0 (trimL (tenC 0 t).1)).toNat = (valA 0 t).toNat / 10 := by rw [val_trim]; omega
    have hlt := len_trim (tenC 0 t).1
    have hsuf : (tenC 0 t).1.drop (t.length - (trimL (tenC 0 t).1).length) = trimL (tenC 0 t).1 := by
      have key : ∀ l : List Int, l.drop (l.length - (trimL l).length) = trimL l := by
        intro l
        induction l with
        | nil => rfl
        | cons x l ih =>
          by_cases hx : x = 0
          · subst hx
            have e1 : trimL (0 :: l) = trimL l := by simp [trimL]
            have := len_trim l
            rw [e1, List.length_cons, show l.length + 1 - (trimL l).length = (l.length - (trimL l).length) + 1 by omega, List.drop_succ_cons, ih]
          · have e1 : trimL (x :: l) = x :: l := by simp [trimL, hx]
            rw [e1, Nat.sub_self]; rfl
      have := key (tenC 0 t).1
      rwa [htl] at this
    have hlp : ((tenC 0 t).1.take (t.length - (trimL (tenC 0 t).1).length)).length = t.length - (trimL (tenC 0 t).1).length := by
      simp [htl]
    refine N_round ⟨p ++ (tenC 0 t).1.take (t.length - (trimL (tenC 0 t).1).length), trimL (tenC 0 t).1, out ++ [48 + (tenC 0 t).2], wf_trim hwt, trim_idem _, ?_, ?_⟩ ?_ (St.le_of ⟨⟨rfl, ?_, ?_⟩, rfl, ?_, ?_⟩)
    · rw [List.length_append, hlp]; omega
    · rw [hdiv, ← tev, decL_pos (show (valA 0 t).toNat ≠ 0 by omega), hdig]; simp
    · dsimp only; rw [hdiv]; omega
    · rfl
    · show Av.c (.own 73 1 (p.length + (t.length - (trimL (tenC 0 t).1).length)) (trimL (tenC 0 t).1).length) = Av.c (.own 73 1 (p ++ (tenC 0 t).1.take (t.length - (trimL (tenC 0 t).1).length)).length (trimL (tenC 0 t).1).length)
      rw [List.length_append, hlp]
    · rfl
    · show Blk.row (.ints .u8 (p ++ (tenC 0 t).1)) = Blk.row (.ints .u8 (p ++ (tenC 0 t).1.take (t.length - (trimL (tenC 0 t).1).length) ++ trimL (tenC 0 t).1))
      have := List.take_append_drop (t.length - (trimL (tenC 0 t).1).length) (tenC 0 t).1
      rw [hsuf] at this
      rw [List.append_assoc, this]
  · have ht0 : t = [] := by
      match t, hc with
      | [], _ => rfl
      | x :: t, hc => simp at hc
    subst ht0
    have ho : out = decL (valA 0 s).toNat := by
      rw [← tev]; simp [valA, decL_zero]
    have hol2 : out.length ≤ 300000 := by omega
    clear tev ttr twf tlen
    repeat (first | refine W_seq ?_ | refine W_region ?_ | refine W_block ?_ | refine W_skip ?_ | refine W_ret ?_ | refine W_exit ?_ | refine WL_nil ?_ | refine N_then ?_ | refine N_then_exit ?_ | refine N_then_ret ?_ | refine N_block ?_ | refine N_block_ret ?_ | refine N_block_exit ?_ | refine N_block_pass rfl ?_ | refine sp true rfl rfl (by rw [hn]; rfl) (by first | trivial | (simp; done) | (simp; omega) | (simp at *; done) | (simp at *; omega)) ?_ | refine sg true rfl rfl rfl (by rw [hn]; rfl) (by intro hG; first | trivial | (simp; done) | (simp; omega) | (simp at *; done) | (simp at *; omega)) ?_)
    refine W_join (St.of [(1, .c (.ptr 65 0)), (3, .c (.own 67 1 0 (if s = [] then [48] else out).length))] [(65, .cells [.lf (.v (.bool be)), .own 73 1 0 s.length]), (67, .row (.ints .u8 (if s = [] then [48] else out)))]) ?_ ?_
    · have hso : s = [] ↔ out = [] := by
        rw [ho]
        constructor
        · intro h; rw [h]; simp [valA, decL_zero]
        · intro h
          match s, htt, hws with
          | [], _, _ => rfl
          | x :: t, htt, hws => 
            exfalso
            have hx := hws x (List.mem_cons_self ..)
            have hx0 : x ≠ 0 := by
              rintro rfl
              have e1 : trimL (0 :: t) = trimL t := by simp [trimL]
              have := len_trim t
              rw [← e1, htt] at this
              simp at this
              omega
            have := val_nonneg t (256 * 0 + x) (by omega) (wf_tail hws)
            have h3 : valA 0 (x :: t) = valA (256 * 0 + x) t := rfl
            rw [decL_pos (by omega)] at h
            cases h
      refine W_cond rfl (by simp) (fun hd => ?_) (fun hd => ?_)
      · have h0 : out = [] := by simpa using hd
        have h1 := hso.2 h0
        rw [if_pos h1]
        clear hso
        subst h0
        repeat (first | refine W_seq ?_ | refine W_region ?_ | refine W_block ?_ | refine W_skip ?_ | refine W_ret ?_ | refine W_exit ?_ | refine WL_nil ?_ | refine N_then ?_ | refine N_then_exit ?_ | refine N_then_ret ?_ | refine N_block ?_ | refine N_block_ret ?_ | refine N_block_exit ?_ | refine N_block_pass rfl ?_ | refine sp true rfl rfl (by rw [hn]; rfl) (by first | trivial | (simp; done) | (simp; omega) | (simp at *; done) | (simp at *; omega)) ?_ | refine sg true rfl rfl rfl (by rw [hn]; rfl) (by intro hG; first | trivial | (simp; done) | (simp; omega) | (simp at *; done) | (simp at *; omega)) ?_)
        refine s_litI rfl rfl rfl (by rw [hn]; rfl) (elt_mk Try.underlying22 rfl rfl) (zok5) (by first | trivial | (simp; done) | (simp; omega) | (simp at *; done) | (simp at *; omega)) ⟨by decide, rfl⟩ ?_
        repeat (first | refine W_seq ?_ | refine W_region ?_ | refine W_block ?_ | refine W_skip ?_ | refine W_ret ?_ | refine W_exit ?_ | refine WL_nil ?_ | refine N_then ?_ | refine N_then_exit ?_ | refine N_then_ret ?_ | refine N_block ?_ | refine N_block_ret ?_ | refine N_block_exit ?_ | refine N_block_pass rfl ?_ | refine sp true rfl rfl (by rw [hn]; rfl) (by first | trivial | (simp; done) | (simp; omega) | (simp at *; done) | (simp at *; omega)) ?_ | refine sg true rfl rfl rfl (by rw [hn]; rfl) (by intro hG; first | trivial | (simp; done) | (simp; omega) | (simp at *; done) | (simp at *; omega)) ?_)
        refine s_appI rfl rfl rfl rfl rfl rfl (by rw [hn]; rfl) (elt_mk Try.underlying22 rfl rfl) rfl rfl rfl rfl (by first | trivial | (simp; done) | (simp; omega) | (simp at *; done) | (simp at *; omega)) (by first | rfl | (simp; done) | (simp; omega)) ⟨by first | (simp; done) | (simp; omega) | (simp at *; omega), by decide⟩ ?_
        repeat (first | refine W_seq ?_ | refine W_region ?_ | refine W_block ?_ | refine W_skip ?_ | refine W_ret ?_ | refine W_exit ?_ | refine WL_nil ?_ | refine N_then ?_ | refine N_then_exit ?_ | refine N_then_ret ?_ | refine N_block ?_ | refine N_block_ret ?_ | refine N_block_exit ?_ | refine N_block_pass rfl ?_ | refine sp true rfl rfl (by rw [hn]; rfl) (by first | trivial | (simp; done) | (simp; omega) | (simp at *; done) | (simp at *; omega)) ?_ | refine sg true rfl rfl rfl (by rw [hn]; rfl) (by intro hG; first | trivial | (simp; done) | (simp; omega) | (simp at *; done) | (simp at *; omega)) ?_)
        (refine N_join ?_; refine St.le_of ⟨?_, ?_⟩ <;> (repeat' (first | exact trivial | exact rfl | refine ⟨?_, ?_⟩)) <;> first | exact rfl | (simp; done) | skip)
      · have h0 : ¬ out = [] := by simpa using hd
        have h1 := fun h => h0 (hso.1 h)
        rw [if_neg h1]
        repeat (first | refine W_seq ?_ | refine W_region ?_ | refine W_block ?_ | refine W_skip ?_ | refine W_ret ?_ | refine W_exit ?_ | refine WL_nil ?_ | refine N_then ?_ | refine N_then_exit ?_ | refine N_then_ret ?_ | refine N_block ?_ | refine N_block_ret ?_ | refine N_block_exit ?_ | refine N_block_pass rfl ?_ | refine sp true rfl rfl (by rw [hn]; rfl) (by first | trivial | (simp; done) | (simp; omega) | (simp at *; done) | (simp at *; omega)) ?_ | refine sg true rfl rfl rfl (by rw [hn]; rfl) (by intro hG; first | trivial | (simp; done) | (simp; omega) | (simp at *; done) | (simp at *; omega)) ?_)
        (refine N_join ?_; refine St.le_of ⟨?_, ?_⟩ <;> (repeat' (first | exact trivial | exact rfl | refine ⟨?_, ?_⟩)) <;> first | exact rfl | (simp; done) | skip)
    have ho2 : (if s = [] then [48] else out).length ≤ 300001 := by
      split
      · simp
      · omega
    generalize ho2e : (if s = [] then [48] else out) = out2 at *
    repeat (first | refine W_seq ?_ | refine W_region ?_ | refine W_block ?_ | refine W_skip ?_ | refine W_ret ?_ | refine W_exit ?_ | refine WL_nil ?_ | refine N_then ?_ | refine N_then_exit ?_ | refine N_then_ret ?_ | refine N_block ?_ | refine N_block_ret ?_ | refine N_block_exit ?_ | refine N_block_pass rfl ?_ | refine sp true rfl rfl (by rw [hn]; rfl) (by first | trivial | (simp; done) | (simp; omega) | (simp at *; done) | (simp at *; omega)) ?_ | refine sg true rfl rfl rfl (by rw [hn]; rfl) (by intro hG; first | trivial | (simp; done) | (simp; omega) | (simp at *; done) | (simp at *; omega)) ?_)
    refine W_join (St.of [(3, .c (.own 67 1 0 (out2 ++ cond be [45] []).length))] [(67, .row (.ints .u8 (out2 ++ cond be [45] [])))]) ?_ ?_
    · refine W_cond rfl (by simp) (fun hd => ?_) (fun hd => ?_)
      · subst hd
        repeat (first | refine W_seq ?_ | refine W_region ?_ | refine W_block ?_ | refine W_skip ?_ | refine W_ret ?_ | refine W_exit ?_ | refine WL_nil ?_ | refine N_then ?_ | refine N_then_exit ?_ | refine N_then_ret ?_ | refine N_block ?_ | refine N_block_ret ?_ | refine N_block_exit ?_ | refine N_block_pass rfl ?_ | refine sp true rfl rfl (by rw [hn]; rfl) (by first | trivial | (simp; done) | (simp; omega) | (simp at *; done) | (simp at *; omega)) ?_ | refine sg true rfl rfl rfl (by rw [hn]; rfl) (by intro hG; first | trivial | (simp; done) | (simp; omega) | (simp at *; done) | (simp at *; omega)) ?_)
        refine s_litI rfl rfl rfl (by rw [hn]; rfl) (elt_mk Try.underlying22 rfl rfl) (zok5) (by first | trivial | (simp; done) | (simp; omega) | (simp at *; done) | (simp at *; omega)) ⟨by decide, rfl⟩ ?_
        repeat (first | refine W_seq ?_ | refine W_region ?_ | refine W_block ?_ | refine W_skip ?_ | refine W_ret ?_ | refine W_exit ?_ | refine WL_nil ?_ | refine N_then ?_ | refine N_then_exit ?_ | refine N_then_ret ?_ | refine N_block ?_ | refine N_block_ret ?_ | refine N_block_exit ?_ | refine N_block_pass rfl ?_ | refine sp true rfl rfl (by rw [hn]; rfl) (by first | trivial | (simp; done) | (simp; omega) | (simp at *; done) | (simp at *; omega)) ?_ | refine sg true rfl rfl rfl (by rw [hn]; rfl) (by intro hG; first | trivial | (simp; done) | (simp; omega) | (simp at *; done) | (simp at *; omega)) ?_)
        refine s_appI rfl rfl rfl rfl rfl rfl (by rw [hn]; rfl) (elt_mk Try.underlying22 rfl rfl) rfl rfl rfl rfl (by first | trivial | (simp; done) | (simp; omega) | (simp at *; done) | (simp at *; omega)) (by first | rfl | (simp; done) | (simp; omega)) ⟨by first | (simp; done) | (simp; omega) | (simp at *; omega), by decide⟩ ?_
        repeat (first | refine W_seq ?_ | refine W_region ?_ | refine W_block ?_ | refine W_skip ?_ | refine W_ret ?_ | refine W_exit ?_ | refine WL_nil ?_ | refine N_then ?_ | refine N_then_exit ?_ | refine N_then_ret ?_ | refine N_block ?_ | refine N_block_ret ?_ | refine N_block_exit ?_ | refine N_block_pass rfl ?_ | refine sp true rfl rfl (by rw [hn]; rfl) (by first | trivial | (simp; done) | (simp; omega) | (simp at *; done) | (simp at *; omega)) ?_ | refine sg true rfl rfl rfl (by rw [hn]; rfl) (by intro hG; first | trivial | (simp; done) | (simp; omega) | (simp at *; done) | (simp at *; omega)) ?_)
        (refine N_join ?_; refine St.le_of ⟨?_, ?_⟩ <;> (repeat' (first | exact trivial | exact rfl | refine ⟨?_, ?_⟩)) <;> first | exact rfl | (simp; done) | skip)
      · subst hd
        rw [cond_false, List.append_nil]
        repeat (first | refine W_seq ?_ | refine W_region ?_ | refine W_block ?_ | refine W_skip ?_ | refine W_ret ?_ | refine W_exit ?_ | refine WL_nil ?_ | refine N_then ?_ | refine N_then_exit ?_ | refine N_then_ret ?_ | refine N_block ?_ | refine N_block_ret ?_ | refine N_block_exit ?_ | refine N_block_pass rfl ?_ | refine sp true rfl rfl (by rw [hn]; rfl) (by first | trivial | (simp; done) | (simp; omega) | (simp at *; done) | (simp at *; omega)) ?_ | refine sg true rfl rfl rfl (by rw [hn]; rfl) (by intro hG; first | trivial | (simp; done) | (simp; omega) | (simp at *; done) | (simp at *; omega)) ?_)
        (refine N_join ?_; refine St.le_of ⟨?_, ?_⟩ <;> (repeat' (first | exact trivial | exact rfl | refine ⟨?_, ?_⟩)) <;> first | exact rfl | (simp; done) | skip)
    have ho3 : (out2 ++ cond be [45] []).length ≤ 300002 := by cases be <;> simp <;> omega
    repeat (first | refine W_seq ?_ | refine W_region ?_ | refine W_block ?_ | refine W_skip ?_ | refine W_ret ?_ | refine W_exit ?_ | refine WL_nil ?_ | refine N_then ?_ | refine N_then_exit ?_ | refine N_then_ret ?_ | refine N_block ?_ | refine N_block_ret ?_ | refine N_block_exit ?_ | refine N_block_pass rfl ?_ | refine sp true rfl rfl (by rw [hn]; rfl) (by first | trivial | (simp; done) | (simp; omega) | (simp at *; done) | (simp at *; omega)) ?_ | refine sg true rfl rfl rfl (by rw [hn]; rfl) (by intro hG; first | trivial | (simp; done) | (simp; omega) | (simp at *; done) | (simp at *; omega)) ?_)
    refine s_call [67] (reverse_ok (out2 ++ cond be [45] []) (by omega)) rfl rfl (by rw [hn]; rfl) rfl rfl trivial ⟨rfl, rfl, by simp [ordL], rfl⟩ ?_
    repeat (first | refine W_seq ?_ | refine W_region ?_ | refine W_block ?_ | refine W_skip ?_ | refine W_ret ?_ | refine W_exit ?_ | refine WL_nil ?_ | refine N_then ?_ | refine N_then_exit ?_ | refine N_then_ret ?_ | refine N_block ?_ | refine N_block_ret ?_ | refine N_block_exit ?_ | refine N_block_pass rfl ?_ | refine sp true rfl rfl (by rw [hn]; rfl) (by first | trivial | (simp; done) | (simp; omega) | (simp at *; done) | (simp at *; omega)) ?_ | refine sg true rfl rfl rfl (by rw [hn]; rfl) (by intro hG; first | trivial | (simp; done) | (simp; omega) | (simp at *; done) | (simp at *; omega)) ?_)
    refine WL_q (opq_of (opy_str rfl Try.underlying22 Try.underlying5 Try.underlying9 rfl (by first | trivial | (simp; done) | (simp; omega) | (simp at *; done) | (simp at *; omega))) rfl) (by rw [hn]; rfl) ?_
    repeat (first | refine W_seq ?_ | refine W_region ?_ | refine W_block ?_ | refine W_skip ?_ | refine W_ret ?_ | refine W_exit ?_ | refine WL_nil ?_ | refine N_then ?_ | refine N_then_exit ?_ | refine N_then_ret ?_ | refine N_block ?_ | refine N_block_ret ?_ | refine N_block_exit ?_ | refine N_block_pass rfl ?_ | refine sp true rfl rfl (by rw [hn]; rfl) (by first | trivial | (simp; done) | (simp; omega) | (simp at *; done) | (simp at *; omega)) ?_ | refine sg true rfl rfl rfl (by rw [hn]; rfl) (by intro hG; first | trivial | (simp; done) | (simp; omega) | (simp at *; done) | (simp at *; omega)) ?_)
    refine N_retN [] rfl (by first | trivial | (simp; done) | (simp; omega) | (simp at *; done) | (simp at *; omega)) ⟨?_, by first | trivial | exact ⟨rfl, rfl⟩, ?_, rfl⟩ hb rfl (by first | trivial | (simp; done) | (simp [ordL]; done))
    · have e : (out2 ++ cond be [45] []).reverse = textL be s := by
        rw [← ho2e, textL, ho]
        by_cases h : s = []
        · rw [if_pos h, if_pos h]; cases be <;> rfl
        · rw [if_neg h, if_neg h]; cases be <;> simp
      have e2 : (out2 ++ cond be [45] []).reverse.take (out2 ++ cond be [45] []).length = textL be s := by
        rw [← e]; exact List.take_of_length_le (by rw [List.length_reverse]; exact Nat.le_refl _)
      rw [← e2]; rfl
    · trivial
end Go.Proofs.Ytppmfjopokkhmaa

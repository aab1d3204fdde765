/-
  Chapter 02: a whole. The conditions: right tags, at most a million bytes of contents.
-/
import Derived.Test.YtaagjnlkinojcaaGreatC13
namespace Go.Proofs.YtaagjnlkinojcaaGreat
set_option linter.unusedSimpArgs false
set_option linter.unusedVariables false
open Go.Sx
set_option maxRecDepth 10000
theorem z9Q {c n : Int} (hc : c ∈ [0, 32, 64, 96, 128, 160, 192, 224]) (hn : 0 ≤ n ∧ n < 32) : IntKind.u8.wrap (BitVec.ofInt IntKind.u8.bits c ||| BitVec.ofInt IntKind.u8.bits n).toNat = c + n := by
 have key : ∀ k : Fin 8, ∀ m : Fin 32, IntKind.u8.wrap (BitVec.ofInt IntKind.u8.bits (32 * ((k.val : Nat) : Int)) ||| BitVec.ofInt IntKind.u8.bits ((m.val : Nat) : Int)).toNat = 32 * ((k.val : Nat) : Int) + ((m.val : Nat) : Int) := by decide +kernel
 have hm := fun k : Fin 8 => key k ⟨n.toNat, by omega⟩
 simp only [show ((n.toNat : Nat) : Int) = n by omega] at hm
 simp only [List.mem_cons, List.not_mem_nil, or_false] at hc
 rcases hc with rfl | rfl | rfl | rfl | rfl | rfl | rfl | rfl
 · exact hm 0
 · exact hm 1
 · exact hm 2
 · exact hm 3
 · exact hm 4
 · exact hm 5
 · exact hm 6
 · exact hm 7
theorem zgo {n : Int} (hn : 0 ≤ n ∧ n < 128) : IntKind.u8.wrap (BitVec.ofInt IntKind.u8.bits n ||| BitVec.ofInt IntKind.u8.bits 128).toNat = n + 128 ∧ IntKind.u8.wrap (BitVec.ofInt IntKind.u8.bits 128 ||| BitVec.ofInt IntKind.u8.bits n).toNat = 128 + n := by
 have key : ∀ m : Fin 128, IntKind.u8.wrap (BitVec.ofInt IntKind.u8.bits ((m.val : Nat) : Int) ||| BitVec.ofInt IntKind.u8.bits 128).toNat = ((m.val : Nat) : Int) + 128 ∧ IntKind.u8.wrap (BitVec.ofInt IntKind.u8.bits 128 ||| BitVec.ofInt IntKind.u8.bits ((m.val : Nat) : Int)).toNat = 128 + ((m.val : Nat) : Int) := by decide +kernel
 have hm := key ⟨n.toNat, by omega⟩
 simpa only [show ((n.toNat : Nat) : Int) = n by omega] using hm
def z17 (t : z0q) : Int := 64 * t.1 + cond t.2.2 32 0
theorem z6p {t : z0q} (h : z0z t = true) : z17 t ∈ [0, 32, 64, 96, 128, 160, 192, 224] := by
 have h2 : 0 ≤ t.1 ∧ t.1 ≤ 3 := by simp [z0z] at h; omega
 unfold z17
 have : t.1 = 0 ∨ t.1 = 1 ∨ t.1 = 2 ∨ t.1 = 3 := by omega
 rcases this with e | e | e | e <;> rw [e] <;> cases t.2.2 <;> decide
theorem zdm (t : z0q) (h : z0z t = true) : Ct Tryz.prog 217 [z1W t] [] (lv (.int .u8 (z17 t))) [] [] := by
 have h2 : 0 ≤ t.1 ∧ t.1 ≤ 3 := by simp [z0z] at h; omega
 have e6 : t.1 * 2 ^ min (Int.toNat 6) IntKind.i64.bits = 64 * t.1 := by
   have : min (Int.toNat 6) IntKind.i64.bits = 6 := by decide
   rw [this, Int.mul_comm]
   rfl
 refine z00 Tryz.func217 rfl rfl rfl rfl rfl (fun E hn hb => ?_)
 repeat (refine nst ?_)
 refine z1b rfl rfl rfl (by rw [hn]; rfl) rfl (by exact vcs) rfl rfl ?_
 repeat (refine nst ?_)
 rw [e6]
 have e : z17 t = 64 * t.1 + cond t.2.2 32 0 := rfl
 refine z04 rfl (by simp) (fun h1 => ?_) (fun h1 => ?_)
 · have h1' : t.2.2 = true := h1
   have eo : IntKind.u8.wrap (BitVec.ofInt IntKind.u8.bits (64 * t.1) ||| BitVec.ofInt IntKind.u8.bits 32).toNat = z17 t := by
     rw [e, h1']
     have : t.1 = 0 ∨ t.1 = 1 ∨ t.1 = 2 ∨ t.1 = 3 := by omega
     rcases this with e | e | e | e <;> rw [e] <;> decide +kernel
   repeat (refine nst ?_)
   rw [eo]
   repeat (refine nst ?_)
   exact rt1 []
 · have h1' : t.2.2 = false := h1
   rw [h1'] at e
   have e' : z17 t = 64 * t.1 := by rw [e]; exact Int.add_zero _
   rw [e']
   repeat (refine nst ?_)
   exact rt1 []
def hiL (D : List Int) : List Int := (D.take (D.length - 1)).map (· + 128) ++ D.drop (D.length - 1)
def tgL (t : z0q) : List Int := if t.2.1 < 31 then [z17 t + t.2.1] else (z17 t + 31) :: hiL (z0t 128 5 t.2.1.toNat).reverse
def hiU (D : List Int) (i : Nat) : List Int := (D.take i).map (· + 128) ++ D.drop i
theorem zgD (D : List Int) (i : Nat) : (hiU D i).length = D.length := by simp [hiU]; omega
theorem zgE (D : List Int) (i : Nat) (h : i < D.length) : (hiU D i).getD i 0 = D.getD i 0 := by
 have : ((D.take i).map (· + 128)).length = i := by simp; omega
 simp only [hiU, List.getD_eq_getElem?_getD]
 rw [List.getElem?_append_right (by omega), this, Nat.sub_self, List.getElem?_drop, Nat.add_zero]
theorem zgF (D : List Int) (i : Nat) (h : i < D.length) : (hiU D i).set i (D.getD i 0 + 128) = hiU D (i + 1) := by
 have hl : ((D.take i).map (· + 128)).length = i := by simp; omega
 unfold hiU
 rw [List.set_append_right _ _ (by omega), hl, Nat.sub_self, List.drop_eq_getElem_cons h, List.set_cons_zero, List.take_succ_eq_append_getElem h, List.map_append, List.append_assoc]
 simp [h]
theorem z8A (m : Nat) (h0 : 0 < m) : ∀ (k n : Nat), ∀ x ∈ z0t m k n, 0 ≤ x ∧ x < (m : Int)
 | 0, n => fun x h => by simp [z0t] at h
 | k + 1, n => by
   have ih := z8A m h0 k (n / m)
   have := Nat.mod_lt n h0
   unfold z0t
   split
   · exact fun x h => by simp at h
   · intro x hx
     cases hx with
     | head => omega
     | tail _ hx => exact ih x hx
theorem z6X (D : List Int) : (hiL D).length = D.length := by simp [hiL]
set_option maxHeartbeats 4000000 in
theorem zdn (t : z0q) (h : z0z t = true) : Ct Tryz.prog 191 [z1W t] [] (.tup [.c (.own 0 1 0 (tgL t).length), lv (.int .i64 0)]) [] [.row (.ints .u8 (tgL t))] := by
 have h2 : 0 ≤ t.2.1 ∧ t.2.1 < 2097152 := by simp [z0z] at h; omega
 have hr := z6z t
 rw [h] at hr
 have hf := zdm t h
 have hfm := z6p h
 have hfi : 0 ≤ z17 t ∧ z17 t ≤ 224 := by
   simp only [List.mem_cons, List.not_mem_nil, or_false] at hfm
   omega
 have hT : tgL t = if t.2.1 < 31 then [z17 t + t.2.1] else (z17 t + 31) :: hiL (z0t 128 5 t.2.1.toNat).reverse := rfl
 generalize tgL t = T at *
 generalize z17 t = c at *
 refine z00 Tryz.func191 rfl rfl rfl rfl rfl (fun E hn hb => ?_)
 repeat (refine nst ?_)
 refine z1b rfl rfl rfl (by rw [hn]; rfl) rfl (by exact vcs) rfl rfl ?_
 repeat (refine nst ?_)
 refine z1e (hr) rfl rfl rfl (by rw [hn]; rfl) rfl rfl (by exact vcs) rfl rfl rfl ?_
 repeat (refine nst ?_)
 refine z04 rfl (by simp) (fun h1 => ?_) (fun h1 => ?_)
 · simp at h1
 repeat (refine nst ?_)
 refine z04 rfl (by simp) (fun h3 => ?_) (fun h3 => ?_)
 · have h3' : t.2.1 < 31 := by simpa using h3
   rw [if_pos h3'] at hT
   subst hT
   have eo := z9Q hfm (n := t.2.1) (by omega)
   repeat (refine nst ?_)
   refine z2u 5 (by kernel_rfl) (by kernel_rfl) (by kernel_rfl) (by rw [hn]; rfl) rfl rfl ?_
   repeat (first | refine dp1 ?_ | refine dg1 ?_ | refine z0E ?_)
   refine z1f rfl (z1c (z4o (hf) rfl rfl rfl (by exact vcs) rfl rfl rfl) rfl) ?_
   repeat (first | refine dp1 ?_ | refine dg1 ?_ | refine z0E ?_)
   repeat (refine nst ?_)
   rw [eo]
   refine z1l rfl rfl rfl (by rw [hn]; rfl) (z0j Tryz.underlying28 rfl rfl) (z2p) (by exact vcs) ⟨by decide, rfl⟩ ?_
   repeat (refine nst ?_)
   exact rt1 [82]
 · have h3' : ¬ t.2.1 < 31 := by simpa using h3
   rw [if_neg h3'] at hT
   obtain ⟨n, hn'⟩ : ∃ n : Nat, t.2.1 = (n : Int) := ⟨t.2.1.toNat, by omega⟩
   have hdg := zda n (by omega)
   rw [hn', Int.toNat_natCast] at hT
   have hDl : (z0t 128 5 n).reverse.length = (z0t 128 5 n).length := by simp
   have hDw : ∀ x ∈ (z0t 128 5 n).reverse, 0 ≤ x ∧ x < 128 := fun x hx => z8A 128 (by decide) 5 n x (List.mem_reverse.1 hx)
   rw [← hDl] at hdg
   have hD5 : (z0t 128 5 n).reverse.length ≤ 5 := by rw [hDl]; exact z1S _ _ _
   generalize (z0t 128 5 n).reverse = D at *
   rw [← hn'] at hdg
   repeat (refine nst ?_)
   refine z0r [] hdg rfl rfl (by rw [hn]; rfl) rfl rfl (by trivial) ⟨rfl, trivial, trivial, rfl⟩ ?_
   repeat (refine nst ?_)
   have S0 : hiU D 0 = D := by simp [hiU]
   refine z0d (τ := St.of [(1, .c (.ptr 65 0)), (4, .c (.own 85 1 0 D.length)), (22, .c (.own 85 1 0 D.length)), (24, lv (.int .i64 ((D.length : Int) - 1))), (25, lv (.int .i64 ((0 : Nat) : Int)))] [(65, z2U t), (85, .row (.ints .u8 (hiU D 0)))]) (St.le_of ⟨⟨rfl, rfl, rfl, rfl, rfl⟩, ⟨rfl, by rw [S0]; rfl⟩⟩) ?_
   refine z0l (ι := {i : Nat // i ≤ D.length - 1}) (fun i => St.of [(1, .c (.ptr 65 0)), (4, .c (.own 85 1 0 D.length)), (22, .c (.own 85 1 0 D.length)), (24, lv (.int .i64 ((D.length : Int) - 1))), (25, lv (.int .i64 (i.1 : Int)))] [(65, z2U t), (85, .row (.ints .u8 (hiU D i.1)))]) (fun i => D.length - i.1) (fun i => ?_) ⟨0, by omega⟩
   obtain ⟨i, hi⟩ := i
   dsimp only
   have hul := zgD D i
   repeat (refine nst ?_)
   refine z04 rfl (by simp) (fun hc => ?_) (fun hc => ?_)
   · have hil : i < D.length := by simp at hc; omega
     have hg : (hiU D i).getD (0 + (i : Int).toNat) 0 = D.getD i 0 := by rw [Nat.zero_add, Int.toNat_natCast, zgE D i hil]
     have hx : 0 ≤ D.getD i 0 ∧ D.getD i 0 < 128 := by
       rw [List.getD_eq_getElem?_getD, List.getElem?_eq_getElem hil]
       exact hDw _ (List.getElem_mem hil)
     have eo := (zgo hx).1
     have hset := zgF D i hil
     repeat (refine nst ?_)
     rw [hg, eo]
     refine za7 rfl rfl rfl rfl rfl (by exact vcs) rfl (by rw [z6j]) (by first | (simp; done) | (simp; omega) | (simp at *; omega)) ?_
     repeat (refine nst ?_)
     refine z0a ⟨i + 1, by simp at hc; omega⟩ (by dsimp only; omega) (St.le_of ⟨⟨rfl, rfl, rfl, rfl, rfl⟩, ⟨rfl, ?_⟩⟩)
     dsimp only
     rw [← hset]
     show Blk.row (.ints .u8 ((hiU D i).set (0 + (i : Int).toNat) (D.getD i 0 + 128))) = _
     rw [Nat.zero_add, Int.toNat_natCast]
   · have hie : i = D.length - 1 := by simp at hc; omega
     have hU : hiU D i = hiL D := by rw [hie]; rfl
     have hLl := z6X D
     rw [hU]
     clear hU hul
     have eo := z9Q hfm (n := 31) (by omega)
     generalize hiL D = L at *
     subst hT
     repeat (refine nst ?_)
     refine z1e (hf) rfl rfl rfl (by rw [hn]; rfl) rfl rfl (by exact vcs) rfl rfl rfl ?_
     repeat (refine nst ?_)
     rw [eo]
     refine z1l rfl rfl rfl (by rw [hn]; rfl) (z0j Tryz.underlying28 rfl rfl) (z2p) (by exact vcs) ⟨by decide, rfl⟩ ?_
     repeat (refine nst ?_)
     refine z1U rfl rfl rfl rfl rfl rfl (by rw [hn]; rfl) (z0j Tryz.underlying28 rfl rfl) rfl rfl rfl rfl (by exact vcs) (by first | rfl | (simp; done) | (simp; omega)) ⟨by first | (simp; done) | (simp; omega) | (simp at *; omega), by decide⟩ ?_
     repeat (refine nst ?_)
     have eL : List.take D.length L = L := List.take_of_length_le (by omega)
     rw [eL]
     exact rt1 [102]
def z10 (n : Nat) : List Int := if n < 128 then [(n : Int)] else (128 + ((z0t 256 5 n).length : Int)) :: (z0t 256 5 n).reverse
theorem zgG (n : Nat) (h : n ≤ 16777216) : Ct Tryz.prog 192 [lv (.int .i64 (n : Int))] [] (.tup [.c (.own 0 1 0 (z10 n).length), lv (.int .i64 0)]) [] [.row (.ints .u8 (z10 n))] := by
 have hT : z10 n = if n < 128 then [(n : Int)] else (128 + ((z0t 256 5 n).length : Int)) :: (z0t 256 5 n).reverse := rfl
 generalize z10 n = T at *
 refine z00 Tryz.func192 rfl rfl rfl rfl rfl (fun E hn hb => ?_)
 repeat (refine nst ?_)
 refine z04 rfl (by simp) (fun h1 => ?_) (fun h1 => ?_)
 · simp at h1; omega
 repeat (refine nst ?_)
 refine z04 rfl (by simp) (fun h2 => ?_) (fun h2 => ?_)
 · simp at h2; omega
 repeat (refine nst ?_)
 refine z04 rfl (by simp) (fun h3 => ?_) (fun h3 => ?_)
 · have h3' : n < 128 := by simp at h3; omega
   rw [if_pos h3'] at hT
   subst hT
   repeat (refine nst ?_)
   refine z1l rfl rfl rfl (by rw [hn]; rfl) (z0j Tryz.underlying28 rfl rfl) (z2p) (by exact vcs) ⟨by decide, rfl⟩ ?_
   repeat (refine nst ?_)
   exact rt1 [80]
 · have h3' : ¬ n < 128 := by simp at h3; omega
   rw [if_neg h3'] at hT
   have hdg := zdb n (by omega)
   have hD5 := z1S 256 5 n
   have hDl : (z0t 256 5 n).reverse.length = (z0t 256 5 n).length := by simp
   rw [← hDl] at hT hdg hD5
   generalize (z0t 256 5 n).reverse = D at *
   subst hT
   have eo := (zgo (n := (D.length : Int)) (by omega)).2
   repeat (refine nst ?_)
   refine z0r [] hdg rfl rfl (by rw [hn]; rfl) rfl rfl (by trivial) ⟨rfl, trivial, trivial, rfl⟩ ?_
   repeat (refine nst ?_)
   rw [eo]
   refine z1l rfl rfl rfl (by rw [hn]; rfl) (z0j Tryz.underlying28 rfl rfl) (z2p) (by exact vcs) ⟨by decide, rfl⟩ ?_
   repeat (refine nst ?_)
   refine z1U rfl rfl rfl rfl rfl rfl (by rw [hn]; rfl) (z0j Tryz.underlying28 rfl rfl) rfl rfl rfl rfl (by exact vcs) (by first | rfl | (simp; done) | (simp; omega)) ⟨by first | (simp; done) | (simp; omega) | (simp at *; omega), by decide⟩ ?_
   repeat (refine nst ?_)
   have eL : List.take D.length D = D := List.take_length
   rw [eL]
   exact rt1 [87]

abbrev z27 (bs : List (List Int)) : Av := .c (.lf (.recs 1 (bs.map fun b => [.ints .u8 b])))
def z0i (t : z0q) (b : List Int) : List Int := tgL t ++ z10 b.length ++ b
set_option maxHeartbeats 4000000 in
theorem zeU (t : z0q) (bs : List (List Int)) (h : z0z t = true) (hbl : bs.length ≤ 12000000) (hl : bs.flatten.length ≤ 16000000) :
   Ct Tryz.prog 158 [z1W t, z27 bs] [] (.tup [.c (.own 0 1 0 (z0i t bs.flatten).length), lv (.int .i64 0)]) [] [.row (.ints .u8 (z0i t bs.flatten))] := by
 have htb := zdn t h
 have hlb := zgG bs.flatten.length (by omega)
 have hW : z0i t bs.flatten = tgL t ++ z10 bs.flatten.length ++ bs.flatten := rfl
 have hT5 : (tgL t).length ≤ 10 := by
   have := z1S 128 5 t.2.1.toNat
   unfold tgL
   split
   · simp
   · simp [z6X]; omega
 have hL5 : (z10 bs.flatten.length).length ≤ 10 := by
   generalize bs.flatten.length = n
   have := z1S 256 5 n
   unfold z10
   split
   · simp
   · simp; omega
 generalize z0i t bs.flatten = R at *
 generalize z10 bs.flatten.length = D at *
 generalize tgL t = T at *
 have hnext : ∀ i, (h : i < bs.length) → (bs.take (i + 1)).flatten = (bs.take i).flatten ++ bs[i] ∧ (bs.take (i + 1)).flatten.length ≤ bs.flatten.length := by
   intro i h
   refine ⟨by rw [List.take_succ_eq_append_getElem h, List.flatten_append, List.flatten_cons, List.flatten_nil, List.append_nil], ?_⟩
   have := congrArg List.length (congrArg List.flatten (List.take_append_drop (i + 1) bs))
   simp only [List.flatten_append, List.length_append] at this
   omega
 have hidx : ∀ i, (h : i < bs.length) → (bs.map fun b => [Leaf.ints .u8 b]).getD (i : Int).toNat [] = [Leaf.ints .u8 bs[i]] := by
   intro i h
   rw [Int.toNat_natCast, List.getD_eq_getElem?_getD, List.getElem?_map, List.getElem?_eq_getElem h]
   rfl
 have hlm : ((bs.map fun b => [Leaf.ints .u8 b]).length : Int) = (bs.length : Int) := by simp
 refine z00 Tryz.func158 rfl rfl rfl rfl rfl (fun E hn hb => ?_)
 repeat (refine nst ?_)
 refine z1b rfl rfl rfl (by rw [hn]; rfl) rfl (by exact vcs) rfl rfl ?_
 repeat (refine nst ?_)
 refine z0r [] htb rfl rfl (by rw [hn]; rfl) rfl rfl (by trivial) ⟨rfl, trivial, trivial, rfl⟩ ?_
 repeat (refine nst ?_)
 refine z04 rfl (by simp) (fun h1 => ?_) (fun h1 => ?_)
 · simp at h1
 repeat (refine nst ?_)
 rw [hlm]
 refine z0d (St.le_of (l := [(1, z27 bs), (6, .c (.own 81 1 0 T.length)), (8, lv (.int .i64 (((bs.take 0).flatten.length : Nat) : Int))), (23, z27 bs), (24, lv (.int .i64 (bs.length : Int))), (25, lv (.int .i64 ((0 : Nat) : Int)))]) (h := [(81, .row (.ints .u8 T))]) (by refine ⟨?_, ?_⟩ <;> (repeat' (first | exact trivial | exact rfl | refine ⟨?_, ?_⟩)) <;> first | exact rfl | (simp; done) | skip)) ?_
 refine z0l (ι := {i : Nat // i ≤ bs.length}) (fun i => St.of [(1, z27 bs), (6, .c (.own 81 1 0 T.length)), (8, lv (.int .i64 (((bs.take i.1).flatten.length : Nat) : Int))), (23, z27 bs), (24, lv (.int .i64 (bs.length : Int))), (25, lv (.int .i64 (i.1 : Int)))] [(81, .row (.ints .u8 T))]) (fun i => bs.length - i.1) (fun i => ?_) ⟨0, by omega⟩
 obtain ⟨i, hi⟩ := i
 dsimp only
 repeat (refine nst ?_)
 refine z04 rfl (by simp) (fun hc => ?_) (fun hc => ?_)
 · have hib : i < bs.length := by simpa using hc
   obtain ⟨m1, m2⟩ := hnext i hib
   have hx := hidx i hib
   rw [m1] at m2
   have eN : (((bs.take i).flatten.length : Nat) : Int) + (bs[i].length : Int) = (((bs.take (i + 1)).flatten.length : Nat) : Int) := by rw [m1]; simp
   have m3 : (((bs.take (i + 1)).flatten.length : Nat) : Int) ≤ 16777216 := by rw [m1]; omega
   generalize bs[i] = b at *
   repeat (refine nst ?_)
   refine z0W (z0A (z3I rfl Tryz.underlying249 rfl (by decide) rfl rfl (by exact vcs) (by first | (simp; done) | (simp; omega) | omega) (by first | (simp; done) | (simp; omega) | (simp at *; omega) | omega)) rfl) (by rw [hn]; rfl) ?_
   rw [hx]
   have m4 : (((bs.take i).flatten.length : Nat) : Int) + (b.length : Int) ≤ 16777216 := by rw [eN]; exact m3
   repeat (refine nst ?_)
   rw [eN]
   repeat (refine nst ?_)
   refine z04 rfl (by simp) (fun h2 => ?_) (fun h2 => ?_)
   · have := of_decide_eq_true h2
     omega
   repeat (refine nst ?_)
   refine z0a ⟨i + 1, by omega⟩ (by dsimp only; omega) (St.le_of ⟨⟨rfl, rfl, rfl, rfl, rfl, rfl⟩, rfl⟩)
 · have hie : i = bs.length := by simp at hc; omega
   subst hie
   rw [List.take_length] at *
   clear hc
   repeat (refine nst ?_)
   refine z0r [] hlb rfl rfl (by rw [hn]; rfl) rfl rfl (by trivial) ⟨rfl, trivial, trivial, rfl⟩ ?_
   repeat (refine nst ?_)
   refine z1U rfl rfl rfl rfl rfl rfl (by rw [hn]; rfl) (z0j Tryz.underlying28 rfl rfl) rfl rfl rfl rfl (by exact vcs) (by first | rfl | (simp; done) | (simp; omega)) ⟨by first | (simp; done) | (simp; omega) | (simp at *; omega), by decide⟩ ?_
   repeat (refine nst ?_)
   have eT : List.take T.length T = T := List.take_length
   have eD : List.take D.length D = D := List.take_length
   rw [eD]
   have eTD : (T ++ D ++ (bs.take 0).flatten) = T ++ D := by simp
   rw [hlm]
   refine z0d (τ := St.of [(6, .c (.own 81 1 0 (T ++ D ++ (bs.take 0).flatten).length)), (44, z27 bs), (45, lv (.int .i64 (bs.length : Int))), (46, lv (.int .i64 ((0 : Nat) : Int)))] [(81, .row (.ints .u8 (T ++ D ++ (bs.take 0).flatten)))]) ?_ ?_
   · rw [eTD]
     exact St.le_of ⟨⟨rfl, rfl, rfl, rfl⟩, rfl⟩
   refine z0l (ι := {i : Nat // i ≤ bs.length}) (fun i => St.of [(6, .c (.own 81 1 0 (T ++ D ++ (bs.take i.1).flatten).length)), (44, z27 bs), (45, lv (.int .i64 (bs.length : Int))), (46, lv (.int .i64 (i.1 : Int)))] [(81, .row (.ints .u8 (T ++ D ++ (bs.take i.1).flatten)))]) (fun i => bs.length - i.1) (fun i => ?_) ⟨0, by omega⟩
   obtain ⟨i, hi⟩ := i
   dsimp only
   repeat (refine nst ?_)
   refine z04 rfl (by simp) (fun hc => ?_) (fun hc => ?_)
   · have hib : i < bs.length := by simpa using hc
     obtain ⟨m1, m2⟩ := hnext i hib
     have hx := hidx i hib
     rw [m1] at m2
     have eN : T ++ D ++ (bs.take (i + 1)).flatten = T ++ D ++ (bs.take i).flatten ++ bs[i] := by rw [m1, List.append_assoc (T ++ D)]
     have m4 : (T ++ D ++ (bs.take i).flatten).length + bs[i].length ≤ 16000100 := by simp only [List.length_append] at m2 ⊢; omega
     generalize bs[i] = b at *
     generalize T ++ D ++ (bs.take i).flatten = X at *
     repeat (refine nst ?_)
     refine z0W (z0A (z3I rfl Tryz.underlying249 rfl (by decide) rfl rfl (by exact vcs) (by first | (simp; done) | (simp; omega) | omega) (by first | (simp; done) | (simp; omega) | (simp at *; omega) | omega)) rfl) (by rw [hn]; rfl) ?_
     rw [hx]
     repeat (refine nst ?_)
     refine z1U rfl rfl rfl rfl rfl rfl (by rw [hn]; rfl) (z0j Tryz.underlying28 rfl rfl) rfl rfl rfl rfl (by exact vcs) (by first | rfl | (simp; done) | (simp; omega)) ⟨by first | (simp; done) | (simp; omega) | (simp at *; omega), by decide⟩ ?_
     repeat (refine nst ?_)
     refine z0a ⟨i + 1, by omega⟩ (by dsimp only; omega) (St.le_of ⟨⟨?_, rfl, rfl, rfl⟩, ?_⟩)
     · dsimp only
       rw [eN]
       rfl
     · dsimp only
       rw [eN]
       rfl
   · have hie : i = bs.length := by simp at hc; omega
     subst hie
     rw [List.take_length, ← hW] at *
     repeat (refine nst ?_)
     exact rt1 [81]
end Go.Proofs.YtaagjnlkinojcaaGreat

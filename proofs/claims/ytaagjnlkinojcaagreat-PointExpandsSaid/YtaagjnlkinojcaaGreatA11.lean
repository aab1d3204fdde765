/-
  What is read from a place on, is what is read of the bytes that lie there. The conditions: places within.
-/
import Derived.Test.YtaagjnlkinojcaaGreatW27
import Derived.Test.YtaagjnlkinojcaaGreatD8
import Derived.Test.YtaagjnlkinojcaaGreatC13
import Derived.Test.YtaagjnlkinojcaaGreatD15
import Derived.Test.YtaagjnlkinojcaaGreatC8
namespace Go.Proofs.YtaagjnlkinojcaaGreat
set_option linter.unusedSimpArgs false
set_option linter.unusedVariables false
open Go.Sx
set_option maxRecDepth 10000
def z30 : Nat → List (List Int) → List (List Int)
 | 0, rs => rs
 | j + 1, rs => if z0v (rs.getD (j + 1) []) (rs.getD j []) < 0 then z30 j ((rs.set (j + 1) (rs.getD j [])).set j (rs.getD (j + 1) [])) else rs
def z1K : Nat → Nat → List (List Int) → List (List Int)
 | _, 0, rs => rs
 | i, n + 1, rs => z1K (i + 1) n (z30 i rs)
theorem z7K : ∀ (j : Nat) (rs : List (List Int)), (z30 j rs).length = rs.length
 | 0, _ => rfl
 | j + 1, rs => by
   unfold z30
   split
   · rw [z7K]; simp
   · rfl
def z3d (rs : List (List Int)) : Prop := ∀ r ∈ rs, r.length ≤ 16000000
theorem z2z {rs : List (List Int)} (h : z3d rs) (i : Nat) : (rs.getD i []).length ≤ 16000000 := by
 rcases Nat.lt_or_ge i rs.length with hi | hi
 · rw [List.getD_eq_getElem?_getD, List.getElem?_eq_getElem hi]
   exact h _ (List.getElem_mem hi)
 · rw [List.getD_eq_getElem?_getD, List.getElem?_eq_none hi]
   exact Nat.zero_le _
theorem z68 {rs : List (List Int)} (h : z3d rs) (i : Nat) {x : List Int} (hx : x.length ≤ 16000000) : z3d (rs.set i x) := by
 intro r hr
 rcases List.mem_or_eq_of_mem_set hr with h1 | h1
 · exact h r h1
 · rw [h1]; exact hx
theorem z9n : ∀ (j : Nat) (rs : List (List Int)), z3d rs → z3d (z30 j rs)
 | 0, _, h => h
 | j + 1, rs, h => by
   unfold z30
   split
   · exact z9n j _ (z68 (z68 h _ (z2z h _)) _ (z2z h _))
   · exact h
abbrev z44 (rs : List (List Int)) : Blk := .row (.recs 1 (z1E rs))
set_option maxHeartbeats 4000000 in
theorem zfz (rs : List (List Int)) (hl : rs.length ≤ 1000) (hr : z3d rs) :
   Ct Tryz.prog 239 [.c (.own 0 1 0 rs.length), lv (.int .i64 0), lv (.int .i64 (rs.length : Int)), .c (.fn (.func 208) [] [])] [z44 rs] (.tup []) [z44 (z1K 1 (rs.length - 1) rs)] [] := by
 refine z00 Tryz.func239 rfl rfl rfl rfl rfl (fun E hn hb => ?_)
 repeat refine nx ?_
 refine z0d (St.le_of (l := [(0, .c (.own 0 1 0 rs.length)), (1, lv (.int .i64 0)), (2, lv (.int .i64 (rs.length : Int))), (3, .c (.fn (.func 208) [] [])), (8, lv (.int .i64 ((1 : Nat) : Int)))]) (h := [(0, z44 rs)]) (by refine ⟨?_, ?_⟩ <;> (repeat' (first | exact trivial | exact rfl | refine ⟨?_, ?_⟩)) <;> first | exact rfl | (simp; done) | skip)) ?_
 refine z0l (ι := {x : Nat × List (List Int) // 1 ≤ x.1 ∧ (x.1 ≤ rs.length ∨ rs.length = 0) ∧ x.2.length = rs.length ∧ z3d x.2 ∧ z1K x.1 (rs.length - x.1) x.2 = z1K 1 (rs.length - 1) rs}) (fun i => St.of [(0, .c (.own 0 1 0 rs.length)), (1, lv (.int .i64 0)), (2, lv (.int .i64 (rs.length : Int))), (3, .c (.fn (.func 208) [] [])), (8, lv (.int .i64 (i.1.1 : Int)))] [(0, z44 i.1.2)]) (fun i => rs.length - i.1.1) (fun i => ?_) ⟨(1, rs), by dsimp only; omega, by dsimp only; omega, rfl, hr, rfl⟩
 obtain ⟨⟨i, ts⟩, h0, h1, h2, h3, h4⟩ := i
 change 1 ≤ i at h0
 change i ≤ rs.length ∨ rs.length = 0 at h1
 change ts.length = rs.length at h2
 change z3d ts at h3
 change z1K i (rs.length - i) ts = _ at h4
 dsimp only
 by_cases hi : i < rs.length
 · repeat refine nx ?_
   refine z0d (St.le_of (l := [(0, .c (.own 0 1 0 rs.length)), (1, lv (.int .i64 0)), (2, lv (.int .i64 (rs.length : Int))), (3, .c (.fn (.func 208) [] [])), (8, lv (.int .i64 (i : Int))), (9, lv (.int .i64 (i : Int)))]) (h := [(0, z44 ts)]) (by refine ⟨?_, ?_⟩ <;> (repeat' (first | exact trivial | exact rfl | refine ⟨?_, ?_⟩)) <;> first | exact rfl | (simp; done) | skip)) ?_
   refine z0l (ι := {x : Nat × List (List Int) // x.1 ≤ i ∧ x.2.length = rs.length ∧ z3d x.2 ∧ z30 x.1 x.2 = z30 i ts}) (fun k => St.of [(0, .c (.own 0 1 0 rs.length)), (1, lv (.int .i64 0)), (2, lv (.int .i64 (rs.length : Int))), (3, .c (.fn (.func 208) [] [])), (8, lv (.int .i64 (i : Int))), (9, lv (.int .i64 (k.1.1 : Int)))] [(0, z44 k.1.2)]) (fun k => k.1.1) (fun k => ?_) ⟨(i, ts), Nat.le_refl _, h2, h3, rfl⟩
   obtain ⟨⟨j, us⟩, g0, g1, g2, g3⟩ := k
   change j ≤ i at g0
   change us.length = rs.length at g1
   change z3d us at g2
   change z30 j us = _ at g3
   dsimp only
   have hstep : z1K i (rs.length - i) ts = z1K (i + 1) (rs.length - (i + 1)) (z30 i ts) := by
     rw [show rs.length - i = (rs.length - (i + 1)) + 1 by omega, z1K]
   have hbl := z7K i ts
   have hbr := z9n i ts h3
   cases j with
   | zero =>
     rw [z30] at g3
     repeat refine nx ?_
     refine zcD (hF := z5o _ _ (z2z g2 _) (z2z g2 _)) ?_
     repeat refine nx ?_
     subst g3
     rw [h4] at hstep
     refine z0a ⟨(i + 1, z30 i ts), by dsimp only; omega, by dsimp only; omega, by dsimp only; omega, hbr, hstep.symm⟩ (by dsimp only; omega) (St.le_of ⟨⟨rfl, rfl, rfl, rfl, rfl⟩, rfl⟩)
   | succ j =>
     repeat refine nx ?_
     refine zcD (hF := z5o _ _ (z2z g2 _) (z2z g2 _)) ?_
     repeat refine nx ?_
     have e1 : 0 + ((j + 1 : Nat) : Int).toNat = j + 1 := by omega
     have e2 : 0 + (((j + 1 : Nat) : Int) - 1).toNat = j := by omega
     have e3 : ((j + 1 : Nat) : Int) - 1 = (j : Int) := by omega
     refine z04 rfl (by simp) (fun hc => ?_) (fun hc => ?_)
     · rw [e1, e2] at hc
       have hlt : z0v (us.getD (j + 1) []) (us.getD j []) < 0 := by
         generalize z0v (us.getD (j + 1) []) (us.getD j []) = C at hc ⊢
         simp at hc
         omega
       rw [z30, if_pos hlt] at g3
       repeat refine nx ?_
       refine z0a ⟨(j, (us.set (j + 1) (us.getD j [])).set j (us.getD (j + 1) [])), by dsimp only; omega, by simp [g1], z68 (z68 g2 _ (z2z g2 _)) _ (z2z g2 _), g3⟩ (by dsimp only; omega) (St.le_of ⟨⟨rfl, rfl, rfl, rfl, rfl, ?_⟩, ?_⟩)
       · show lv (.int .i64 (((j + 1 : Nat) : Int) - 1)) = _
         rw [e3]
       · show z44 ((us.set (0 + ((j + 1 : Nat) : Int).toNat) (us.getD (0 + (((j + 1 : Nat) : Int) - 1).toNat) [])).set (0 + (((j + 1 : Nat) : Int) - 1).toNat) (us.getD (0 + ((j + 1 : Nat) : Int).toNat) [])) = _
         rw [e1, e2]
     · rw [e1, e2] at hc
       have hlt : ¬ z0v (us.getD (j + 1) []) (us.getD j []) < 0 := by
         generalize z0v (us.getD (j + 1) []) (us.getD j []) = C at hc ⊢
         simp at hc
         omega
       rw [z30, if_neg hlt] at g3
       subst g3
       rw [h4] at hstep
       repeat refine nx ?_
       refine z0a ⟨(i + 1, z30 i ts), by dsimp only; omega, by dsimp only; omega, by dsimp only; omega, hbr, hstep.symm⟩ (by dsimp only; omega) (St.le_of ⟨⟨rfl, rfl, rfl, rfl, rfl⟩, rfl⟩)
 · have : rs.length - i = 0 := by omega
   rw [this, z1K] at h4
   rw [← h4]
   repeat refine nx ?_
   exact rt1 []

set_option maxHeartbeats 4000000 in
theorem z54 (l : List Int) (p : Nat) (hp : p ≤ l.length) (hl : l.length ≤ 12000000) (hw : WfB l) :
   Ct Tryz.prog 189 [B8 l, lv (.int .i64 (p : Int))] [] (.tup [.c (.lf (.recs 1 (z1E (z0V l p).1))), lv (.int .i64 (z0V l p).2)]) [] [] := by
 refine z00 Tryz.func189 rfl rfl rfl rfl rfl (fun E hn hb => ?_)
 repeat refine nx ?_
 refine z1a 6 900 1 (.recs 1 []) rfl rfl (.inr (.inr ⟨_, rfl⟩)) ?_
 refine z0d (St.le_of (l := [(0, B8 l), (1, lv (.int .i64 (p : Int))), (6, .c (.own 900 1 0 (z1E []).length))]) (h := [(900, .row (.recs 1 (z1E [])))]) (by refine ⟨?_, ?_⟩ <;> (repeat' (first | exact trivial | exact rfl | refine ⟨?_, ?_⟩)) <;> first | exact rfl | (simp; done) | skip)) ?_
 refine z0l (ι := {x : Nat × Nat × List (List Int) // p ≤ x.2.1 ∧ x.2.1 ≤ l.length ∧ l.length - x.2.1 < x.1 ∧ x.2.2.length ≤ x.2.1 ∧ z0U l x.1 x.2.1 x.2.2 = z0V l p}) (fun i => St.of [(0, B8 l), (1, lv (.int .i64 (i.1.2.1 : Int))), (6, .c (.own 900 1 0 (z1E i.1.2.2).length))] [(900, .row (.recs 1 (z1E i.1.2.2)))]) (fun i => l.length - i.1.2.1) (fun i => ?_) ⟨(l.length + 1, p, []), Nat.le_refl _, hp, by dsimp only; omega, Nat.zero_le _, rfl⟩
 obtain ⟨⟨n, q, acc⟩, h0, h1, h2, h3, h4⟩ := i
 change p ≤ q at h0
 change q ≤ l.length at h1
 change l.length - q < n at h2
 change acc.length ≤ q at h3
 change z0U l n q acc = z0V l p at h4
 dsimp only
 obtain ⟨n, rfl⟩ : ∃ m, n = m + 1 := ⟨n - 1, by omega⟩
 by_cases hq : q < l.length
 · have ho := zd9 l q h1 (by omega) hw
   have hf := zbQ l q hq hw
   have hst := z6R l n q acc hq
   have her : ¬ (z13 l q).2.2.2.1 = 0 → z0U l (n + 1) q acc = ([], (z13 l q).2.2.2.1) := fun h => by rw [z0U, if_neg (by omega), if_pos h]
   have hpos := z1Z l q hw
   have hle := z1g l q h1
   unfold z13 at hf hst her
   generalize z09 l q = O at *
   obtain ⟨⟨⟨t1, t2, t3⟩, a⟩, r, e⟩ := O
   dsimp only at *
   by_cases he : e = 0
   · subst he
     rw [if_neg (by simp)] at hf hst her
     by_cases hx : (l.length : Int) - r < a
     · rw [if_pos hx] at hf hst her
       rw [h4] at her
       rw [her (by simp)]
       repeat refine nx ?_
       exact rtU []
     · rw [if_neg hx] at hf hst her
       dsimp only at hf hst
       have hf := hf rfl
       have hsl : (l.drop q).take (r - q + a.toNat) = (l.take ((r : Int) + a).toNat).drop (q : Int).toNat := by
         rw [Int.toNat_natCast, List.drop_take]
         congr 1
         omega
       have hrec : z1E (acc ++ [(l.drop q).take (r - q + a.toNat)]) = z1E acc ++ [[.ints .u8 ((l.take ((r : Int) + a).toNat).drop (q : Int).toNat)]] := by rw [hsl]; simp [z1E]
       rw [hst rfl] at h4
       repeat refine nx ?_
       refine z0a ⟨(n, r + a.toNat, acc ++ [(l.drop q).take (r - q + a.toNat)]), by dsimp only; omega, by dsimp only; omega, by dsimp only; omega, by dsimp only; simp; omega, h4⟩ (by dsimp only; omega) (St.le_of ⟨⟨rfl, ?_, ?_⟩, ?_⟩)
       · exact congrArg (fun x => lv (.int .i64 x)) (show (r : Int) + a = ((r + a.toNat : Nat) : Int) by omega)
       · dsimp only; rw [hrec]; show _ = _; rfl
       · dsimp only; rw [hrec]; show _ = _; rfl
   · rw [if_pos he] at hf hst her
     have her := her he
     rw [h4] at her
     rw [her]
     repeat refine nx ?_
     exact rtU []
 · have hw0 : z0V l p = (acc, 0) := by rw [← h4, z0U, if_pos (by omega)]
   rw [hw0]
   obtain rfl : q = l.length := by omega
   repeat refine nx ?_
   refine z2C 4 ?_
   exact rtU []

theorem zdY (rs : List (List Int)) (hl : rs.length ≤ 19) (hr : z3d rs) :
   Ct Tryz.prog 230 [.c (.own 0 1 0 rs.length), lv (.int .i64 (rs.length : Int)), .c (.fn (.func 208) [] [])] [z44 rs] (.tup []) [z44 (z1K 1 (rs.length - 1) rs)] [] := by
 have h := zfz rs (by omega) hr
 refine z00 Tryz.func230 rfl rfl rfl rfl rfl (fun E hn hb => ?_)
 repeat refine nx ?_
 refine zdI ?_
 repeat refine nx ?_
 refine zdI ?_
 repeat refine nx ?_
 exact rt1 []
theorem zfA (rs : List (List Int)) (hl : rs.length ≤ 19) (hr : z3d rs) :
   Ct Tryz.prog 215 [.c (.own 0 1 0 rs.length), .c (.fn (.func 208) [] [])] [z44 rs] (.tup []) [z44 (z1K 1 (rs.length - 1) rs)] [] := by
 have h := zdY rs hl hr
 refine z00 Tryz.func215 rfl rfl rfl rfl rfl (fun E hn hb => ?_)
 repeat refine nx ?_
 exact rt1 []
theorem zdZ (rs : List (List Int)) (hl : rs.length ≤ 1000) : Ct Tryz.prog 214 [z27 rs] [] (.c (.own 0 1 0 rs.length)) [] [z44 rs] := by
 refine z00 Tryz.func214 rfl rfl rfl rfl rfl (fun E hn hb => ?_)
 repeat refine nx ?_
 refine z6E (neg := false) rfl rfl (by rw [hn]; rfl) Tryz.underlying249 rfl (by simp) (by simp [szD]) (fun b hbl => ?_)
 simp [z0c] at hbl
 cases b with
 | true =>
   obtain rfl := hbl rfl
   repeat refine nx ?_
   refine z5g 2 64 1 (.recs 1 []) rfl rfl (.inr (.inr ⟨_, rfl⟩)) ?_
   exact rt1 [64]
 | false =>
   repeat refine nx ?_
   refine rt2 [69] ?_ ?_
   · simp; rfl
   · simp; rfl
def z3R (rs : List (List Int)) : List (List Int) := z1K 1 (rs.length - 1) rs
theorem z8n : ∀ (n i : Nat) (rs : List (List Int)), (z1K i n rs).length = rs.length
 | 0, _, _ => rfl
 | n + 1, i, rs => by rw [z1K, z8n n, z7K]
theorem zfB (rs : List (List Int)) (hl : rs.length ≤ 19) (hr : z3d rs) (hf : (z3R rs).flatten.length ≤ 16000000) :
   Ct Tryz.prog 185 [z27 rs] [] (.tup [B8 (z0i (ofT 17) (z3R rs).flatten), lv (.int .i64 0)]) [] [] := by
 have h1 := zdZ rs (by omega)
 have h2 := zfA rs hl hr
 have hil := z8n (rs.length - 1) 1 rs
 have h3 := z1I 17
 have h4 := z7i (ofT 17) (z3R rs) (by decide) (by unfold z3R; omega) hf
 change Ct Tryz.prog _ _ _ _ [z44 (z3R rs)] _ at h2
 change (z3R rs).length = _ at hil
 generalize z3R rs = ss at *
 generalize z0i (ofT 17) ss.flatten = W at *
 refine z00 Tryz.func185 rfl rfl rfl rfl rfl (fun E hn hb => ?_)
 repeat refine nx ?_
 rw [← hil]
 refine zcG 10 ?_
 repeat refine nx ?_
 exact rtU []
def atO (out : List (List Int)) (x : List Int) : Nat → Nat
 | 0 => 0
 | n + 1 => if 0 < z0v (out.getD n []) x then atO out x n else n + 1
def z69 (out : List (List Int)) (x : List Int) : List (List Int) := out.take (atO out x out.length) ++ x :: out.drop (atO out x out.length)
def z4r : List (List Int) → List (List Int) → List (List Int)
 | [], out => out
 | x :: l, out => z4r l (z69 out x)

theorem z9o (rs : List (List Int)) (i : Nat) (h : i < rs.length) : (rs.take (i + 1)).flatten = (rs.take i).flatten ++ rs.getD i [] ∧ (rs.take (i + 1)).flatten.length ≤ rs.flatten.length := by
 refine ⟨by rw [List.take_succ_eq_append_getElem h, List.flatten_append, List.flatten_cons, List.flatten_nil, List.append_nil, List.getD_eq_getElem?_getD, List.getElem?_eq_getElem h]; rfl, ?_⟩
 have := congrArg List.length (congrArg List.flatten (List.take_append_drop (i + 1) rs))
 simp only [List.flatten_append, List.length_append] at this
 omega
theorem zh1 (out : List (List Int)) (x : List Int) : (z69 out x).length = out.length + 1 := by
 unfold z69
 simp
 omega

theorem z6K : ∀ a b : List Int, z0v a b < 0 ↔ 0 < z0v b a
 | [], [] => by simp [z0v]
 | [], _ :: _ => by simp [z0v]
 | _ :: _, [] => by simp [z0v]
 | x :: a, y :: b => by
   have ih := z6K a b
   simp only [z0v]
   (repeat' split) <;> first | omega | exact ih
theorem zfC (P D : List (List Int)) (o x : List Int) : (((P ++ [o]) ++ x :: D).set (P.length + 1) o).set P.length x = P ++ x :: (o :: D) := by
 rw [List.append_assoc, List.set_append_right _ _ (by omega), show P.length + 1 - P.length = 1 by omega, List.set_append_right _ _ (by omega), Nat.sub_self]
 rfl
theorem zbF (out rest : List (List Int)) (x : List Int) : ∀ k, k ≤ out.length → z30 k (out.take k ++ x :: (out.drop k ++ rest)) = out.take (atO out x k) ++ x :: (out.drop (atO out x k) ++ rest)
 | 0, _ => rfl
 | k + 1, hk => by
   have ht : out.take (k + 1) = out.take k ++ [out.getD k []] := by
     rw [List.take_succ_eq_append_getElem (by omega), List.getD_eq_getElem?_getD, List.getElem?_eq_getElem (by omega)]; rfl
   have hd : out.drop k = out.getD k [] :: out.drop (k + 1) := by
     rw [List.drop_eq_getElem_cons (by omega), List.getD_eq_getElem?_getD, List.getElem?_eq_getElem (by omega)]; rfl
   have hl : (out.take k).length = k := by simp; omega
   rw [ht, z30, atO]
   have g1 : (out.take k ++ [out.getD k []] ++ x :: (out.drop (k + 1) ++ rest)).getD (k + 1) [] = x := by
     rw [List.getD_eq_getElem?_getD, List.getElem?_append_right (by simp; omega)]
     simp [hl]
   have g2 : (out.take k ++ [out.getD k []] ++ x :: (out.drop (k + 1) ++ rest)).getD k [] = out.getD k [] := by
     rw [List.getD_eq_getElem?_getD, List.append_assoc, List.getElem?_append_right (by omega), hl, Nat.sub_self]
     rfl
   rw [g1, g2]
   by_cases h : z0v x (out.getD k []) < 0
   · rw [if_pos h, if_pos ((z6K _ _).1 h)]
     have sw := zfC (out.take k) (out.drop (k + 1) ++ rest) (out.getD k []) x
     rw [hl] at sw
     rw [sw, ← List.cons_append, ← hd]
     exact zbF out rest x k (by omega)
   · rw [if_neg h, if_neg (fun h2 => h ((z6K _ _).2 h2)), ht]
theorem z7t : ∀ (l out : List (List Int)), z1K out.length l.length (out ++ l) = z4r l out
 | [], out => by simp [z1K, z4r]
 | x :: l, out => by
   have h := zbF out l x out.length (Nat.le_refl _)
   rw [List.take_length, List.drop_length, List.nil_append] at h
   rw [List.length_cons, z1K, h, z4r]
   have e : out.take (atO out x out.length) ++ x :: (out.drop (atO out x out.length) ++ l) = z69 out x ++ l := by simp [z69]
   rw [e, ← zh1 out x]
   exact z7t l (z69 out x)
theorem zaA (rs : List (List Int)) : z3R rs = z4r rs [] := by
 cases rs with
 | nil => rfl
 | cons x l => exact z7t l [x]

theorem zaB (a b c : List Int) (t : z0q) (h : z0z t = true) (hb : b.length ≤ 16777216) : z09 (a ++ (z0i t b ++ c)) a.length = ((t, (b.length : Int)), a.length + (tgL t).length + (z10 b.length).length, 0) := by
 have e0 : z0i t b ++ c = tgL t ++ (z10 b.length ++ (b ++ c)) := by simp [z0i]
 have e1 := zbK a (z10 b.length ++ (b ++ c)) t h
 have e2 := zbL (a ++ tgL t) (b ++ c) b.length hb (.inr trivial)
 rw [e0]
 unfold z09 z2m
 rw [e1]
 dsimp only
 rw [if_pos rfl, ← List.append_assoc, ← List.length_append, e2]
 rfl

def shP {α : Type} (k : Nat) (r : α × Nat × Int) : α × Nat × Int := (r.1, k + r.2.1, r.2.2)
theorem z7L {α : Type} (z : α) (k p : Nat) (r : α × Nat × Int) : z0S z (k + p) (shP k r) = shP k (z0S z p r) := by
 unfold z0S shP
 dsimp only
 split <;> rfl
theorem z7g (b : List Int) (k p : Nat) : (b.drop k).getD p 0 = b.getD (k + p) 0 := by
 rw [List.getD_eq_getElem?_getD, List.getD_eq_getElem?_getD, List.getElem?_drop]
theorem z9M (b : List Int) (k p : Nat) : p < (b.drop k).length ↔ k + p < b.length := by simp; omega
theorem znB (b : List Int) (k p : Nat) (hk : k ≤ b.length) : (b.drop k).length < p ↔ b.length < k + p := by simp; omega
theorem zbG (b : List Int) (k : Nat) : ∀ (f p : Nat) (n : Int), z0R b f (k + p) n = shP k (z0R (b.drop k) f p n)
 | 0, p, n => by
   unfold z0R
   simp only [z9M]
   split <;> rfl
 | f + 1, p, n => by
   have ih := zbG b k f (p + 1) (128 * n + b.getD (k + p) 0 % 128)
   unfold z0R
   simp only [z9M, z7g]
   split
   · split
     · rfl
     · split
       · split <;> rfl
       · exact ih
   · rfl
theorem zh2 (b : List Int) (k p : Nat) : z0H b (k + p) = shP k (z0H (b.drop k) p) := by
 have hn : z0R b 3 (k + p + 1) 0 = shP k (z0R (b.drop k) 3 (p + 1) 0) := zbG b k 3 (p + 1) 0
 have hr : z2l b (k + p) = shP k (z2l (b.drop k) p) := by
   unfold z2l
   simp only [z9M, z7g, hn]
   split
   · split <;> rfl
   · rfl
 unfold z0H
 rw [hr, z7L]
theorem zfD (b : List Int) (k p n : Nat) (hk : k ≤ b.length) : z29 b (k + p) n = shP k (z29 (b.drop k) p n) := by
 unfold z29
 simp only [znB b k _ hk, z7g, List.drop_drop, Nat.add_assoc]
 repeat' split
 all_goals simp [shP, Nat.add_assoc]
theorem zh3 (b : List Int) (k p : Nat) (hk : k ≤ b.length) : lenP b (k + p) = shP k (lenP (b.drop k) p) := by
 have hl : ∀ n, z29 b (k + p + 1) n = shP k (z29 (b.drop k) (p + 1) n) := fun n => zfD b k (p + 1) n hk
 have hr : z2J b (k + p) = shP k (z2J (b.drop k) p) := by
   unfold z2J
   simp only [z9M, z7g, hl]
   repeat' split
   all_goals rfl
 unfold lenP
 rw [hr, z7L]
theorem zfE (b : List Int) (k p : Nat) (hk : k ≤ b.length) : z09 b (k + p) = shP k (z09 (b.drop k) p) := by
 have ht := zh2 b k p
 have hr : z2m b (k + p) = shP k (z2m (b.drop k) p) := by
   unfold z2m
   rw [ht]
   have hl := zh3 b k (z0H (b.drop k) p).2.1 hk
   unfold shP at hl ⊢
   dsimp only
   rw [hl]
   split <;> rfl
 unfold z09
 rw [hr, z7L]
theorem zcU (x : List Int) (p : Nat) (hp : p < x.length) (h0 : (z09 x p).2.2 = 0) (h1 : (z09 x p).1.2 = (x.length : Int) - ((z09 x p).2.1 : Int)) : z0V (x.drop p) 0 = ([x.drop p], 0) := by
 have hle := z1g x p (by omega)
 have hs := zfE x p 0 (by omega)
 rw [Nat.add_zero] at hs
 rw [hs] at h0 h1 hle
 generalize hr : z09 (x.drop p) 0 = R at *
 obtain ⟨⟨t, n⟩, q, e⟩ := R
 unfold shP at *
 dsimp only at *
 subst h0
 have hlen : (x.drop p).length = x.length - p := by simp
 have hone : z13 (x.drop p) 0 = (x.drop p, t, ((x.drop p).drop q).take n.toNat, 0, x.length - p) := by
   unfold z13
   rw [hr]
   dsimp only
   rw [if_neg (by simp), if_neg (by rw [hlen]; omega), List.drop_zero, List.take_of_length_le (by rw [hlen]; omega), show q + n.toNat = x.length - p by omega]
 unfold z0V
 rw [hlen, show x.length - p + 1 = (x.length - p - 1) + 1 + 1 by omega, z0U, if_neg (by rw [hlen]; omega), hone]
 dsimp only
 rw [if_neg (by simp), z0U, if_pos (by rw [hlen]; omega)]
 rfl
end Go.Proofs.YtaagjnlkinojcaaGreat

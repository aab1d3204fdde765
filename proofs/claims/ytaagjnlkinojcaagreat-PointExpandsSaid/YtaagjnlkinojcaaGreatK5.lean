/-
  Chapter 16: the law PointExpands. The conditions: rows that a machine can hold.
-/
import Derived.Test.YtaagjnlkinojcaaGreatJ4
import Derived.Test.YtaagjnlkinojcaaGreatE5
import Derived.Test.YtaagjnlkinojcaaGreatQ27
import Derived.Test.YtaagjnlkinojcaaGreatQ14
import Derived.Test.YtaagjnlkinojcaaGreatQ23
namespace Go.Proofs.YtaagjnlkinojcaaGreat
set_option linter.unusedSimpArgs false
set_option linter.unusedVariables false
open Go.Sx
set_option maxRecDepth 10000
set_option maxHeartbeats 8000000 in
theorem zcK (r : List AtT) (hr : r.length ≤ 16000000) (hb1 : ∀ a ∈ r, AtB a) : Ct Tryz.prog 134 [z2Q r] [] (z2Q r) [] [] := by
 have hml : (r.map atL).length = r.length := List.length_map ..
 refine z00 Tryz.func134 rfl rfl rfl rfl rfl (fun E hn hb => ?_)
 repeat refine nx ?_
 refine z1a 3 900 2 (.recs 2 []) rfl rfl (.inr (.inr ⟨_, rfl⟩)) ?_
 rw [hml]
 refine z0d (St.le_of (l := [(3, .c (.own 900 2 0 ((r.take 0).map atL).length)), (6, z2Q r), (7, lv (.int .i64 (r.length : Int))), (8, lv (.int .i64 ((0 : Nat) : Int)))]) (h := [(900, .row (.recs 2 ((r.take 0).map atL)))]) (by refine ⟨?_, ?_⟩ <;> (repeat' (first | exact trivial | exact rfl | refine ⟨?_, ?_⟩)) <;> first | exact rfl | (simp; done) | skip)) ?_
 refine z0l (ι := {i : Nat // i ≤ r.length}) (fun i => St.of [(3, .c (.own 900 2 0 ((r.take i.1).map atL).length)), (6, z2Q r), (7, lv (.int .i64 (r.length : Int))), (8, lv (.int .i64 (i.1 : Int)))] [(900, .row (.recs 2 ((r.take i.1).map atL)))]) (fun i => r.length - i.1) (fun i => ?_) ⟨0, Nat.zero_le _⟩
 obtain ⟨i, hi⟩ := i
 dsimp only
 have hrt : ((r.take i).map atL).length = i := by rw [List.length_map, List.length_take]; omega
 by_cases hi2 : i < r.length
 · have hq : r.getD (i : Int).toNat default = r.getD i atD := rfl
   have hab := hb1 _ (z1s (d := atD) hi2)
   have hsr := z1C (d := atD) hi2
   generalize hB : r.getD i atD = a at *
   obtain ⟨o, v⟩ := a
   have h1 := z8m o (by have := hab.o; dsimp only at this; omega)
   have h2 := z7R v (by have := hab.l; dsimp only at this; omega)
   repeat (first | refine nxw ?_ | rw [hq])
   refine duF [85] [(9, 85), (9, 900)] ?_
   repeat (first | refine nx ?_ | rw [hq])
   refine z4T (fun a w h => SR.mv 85 900 rfl rfl rfl rfl rfl h) ?_
   refine z0a ⟨i + 1, by omega⟩ (by dsimp only; omega) (St.le_of ⟨⟨?_, rfl, rfl, rfl⟩, ?_⟩)
   · dsimp only; rw [hsr, z2k]; rfl
   · dsimp only; rw [hsr, z2k]; rfl
 · obtain rfl : i = r.length := by omega
   rw [List.take_length]
   repeat refine nx ?_
   refine z2C 2 ?_
   exact rt1 []
set_option maxHeartbeats 8000000 in
theorem zar (n : List (List AtT)) (hb1 : NmB n) : Ct Tryz.prog 72 [nmV n] [] (gnA (4, [], n)) [] [] := by
 have hml : (nmR n).length = n.length := List.length_map ..
 have hlb := hb1.1
 refine z00 Tryz.func72 rfl rfl rfl rfl rfl (fun E hn hb => ?_)
 repeat refine nx ?_
 rw [hml]
 refine z0d (St.le_of (l := [(2, .c (.ptr 66 0)), (3, .c (.own 73 1 0 (nmR (n.take 0)).length)), (10, nmV n), (11, lv (.int .i64 (n.length : Int))), (12, lv (.int .i64 ((0 : Nat) : Int)))]) (h := [(66, .cells [z4y 0, .lf (.v (.slice none 0 0)), .lf (.v (.slice none 0 0))]), (73, .row (.recs 1 (nmR (n.take 0))))]) (by refine ⟨?_, ?_⟩ <;> (repeat' (first | exact trivial | exact rfl | refine ⟨?_, ?_⟩)) <;> first | exact rfl | (simp; done) | skip)) ?_
 refine z0l (ι := {i : Nat // i ≤ n.length}) (fun i => St.of [(2, .c (.ptr 66 0)), (3, .c (.own 73 1 0 (nmR (n.take i.1)).length)), (10, nmV n), (11, lv (.int .i64 (n.length : Int))), (12, lv (.int .i64 (i.1 : Int)))] [(66, .cells [z4y 0, .lf (.v (.slice none 0 0)), .lf (.v (.slice none 0 0))]), (73, .row (.recs 1 (nmR (n.take i.1))))]) (fun i => n.length - i.1) (fun i => ?_) ⟨0, Nat.zero_le _⟩
 obtain ⟨i, hi⟩ := i
 dsimp only
 have hmt : (nmR (n.take i)).length = i := by rw [List.length_map, List.length_take]; omega
 by_cases hi2 : i < n.length
 · have hq : n.getD (i : Int).toNat [] = n.getD i [] := rfl
   obtain ⟨hbl, hba⟩ := hb1.2 _ (z1s (d := []) hi2)
   have hsn := z1C (d := []) hi2
   generalize hA : n.getD i [] = r at *
   have hmr : (r.map atL).length = r.length := List.length_map ..
   repeat (first | refine nx ?_ | rw [hq])
   refine z1a 6 901 2 (.recs 2 []) rfl rfl (.inr (.inr ⟨_, rfl⟩)) ?_
   rw [hmr]
   refine z0d (St.le_of (l := [(2, .c (.ptr 66 0)), (3, .c (.own 73 1 0 (nmR (n.take i)).length)), (10, nmV n), (11, lv (.int .i64 (n.length : Int))), (12, lv (.int .i64 (i : Int))), (6, .c (.own 901 2 0 ((r.take 0).map atL).length)), (16, z2Q r), (17, lv (.int .i64 (r.length : Int))), (18, lv (.int .i64 ((0 : Nat) : Int)))]) (h := [(66, .cells [z4y 0, .lf (.v (.slice none 0 0)), .lf (.v (.slice none 0 0))]), (73, .row (.recs 1 (nmR (n.take i)))), (901, .row (.recs 2 ((r.take 0).map atL)))]) (by refine ⟨?_, ?_⟩ <;> (repeat' (first | exact trivial | exact rfl | refine ⟨?_, ?_⟩)) <;> first | exact rfl | (simp; done) | skip)) ?_
   refine z0l (ι := {j : Nat // j ≤ r.length}) (fun j => St.of [(2, .c (.ptr 66 0)), (3, .c (.own 73 1 0 (nmR (n.take i)).length)), (10, nmV n), (11, lv (.int .i64 (n.length : Int))), (12, lv (.int .i64 (i : Int))), (6, .c (.own 901 2 0 ((r.take j.1).map atL).length)), (16, z2Q r), (17, lv (.int .i64 (r.length : Int))), (18, lv (.int .i64 (j.1 : Int)))] [(66, .cells [z4y 0, .lf (.v (.slice none 0 0)), .lf (.v (.slice none 0 0))]), (73, .row (.recs 1 (nmR (n.take i)))), (901, .row (.recs 2 ((r.take j.1).map atL)))]) (fun j => r.length - j.1) (fun j => ?_) ⟨0, Nat.zero_le _⟩
   obtain ⟨j, hj⟩ := j
   dsimp only
   have hrt : ((r.take j).map atL).length = j := by rw [List.length_map, List.length_take]; omega
   by_cases hj2 : j < r.length
   · have hq2 : r.getD (j : Int).toNat default = r.getD j atD := rfl
     have hab := hba _ (z1s (d := atD) hj2)
     have hsr := z1C (d := atD) hj2
     generalize hB : r.getD j atD = a at *
     obtain ⟨o, v⟩ := a
     have h1 := z8m o (by have := hab.o; dsimp only at this; omega)
     have h2 := z7R v (by have := hab.l; dsimp only at this; omega)
     repeat (first | refine nxw ?_ | rw [hq2])
     refine duF [95] [(9, 95), (9, 901)] ?_
     repeat (first | refine nx ?_ | rw [hq2])
     refine z4T (fun a w h => SR.mv 95 901 rfl rfl rfl rfl rfl h) ?_
     refine z0a ⟨j + 1, by omega⟩ (by dsimp only; omega) (St.le_of ⟨⟨rfl, rfl, rfl, rfl, rfl, ?_, rfl, rfl, rfl⟩, ⟨rfl, rfl, ?_⟩⟩)
     · dsimp only; rw [hsr, z2k]; rfl
     · dsimp only; rw [hsr, z2k]; rfl
   · obtain rfl : j = r.length := by omega
     repeat (first | refine nx ?_ | rw [hq])
     rw [List.take_length]
     refine zcG 34 ?_
     repeat refine nx ?_
     refine z0a ⟨i + 1, by omega⟩ (by dsimp only; omega) (St.le_of ⟨⟨rfl, ?_, rfl, rfl, rfl⟩, ⟨rfl, ?_⟩⟩)
     · dsimp only; rw [hsn, z2j]; rfl
     · dsimp only; rw [hsn, z2j]; rfl
 · obtain rfl : i = n.length := by omega
   rw [List.take_length]
   repeat refine nx ?_
   refine zlY 73 66 ?_
   refine rtU [] (hu := ?_)
   exact ⟨.inl rfl, .inr ⟨rfl, .inl ⟨_, rfl⟩⟩, .inl rfl, trivial⟩

theorem zgW (n : Nat) (hl : n ≤ 40000000) : Ct Tryz.prog 179 [lv (.slice none 0 0), lv (.int .i64 (n : Int))] [] (.c (.own 0 1 0 0)) [] [.row (.recs 1 [])] := by
 by_cases h0 : n = 0
 · subst h0
   refine z00 Tryz.func179 rfl rfl rfl rfl rfl (fun E hn hb => ?_)
   repeat refine nx ?_
   refine zb7 rfl rfl rfl rfl rfl rfl (by rw [hn]; rfl) Tryz.underlying59 rfl (by trivial) ?_
   repeat refine nx ?_
   refine z5g 4 900 1 (.recs 1 []) rfl rfl (.inr (.inr ⟨_, rfl⟩)) ?_
   exact rt1 [900]
 · refine z00 Tryz.func179 rfl rfl rfl rfl rfl (fun E hn hb => ?_)
   repeat refine nx ?_
   refine zb7 rfl rfl rfl rfl rfl rfl (by rw [hn]; rfl) Tryz.underlying59 rfl (by trivial) ?_
   repeat refine nx ?_
   refine zb7 rfl rfl rfl rfl rfl rfl (by rw [hn]; rfl) Tryz.underlying59 rfl (by trivial) ?_
   repeat refine nx ?_
   refine znO rfl rfl rfl (by rw [hn]; rfl) Tryz.underlying59 rfl rfl rfl (by trivial) ?_
   repeat refine nx ?_
   refine zhx (n := n) rfl rfl rfl rfl rfl rfl (by rw [hn]; rfl) (z0j Tryz.underlying59 rfl rfl) rfl Tryz.underlying3 rfl rfl (by trivial) ⟨by omega, by omega, by decide⟩ ?_
   repeat refine nx ?_
   exact rt1 [86]
def szC (n m : Nat) : Nat → Int
 | 0 => 0
 | 1 => (n : Int)
 | _ => ((n + m : Nat) : Int)
def prC (n m : List (List AtT)) : Nat → List (List AtT)
 | 0 => []
 | 1 => n
 | _ => n ++ m
abbrev z7G (n m : List (List AtT)) : Av := .c (.lf (.recs 1 [[nmL n], [nmL m]]))
set_option maxHeartbeats 8000000 in
theorem zdO (n m : List (List AtT)) (h1 : n.length ≤ 16000000) (h2 : m.length ≤ 16000000) : Ct Tryz.prog 133 [z7G n m] [] (nmV (n ++ m)) [] [] := by
 have hg := zgW (n.length + m.length) (by omega)
 have he : nmR n ++ nmR m = nmR (n ++ m) := List.map_append.symm
 have hln : (nmR n).length = n.length := List.length_map ..
 have hlm : (nmR m).length = m.length := List.length_map ..
 refine z00 Tryz.func133 rfl rfl rfl rfl rfl (fun E hn hb => ?_)
 repeat refine nx ?_
 refine z0d (St.le_of (l := [(0, z7G n m), (3, lv (.int .i64 (szC n.length m.length 0))), (9, z7G n m), (10, lv (.int .i64 2)), (11, lv (.int .i64 ((0 : Nat) : Int)))]) (h := []) (by refine ⟨?_, ?_⟩ <;> (repeat' (first | exact trivial | exact rfl | refine ⟨?_, ?_⟩)) <;> first | exact rfl | (simp; done) | skip)) ?_
 refine z0l (ι := {i : Nat // i ≤ 2}) (fun i => St.of [(0, z7G n m), (3, lv (.int .i64 (szC n.length m.length i.1))), (9, z7G n m), (10, lv (.int .i64 2)), (11, lv (.int .i64 (i.1 : Int)))] []) (fun i => 2 - i.1) (fun i => ?_) ⟨0, Nat.zero_le _⟩
 obtain ⟨i, hi⟩ := i
 dsimp only
 obtain rfl | rfl | rfl : i = 0 ∨ i = 1 ∨ i = 2 := by omega
 · simp only [szC]
   repeat refine nx ?_
   refine z0a ⟨1, by omega⟩ (by dsimp only; omega) (St.le_of ⟨⟨rfl, congrArg (fun x => lv (.int .i64 x)) ?_, rfl, rfl, rfl⟩, trivial⟩)
   show (0 : Int) + ((nmR n).length : Int) = (n.length : Int)
   omega
 · simp only [szC]
   repeat refine nx ?_
   refine z0a ⟨2, by omega⟩ (by dsimp only; omega) (St.le_of ⟨⟨rfl, congrArg (fun x => lv (.int .i64 x)) ?_, rfl, rfl, rfl⟩, trivial⟩)
   show (n.length : Int) + ((nmR m).length : Int) = ((n.length + m.length : Nat) : Int)
   omega
 · simp only [szC]
   repeat refine nx ?_
   refine z0d (St.le_of (l := [(6, .c (.own 88 1 0 (nmR (prC n m 0)).length)), (25, z7G n m), (26, lv (.int .i64 2)), (27, lv (.int .i64 ((0 : Nat) : Int)))]) (h := [(88, .row (.recs 1 (nmR (prC n m 0))))]) (by refine ⟨?_, ?_⟩ <;> (repeat' (first | exact trivial | exact rfl | refine ⟨?_, ?_⟩)) <;> first | exact rfl | (simp; done) | skip)) ?_
   refine z0l (ι := {i : Nat // i ≤ 2}) (fun i => St.of [(6, .c (.own 88 1 0 (nmR (prC n m i.1)).length)), (25, z7G n m), (26, lv (.int .i64 2)), (27, lv (.int .i64 (i.1 : Int)))] [(88, .row (.recs 1 (nmR (prC n m i.1))))]) (fun i => 2 - i.1) (fun i => ?_) ⟨0, Nat.zero_le _⟩
   obtain ⟨i, hi⟩ := i
   dsimp only
   obtain rfl | rfl | rfl : i = 0 ∨ i = 1 ∨ i = 2 := by omega
   · simp only [prC]
     repeat refine nx ?_
     refine z0a ⟨1, by omega⟩ (by dsimp only; omega) (St.le_of ⟨⟨rfl, rfl, rfl, rfl⟩, ?_⟩)
     exact (rfl : Blk.row (.recs 1 ([] ++ nmR n)) = Blk.row (.recs 1 (nmR n)))
   · simp only [prC]
     repeat refine nx ?_
     refine z0a ⟨2, by omega⟩ (by dsimp only; omega) (St.le_of ⟨⟨?_, rfl, rfl, rfl⟩, ?_⟩)
     · exact congrArg (fun l : List (List Leaf) => Av.c (.own 88 1 0 l.length)) he
     · exact congrArg (fun l : List (List Leaf) => Blk.row (.recs 1 l)) he
   · simp only [prC]
     repeat refine nx ?_
     refine z2C 2 ?_
     exact rt1 []
theorem z5f {n : List (List AtT)} {r : List AtT} (h : NmB n) (hr : r.length ≤ 16000000 ∧ ∀ a ∈ r, AtB a) (hl : n.length < 16000000) : NmB (n ++ [r]) := by
 refine ⟨by rw [List.length_append, List.length_singleton]; omega, fun x hx => ?_⟩
 rcases List.mem_append.1 hx with h1 | h1
 · exact h.2 x h1
 · obtain rfl := List.mem_singleton.1 h1
   exact hr
set_option maxHeartbeats 8000000 in
theorem zgX (n : List (List AtT)) (r : List AtT) (h : NmB n) (hr : r.length ≤ 16000000 ∧ ∀ a ∈ r, AtB a) (hl : n.length < 16000000) : Ct Tryz.prog 71 [nmV n, nmV [r]] [] (.tup [nmV (if z0F (n ++ [r]) = true then n ++ [r] else []), lv (.int .i64 (if z0F (n ++ [r]) = true then 0 else 1))]) [] [] := by
 have hbm := z5f h hr hl
 have hc := zdO n [r] h.1 (Nat.le_of_ble_eq_true rfl)
 have hrt := z4E _ hbm
 have hml : (nmR (n ++ [r])).length = (n ++ [r]).length := List.length_map ..
 have hnl := hbm.1
 generalize n ++ [r] = N at *
 refine z00 Tryz.func71 rfl rfl rfl rfl rfl (fun E hn hb => ?_)
 repeat refine nx ?_
 rw [hml]
 refine z0d (St.le_of (l := [(6, .c (.own 73 1 0 (nmR (N.take 0)).length)), (13, nmV N), (14, lv (.int .i64 (N.length : Int))), (15, lv (.int .i64 ((0 : Nat) : Int)))]) (h := [(73, .row (.recs 1 (nmR (N.take 0))))]) (by refine ⟨?_, ?_⟩ <;> (repeat' (first | exact trivial | exact rfl | refine ⟨?_, ?_⟩)) <;> first | exact rfl | (simp; done) | skip)) ?_
 refine z0l (ι := {i : Nat // i ≤ N.length}) (fun i => St.of [(6, .c (.own 73 1 0 (nmR (N.take i.1)).length)), (13, nmV N), (14, lv (.int .i64 (N.length : Int))), (15, lv (.int .i64 (i.1 : Int)))] [(73, .row (.recs 1 (nmR (N.take i.1))))]) (fun i => N.length - i.1) (fun i => ?_) ⟨0, Nat.zero_le _⟩
 obtain ⟨i, hi⟩ := i
 dsimp only
 have hmt : (nmR (N.take i)).length = i := by rw [List.length_map, List.length_take]; omega
 by_cases hi2 : i < N.length
 · have hq : N.getD (i : Int).toNat [] = N.getD i [] := rfl
   have hbr := hbm.2 _ (z1s (d := []) hi2)
   have hsn := z1C (d := []) hi2
   generalize hA : N.getD i [] = r at *
   have hcp := zcK r hbr.1 hbr.2
   repeat (first | refine nx ?_ | rw [hq])
   refine z0a ⟨i + 1, by omega⟩ (by dsimp only; omega) (St.le_of ⟨⟨?_, rfl, rfl, rfl⟩, ?_⟩)
   · dsimp only; rw [hsn, z2j]; rfl
   · dsimp only; rw [hsn, z2j]; rfl
 · obtain rfl : i = N.length := by omega
   rw [List.take_length]
   cases hok : z0F N
   · rw [hok] at hrt
     repeat refine nx ?_
     refine zcG 25 ?_
     repeat refine nx ?_
     exact rtU []
   · rw [hok] at hrt
     repeat refine nx ?_
     refine z6G 73 [(6, nmV N), (25, nmV N)] rfl hb ⟨⟨⟨rfl, rfl, rfl, rfl, Nat.le_refl _, (List.take_length ..).symm⟩, ⟨rfl, rfl, rfl, rfl, Nat.le_refl _, (List.take_length ..).symm⟩⟩, rfl⟩ ?_
     repeat refine nx ?_
     exact rt1 []

def z5w (w : WhT) (n : List (List AtT)) : List GnT × Bool :=
 if z6u w = true then
   if 0 < w.2.length then
     if z0F (n ++ [w.2]) = true then ([(4, [], n ++ [w.2])], true) else ([], false)
   else (w.1, true)
 else ([], false)
abbrev e01 (b : Bool) : Int := if b = true then 0 else 1
structure WhF (w : WhT) : Prop where
 h : z26 w.1 = true → ∀ g ∈ w.1, GnH g
 l : z26 w.1 = true → (w.1.flatMap z0Y).length ≤ 12000000 ∧ WfB (w.1.flatMap z0Y)
set_option maxHeartbeats 4000000 in
theorem zdP (w : WhT) (n : List (List AtT)) (h : WhB w) (hf : WhF w) (hn0 : NmB n) (hl : n.length < 16000000) :
   Ct Tryz.prog 24 [.agg [.lf (.recs 3 (gnR w.1)), .lf (z3h w.2)], nmV n] [] (zfX (z5w w n).1 (e01 (z5w w n).2)) [] [] := by
 have hr := zdl w h
 unfold z5w
 cases hw : z6u w
 · rw [if_neg (by simp)]
   rw [hw] at hr
   obtain ⟨g, s⟩ := w
   refine z00 Tryz.func24 rfl rfl rfl rfl rfl (fun E hn hb => ?_)
   repeat refine nx ?_
   exact rtU []
 · rw [if_pos rfl]
   rw [hw] at hr
   unfold z6u at hw
   by_cases hs : 0 < w.2.length
   · rw [if_pos hs]
     have ha := zgX n w.2 hn0 ⟨h.s, h.a⟩ hl
     obtain ⟨g, s⟩ := w
     dsimp only at *
     have hml : (s.map atL).length = s.length := List.length_map ..
     cases hok : z0F (n ++ [s])
     · rw [hok] at ha
       rw [if_neg (by simp)] at ha ⊢
       refine z00 Tryz.func24 rfl rfl rfl rfl rfl (fun E hn hb => ?_)
       repeat refine nx ?_
       exact rtU []
     · rw [hok] at ha
       rw [if_pos rfl] at ha ⊢
       have hd := zar (n ++ [s]) (z5f hn0 ⟨h.s, h.a⟩ hl)
       refine z00 Tryz.func24 rfl rfl rfl rfl rfl (fun E hn hb => ?_)
       repeat refine nx ?_
       exact rt1 []
   · rw [if_neg hs] at hw ⊢
     obtain ⟨f1, f2⟩ := hf.l hw
     have hwa := zaP w.1 h.g hw (by omega)
     have hcn := z35 _ (show (w.1.flatMap z0Y).length ≤ 16000000 by omega)
     have hra := zbp _ f1 f2
     have hfw := zdC hw (hf.h hw)
     have e : z4H (w.1.flatMap z0Y) = (w.1, (w.1.flatMap z0Y).length, 0) := by unfold z4H; rw [hfw]; rfl
     rw [e] at hra
     obtain ⟨g, s⟩ := w
     obtain rfl := List.eq_nil_of_length_eq_zero (show s.length = 0 by dsimp only at hs; omega)
     dsimp only at *
     generalize g.flatMap z0Y = W at *
     refine z00 Tryz.func24 rfl rfl rfl rfl rfl (fun E hn hb => ?_)
     repeat refine nx ?_
     exact rt1 []
set_option maxHeartbeats 4000000 in
theorem zcL (b : Bool) (w : WhT) (n : List (List AtT)) (h : WhB w) (hn0 : NmB n) (hl : n.length < 16000000) :
   Ct Tryz.prog 25 [rwA b w, nmV n] [] (.tup [gnV (z5w w n).1, lv (.bool (z5w w n).2)]) [] [] := by
 have hr := zex b w h
 unfold z5w
 cases hw : z6u w
 · rw [if_neg (by simp)]
   rw [hw] at hr
   obtain ⟨g, s⟩ := w
   refine z00 Tryz.func25 rfl rfl rfl rfl rfl (fun E hn hb => ?_)
   repeat refine nx ?_
   exact rtU []
 · rw [if_pos rfl]
   rw [hw] at hr
   by_cases hs : 0 < w.2.length
   · rw [if_pos hs]
     have hrr := z7u (n ++ [w.2]) (z5f hn0 ⟨h.s, h.a⟩ hl)
     have he : nmR n ++ [[z3h w.2]] = nmR (n ++ [w.2]) := (z2j _ _).symm
     obtain ⟨g, s⟩ := w
     dsimp only at *
     have hml : (s.map atL).length = s.length := List.length_map ..
     have hne : ¬ s = [] := by intro h; subst h; simp at hs
     have hnl := hn0.1
     have hnn : (nmR n).length = n.length := List.length_map ..
     refine z00 Tryz.func25 rfl rfl rfl rfl rfl (fun E hn hb => ?_)
     repeat (first | refine nxw ?_ | refine duF [80, 82, 86] [(0, 80), (2, 80), (2, 82), (6, 82), (6, 86)] ?_)
     repeat refine nx ?_
     refine z6G 86 [(6, nmV (n ++ [s])), (23, nmV (n ++ [s]))] rfl hb ⟨⟨⟨rfl, rfl, rfl, rfl, Nat.le_refl _, (he.symm.trans (List.take_length ..).symm)⟩, ⟨rfl, rfl, rfl, rfl, Nat.le_refl _, (he.symm.trans (List.take_length ..).symm)⟩⟩, rfl⟩ ?_
     cases hok : z0F (n ++ [s])
     · rw [hok] at hrr
       rw [if_neg (by simp)]
       repeat refine nx ?_
       exact rtU []
     · rw [hok] at hrr
       rw [if_pos rfl]
       iterate 11 refine nx ?_
       refine znz 27 (x := gnA (4, [], n ++ [s])) (show z5x (.agg [.lf (.v (.int .i64 4)), .lf (.v (.slice none 0 0)), .lf (nmL (n ++ [s]))]) (.agg [.lf (.v (.int .i64 4)), .lf (.ints .u8 []), .lf (nmL (n ++ [s]))]) from ⟨.inl rfl, .inr ⟨rfl, .inl ⟨_, rfl⟩⟩, .inl rfl, trivial⟩) ?_
       repeat refine nx ?_
       exact rt1 []
   · rw [if_neg hs]
     obtain ⟨g, s⟩ := w
     obtain rfl := List.eq_nil_of_length_eq_zero (show s.length = 0 by dsimp only at hs; omega)
     refine z00 Tryz.func25 rfl rfl rfl rfl rfl (fun E hn hb => ?_)
     repeat refine nx ?_
     exact rt1 []
end Go.Proofs.YtaagjnlkinojcaaGreat

namespace Go.Proofs.YtaagjnlkinojcaaGreat
set_option linter.unusedSimpArgs false
set_option linter.unusedVariables false
open Go Go.Sx
set_option maxRecDepth 10000
theorem zcM {α : Type} (f : α → List Int) (l : List α) (h : ∀ x ∈ l, WfB (f x)) : WfB (l.flatMap f) := fun y hy => by
 obtain ⟨x, hx, hy⟩ := List.mem_flatMap.1 hy
 exact h x hx y hy
theorem zlJ {a : AtT} (h : z1h a = true) (hw : WfB a.2) : WfB (atW a) := by
 have h1 := h
 unfold z1h at h1
 rw [Bool.and_eq_true] at h1
 have e : (z16 a.1).1 = z0i (ofT 6) (z0p (z0P a.1)) := by unfold z16; rw [if_pos h1.1]
 unfold atW
 rw [e]
 exact z4U _ _ (by decide) (z7D (z4U _ _ (by decide) (zdy _)) hw)
theorem zfr {r : List AtT} (h : z0B r = true) (hw : ∀ a ∈ r, WfB a.2) : WfB (z0m r) := by
 unfold z0B at h
 simp only [Bool.and_eq_true, decide_eq_true_iff, List.all_eq_true] at h
 exact z4U _ _ (by decide) (zcM _ _ fun a ha => zlJ (h.1.2 a ha) (hw a ha))
theorem zfs {n : List (List AtT)} (h : z0F n = true) (hw : ∀ r ∈ n, ∀ a ∈ r, WfB a.2) : WfB (z1u n) :=
 z4U _ _ (by decide) (zcM _ _ fun r hr => zfr ((z8y h).2 r hr) (hw r hr))
theorem zgY {g : GnT} (h : z0Q g = true) (hw : WfB g.2.1) (hn : ∀ r ∈ g.2.2, ∀ a ∈ r, WfB a.2) : WfB (z0Y g) := by
 obtain ⟨h1, h2, h3, h4⟩ := z3Z h
 refine z4U _ _ (zbu h1 h2) ?_
 by_cases hk : g.1 = 4
 · rw [if_pos hk]
   have hno : z0F g.2.2 = true := by
     unfold z0Q at h
     rw [if_pos hk, Bool.and_eq_true] at h
     exact h.2
   exact zfs hno hn
 · rw [if_neg hk]
   exact hw
theorem zbB {l : List Int} {n : Int} (h : WfB l) : WfB (z8X n l) := fun x hx => h x (List.mem_of_mem_take hx)
theorem z7H (l : List Int) (n : Nat) : (z8X (n : Int) l).length ≤ n := by
 unfold z8X
 rw [List.length_take]
 omega
theorem znv {a : AtT} (h : AtI a) : AtB (atT a) ∧ (atT a).2.length ≤ 200 := by
 have h1 := z7H a.1 40
 have h2 := z7H a.2 200
 exact ⟨⟨Nat.le_trans h1 (by decide), Nat.le_trans h2 (by decide), zbB h.w⟩, h2⟩
theorem zgr {r : List AtT} (h : StI r) : (stT r).length ≤ 20 ∧ ∀ a ∈ stT r, AtB a ∧ a.2.length ≤ 200 := by
 unfold stT
 refine ⟨by rw [List.length_map, List.length_take]; omega, fun a ha => ?_⟩
 obtain ⟨b, hb, rfl⟩ := List.mem_map.1 ha
 exact znv (h.2 b (List.mem_of_mem_take hb))
theorem zgs {n : List (List AtT)} (h : NmI n) : (nmT n).length ≤ 70 ∧ NmB (nmT n) ∧ ∀ r ∈ nmT n, ∀ a ∈ r, a.2.length ≤ 200 := by
 have hl : (nmT n).length ≤ 70 := by unfold nmT; rw [List.length_map, List.length_take]; omega
 have key : ∀ r ∈ nmT n, r.length ≤ 20 ∧ ∀ a ∈ r, AtB a ∧ a.2.length ≤ 200 := fun r hr => by
   unfold nmT at hr
   obtain ⟨s, hs, rfl⟩ := List.mem_map.1 hr
   exact zgr (h.2 s (List.mem_of_mem_take hs))
 exact ⟨hl, ⟨Nat.le_trans hl (by decide), fun r hr => ⟨Nat.le_trans (key r hr).1 (by decide), fun a ha => ((key r hr).2 a ha).1⟩⟩, fun r hr a ha => ((key r hr).2 a ha).2⟩
theorem zlK {g : GnT} (h : GnI g) : GnB (z6g g) ∧ GnS (z6g g) := by
 have h1 := z7H g.2.1 300
 obtain ⟨n1, n2, n3⟩ := zgs (zey h.n)
 have h5 : (nmT (zb8 g.2.2)).length ≤ 5 := by
   unfold nmT zb8
   rw [List.length_map, List.length_take, List.length_take]
   omega
 exact ⟨⟨Nat.le_trans h1 (by decide), zbB h.w, n2⟩, ⟨h1, h5, n3⟩⟩
theorem zlL {l : List GnT} (h : zg7 l) : (z7P l).length ≤ 20 ∧ ∀ g ∈ z7P l, GnB g ∧ GnS g := by
 unfold z7P
 refine ⟨by rw [List.length_map, List.length_take]; omega, fun g hg => ?_⟩
 obtain ⟨b, hb, rfl⟩ := List.mem_map.1 hg
 exact zlK (h.2 b (List.mem_of_mem_take hb))
theorem znw {g : GnT} (h : z0Q g = true) (hb : GnB g) (hs : GnS g) : GnH g :=
 ⟨hb.w, hb.l, fun r hr a ha => ⟨((hb.n.2 r hr).2 a ha).w, Nat.le_trans (hs.a r hr a ha) (by decide)⟩, Nat.le_trans (zc1 h hs) (by decide)⟩
abbrev whU (w : WhT) : WhT := (z7P w.1, stT w.2)
theorem znx {w : WhT} (h : WhI w) : WhB (whU w) ∧ WhF (whU w) := by
 obtain ⟨g1, g2⟩ := zlL h.g
 obtain ⟨s1, s2⟩ := zgr h.s
 refine ⟨⟨Nat.le_trans g1 (by decide), fun g hg => (g2 g hg).1, Nat.le_trans s1 (by decide), fun a ha => (s2 a ha).1⟩, ⟨fun ho g hg => ?_, fun ho => ?_⟩⟩
 · exact znw ((z56 ho).2.2 g hg) (g2 g hg).1 (g2 g hg).2
 · have hk := (z56 ho).2.2
   have h1 := zgc hk g1 fun g hg => (g2 g hg).2
   exact ⟨Nat.le_trans h1 (by decide), zcM _ _ fun g hg => zgY (hk g hg) (g2 g hg).1.w fun r hr a ha => (((g2 g hg).1.n.2 r hr).2 a ha).w⟩
theorem zlM {w : WhT} {n : List (List AtT)} (h : WhB w) (hn : NmB n) (hl : n.length < 16000000) : (z5w w n).1.length ≤ 16000000 ∧ ∀ g ∈ (z5w w n).1, GnB g := by
 have h0 : ([] : List GnT).length ≤ 16000000 ∧ ∀ g ∈ ([] : List GnT), GnB g := ⟨Nat.zero_le _, fun _ h => absurd h List.not_mem_nil⟩
 unfold z5w
 split
 · split
   · split
     · refine ⟨Nat.le_of_ble_eq_true rfl, fun g hg => ?_⟩
       obtain rfl := List.mem_singleton.1 hg
       exact ⟨Nat.zero_le _, fun x hx => absurd hx List.not_mem_nil, z5f hn ⟨h.s, h.a⟩ hl⟩
     · exact h0
   · exact ⟨h.l, h.g⟩
 · exact h0
end Go.Proofs.YtaagjnlkinojcaaGreat

namespace Go.Proofs.YtaagjnlkinojcaaGreat
set_option linter.unusedSimpArgs false
set_option linter.unusedVariables false
open Go.Sx
set_option maxRecDepth 10000
set_option maxHeartbeats 8000000 in
theorem zbi (b : Bool) (w : WhT) (n : List (List AtT)) (h : WhI w) (hn0 : NmI n) : Ct Tryz.prog 5 [rwA b w, nmV n] [] (lv (.bool true)) [] [] := by
 have hkn := zc8
 obtain ⟨b1, b2⟩ := znx h
 obtain ⟨n1, n2, n3⟩ := zgs hn0
 have h1 := zdd true w h
 have h2 := z9E n hn0
 have h3 := zdc (some (whU w)) b1
 have h4 := zdP (whU w) (nmT n) b1 b2 n2 (by omega)
 have h5 := zbM (nmT n) n2
 have h6 := zcL true (whU w) (nmT n) b1 n2 (by omega)
 obtain ⟨e1, e2⟩ := zlM b1 n2 (show (nmT n).length < 16000000 by omega)
 have h7 := zaL _ e1 e2
 have h8 := zec _ e1 e2
 generalize z5w (whU w) (nmT n) = X at *
 obtain ⟨G, ok⟩ := X
 generalize nmT n = N at *
 unfold zm0 at h1
 rw [if_pos rfl] at h1
 change Ct Tryz.prog 21 [rwA true w] [] (wpV (some (whU w))) [] [] at h1
 generalize whU w = U at *
 obtain ⟨g, s⟩ := U
 obtain ⟨wg, ws⟩ := w
 dsimp only [e01, whD] at *
 cases ok
 · refine z00 Tryz.func5 rfl rfl rfl rfl rfl (fun E hn hb => ?_)
   repeat refine nx ?_
   trace_state
   exact rt1 []
 · refine z00 Tryz.func5 rfl rfl rfl rfl rfl (fun E hn hb => ?_)
   repeat refine nx ?_
   exact rt1 []
end Go.Proofs.YtaagjnlkinojcaaGreat

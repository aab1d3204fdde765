/-
  Chapter 16: the contents of a point's parts at a cursor: a truth, reasons, a step; a part in a tag, a reader's next part. The conditions: rows of at most a hundred thousand bytes.
-/
import Derived.Test.YtaagjnlkinojcaaGreatQ16
import Derived.Test.YtaagjnlkinojcaaGreatQ3
import Derived.Test.YtaagjnlkinojcaaGreatSxQ
import Derived.Test.YtaagjnlkinojcaaGreatQ13
import Derived.Test.YtaagjnlkinojcaaGreatP3
namespace Go.Proofs.YtaagjnlkinojcaaGreat
set_option linter.unusedSimpArgs false
set_option linter.unusedVariables false
open Go.Sx
set_option maxRecDepth 10000
def z2B (l : List Int) : List Int := l.flatMap fun x => btk x 8
theorem z8e (l : List Int) : (z2B l).length = 8 * l.length := by
 induction l with
 | nil => rfl
 | cons x l ih =>
   have : z2B (x :: l) = btk x 8 ++ z2B l := rfl
   rw [this, List.length_append, ih]
   simp
   omega
theorem zhY : ∀ j : Fin 8, ∀ x : Int, (btk x 8).getD j.val 0 = x / 2 ^ (7 - j.val) % 2 := by
 intro j x
 match j with
 | ⟨0, _⟩ => rfl
 | ⟨1, _⟩ => rfl
 | ⟨2, _⟩ => rfl
 | ⟨3, _⟩ => rfl
 | ⟨4, _⟩ => rfl
 | ⟨5, _⟩ => rfl
 | ⟨6, _⟩ => rfl
 | ⟨7, _⟩ => rfl
theorem zbx : ∀ (l : List Int) (i : Nat), i < 8 * l.length → (z2B l).getD i 0 = l.getD (i / 8) 0 / 2 ^ (7 - i % 8) % 2
 | [], i, h => by simp at h
 | x :: l, i, h => by
   have e : z2B (x :: l) = btk x 8 ++ z2B l := rfl
   rw [e]
   by_cases h8 : i < 8
   · have h1 := zhY ⟨i, h8⟩ x
     rw [List.getD_eq_getElem?_getD, List.getElem?_append_left (by simpa using h8), ← List.getD_eq_getElem?_getD, h1]
     rw [show i / 8 = 0 by omega, show i % 8 = i by omega]
     rfl
   · have ih := zbx l (i - 8) (by simp at h; omega)
     rw [List.getD_eq_getElem?_getD, List.getElem?_append_right (by simp; omega), ← List.getD_eq_getElem?_getD]
     rw [show i - (btk x 8).length = i - 8 by simp, ih, show (i - 8) / 8 = i / 8 - 1 by omega, show (i - 8) % 8 = i % 8 by omega]
     obtain ⟨q, hq⟩ : ∃ q, i / 8 = q + 1 := ⟨i / 8 - 1, by omega⟩
     rw [hq]
     simp
theorem zf8 {l : List Int} {i : Nat} (h : i < l.length) : z2B (l.take (i + 1)) = z2B (l.take i) ++ btk (l.getD i 0) 8 := by
 rw [z7T (d := 0) h]
 unfold z2B
 rw [List.flatMap_append]
 simp
set_option maxHeartbeats 16000000 in
theorem zhZ (l : List Int) (hl : l.length ≤ 100000) (hw : WfB l) : Ct Tryz.prog 197 [B8 l] [] (I64 (z2B l)) [] [] := by
 refine z00 Tryz.func197 rfl rfl rfl rfl rfl (fun E hn hb => ?_)
 repeat refine nx ?_
 refine z10 3 900 1 (.ints .i64 []) rfl rfl (.inr (.inl ⟨_, rfl⟩)) ?_
 refine z0a (St.le_of (l := [(0, B8 l), (3, .c (.own 900 1 0 (z2B (l.take 0)).length)), (4, lv (.int .i64 ((0 : Nat) : Int)))]) (h := [(900, .row (.ints .i64 (z2B (l.take 0))))]) (by refine ⟨?_, ?_⟩ <;> (repeat' (first | exact trivial | exact rfl | refine ⟨?_, ?_⟩)) <;> first | exact rfl | (simp; done) | skip)) ?_
 refine z0j (ι := {i : Nat // i ≤ l.length}) (fun i => St.of [(0, B8 l), (3, .c (.own 900 1 0 (z2B (l.take i.1)).length)), (4, lv (.int .i64 (i.1 : Int)))] [(900, .row (.ints .i64 (z2B (l.take i.1))))]) (fun i => l.length - i.1) (fun i => ?_) ⟨0, Nat.zero_le _⟩
 obtain ⟨i, hi⟩ := i
 dsimp only
 by_cases hi2 : i < l.length
 · have hq : l.getD (i : Int).toNat 0 = l.getD i 0 := rfl
   have hnx := zf8 hi2
   have hal := z8e (l.take i)
   have hx := z8N hw i
   have hle : (z2B (l.take i)).length ≤ 800000 := by rw [hal]; simp; omega
   generalize z2B (l.take i) = A at *
   generalize hX : l.getD i 0 = x at *
   repeat (first | refine nx ?_ | rw [hq])
   rw [← List.append_nil A]
   refine z0a (St.le_of (l := [(0, B8 l), (3, .c (.own 900 1 0 (A ++ btk x 0).length)), (4, lv (.int .i64 (i : Int))), (5, lv (.int .i64 x)), (6, lv (.int .i64 (kvB 0)))]) (h := [(900, .row (.ints .i64 (A ++ btk x 0)))]) (by refine ⟨?_, ?_⟩ <;> (repeat' (first | exact trivial | exact rfl | refine ⟨?_, ?_⟩)) <;> first | exact rfl | (simp; done) | skip)) ?_
   refine z0j (ι := {j : Nat // j ≤ 8}) (fun j => St.of [(0, B8 l), (3, .c (.own 900 1 0 (A ++ btk x j.1).length)), (4, lv (.int .i64 (i : Int))), (5, lv (.int .i64 x)), (6, lv (.int .i64 (kvB j.1)))] [(900, .row (.ints .i64 (A ++ btk x j.1)))]) (fun j => 8 - j.1) (fun j => ?_) ⟨0, by omega⟩
   obtain ⟨j, hj⟩ := j
   dsimp only
   by_cases h8 : j = 8
   · subst h8
     rw [← hnx]
     repeat refine nx ?_
     refine z06 ⟨i + 1, hi2⟩ (by dsimp only; omega) (St.le_of ⟨⟨rfl, rfl, rfl⟩, rfl⟩)
   · have : j = 0 ∨ j = 1 ∨ j = 2 ∨ j = 3 ∨ j = 4 ∨ j = 5 ∨ j = 6 ∨ j = 7 := by omega
     rcases this with rfl | rfl | rfl | rfl | rfl | rfl | rfl | rfl
     · repeat refine nx ?_
       refine z06 ⟨1, by omega⟩ (by dsimp only; omega) (St.le_of ⟨⟨rfl, ?_, rfl, rfl, rfl⟩, ?_⟩)
       · dsimp only; rw [show A ++ btk x 1 = (A ++ btk x 0) ++ [x / 128 % 2] by rw [List.append_assoc]; rfl]; rfl
       · dsimp only; rw [show A ++ btk x 1 = (A ++ btk x 0) ++ [x / 128 % 2] by rw [List.append_assoc]; rfl]; rfl
     · repeat refine nx ?_
       refine z06 ⟨2, by omega⟩ (by dsimp only; omega) (St.le_of ⟨⟨rfl, ?_, rfl, rfl, rfl⟩, ?_⟩)
       · dsimp only; rw [show A ++ btk x 2 = (A ++ btk x 1) ++ [x / 64 % 2] by rw [List.append_assoc]; rfl]; rfl
       · dsimp only; rw [show A ++ btk x 2 = (A ++ btk x 1) ++ [x / 64 % 2] by rw [List.append_assoc]; rfl]; rfl
     · repeat refine nx ?_
       refine z06 ⟨3, by omega⟩ (by dsimp only; omega) (St.le_of ⟨⟨rfl, ?_, rfl, rfl, rfl⟩, ?_⟩)
       · dsimp only; rw [show A ++ btk x 3 = (A ++ btk x 2) ++ [x / 32 % 2] by rw [List.append_assoc]; rfl]; rfl
       · dsimp only; rw [show A ++ btk x 3 = (A ++ btk x 2) ++ [x / 32 % 2] by rw [List.append_assoc]; rfl]; rfl
     · repeat refine nx ?_
       refine z06 ⟨4, by omega⟩ (by dsimp only; omega) (St.le_of ⟨⟨rfl, ?_, rfl, rfl, rfl⟩, ?_⟩)
       · dsimp only; rw [show A ++ btk x 4 = (A ++ btk x 3) ++ [x / 16 % 2] by rw [List.append_assoc]; rfl]; rfl
       · dsimp only; rw [show A ++ btk x 4 = (A ++ btk x 3) ++ [x / 16 % 2] by rw [List.append_assoc]; rfl]; rfl
     · repeat refine nx ?_
       refine z06 ⟨5, by omega⟩ (by dsimp only; omega) (St.le_of ⟨⟨rfl, ?_, rfl, rfl, rfl⟩, ?_⟩)
       · dsimp only; rw [show A ++ btk x 5 = (A ++ btk x 4) ++ [x / 8 % 2] by rw [List.append_assoc]; rfl]; rfl
       · dsimp only; rw [show A ++ btk x 5 = (A ++ btk x 4) ++ [x / 8 % 2] by rw [List.append_assoc]; rfl]; rfl
     · repeat refine nx ?_
       refine z06 ⟨6, by omega⟩ (by dsimp only; omega) (St.le_of ⟨⟨rfl, ?_, rfl, rfl, rfl⟩, ?_⟩)
       · dsimp only; rw [show A ++ btk x 6 = (A ++ btk x 5) ++ [x / 4 % 2] by rw [List.append_assoc]; rfl]; rfl
       · dsimp only; rw [show A ++ btk x 6 = (A ++ btk x 5) ++ [x / 4 % 2] by rw [List.append_assoc]; rfl]; rfl
     · repeat refine nx ?_
       refine z06 ⟨7, by omega⟩ (by dsimp only; omega) (St.le_of ⟨⟨rfl, ?_, rfl, rfl, rfl⟩, ?_⟩)
       · dsimp only; rw [show A ++ btk x 7 = (A ++ btk x 6) ++ [x / 2 % 2] by rw [List.append_assoc]; rfl]; rfl
       · dsimp only; rw [show A ++ btk x 7 = (A ++ btk x 6) ++ [x / 2 % 2] by rw [List.append_assoc]; rfl]; rfl
     · repeat refine nx ?_
       refine z06 ⟨8, by omega⟩ (by dsimp only; omega) (St.le_of ⟨⟨rfl, ?_, rfl, rfl, rfl⟩, ?_⟩)
       · dsimp only; rw [show A ++ btk x 8 = (A ++ btk x 7) ++ [x / 1 % 2] by rw [List.append_assoc]; rfl]; rfl
       · dsimp only; rw [show A ++ btk x 8 = (A ++ btk x 7) ++ [x / 1 % 2] by rw [List.append_assoc]; rfl]; rfl
 · obtain rfl : i = l.length := by omega
   rw [List.take_length]
   repeat refine nx ?_
   refine z2O 2 ?_
   exact rt1 []
theorem zgw (u : Int) (l : List Int) (hl : l.length ≤ 100000) (hw : WfB l) (hr : z0X u l = true) : Ct Tryz.prog 170 [z3I u l] [] (I64 ((z2B l).take (8 * l.length - u.toNat))) [] [] := by
 have ha := zhZ l hl hw
 have hal := z8e l
 obtain ⟨hu, hk⟩ := z72 hr
 generalize z2B l = A at *
 have e : A.take (8 * l.length - u.toNat) = A.take ((A.length : Int) - u).toNat := by
   congr 1
   omega
 rw [e]
 refine z00 Tryz.func170 rfl rfl rfl rfl rfl (fun E hn hb => ?_)
 repeat refine nx ?_
 exact rt1 []
theorem zgx {l : List Int} {k i : Nat} (hk : k ≤ 8 * l.length) (hi : i < k) : ((z2B l).take k).getD i 0 = if z2g l i = true then 1 else 0 := by
 have h := zbx l i (by omega)
 rw [List.getD_eq_getElem?_getD, List.getElem?_take, if_pos hi, ← List.getD_eq_getElem?_getD, h]
 unfold z2g
 by_cases hb : l.getD (i / 8) 0 / 2 ^ (7 - i % 8) % 2 = 1
 · rw [decide_eq_true hb, if_pos rfl, hb]
 · rw [decide_eq_false hb, if_neg (by simp)]
   omega
abbrev onI (l : List Int) (k : Nat) : List Int := (z1J l k).map fun (i : Nat) => (i : Int)
theorem zgy (l : List Int) (k : Nat) : onI l (k + 1) = if z2g l k = true then onI l k ++ [(k : Int)] else onI l k := by
 unfold onI
 rw [z8J]
 split
 · rw [List.map_append]; rfl
 · rfl
theorem zi0 (l : List Int) (k : Nat) : (onI l k).length ≤ k := by
 rw [List.length_map]
 exact z9K l k
set_option maxHeartbeats 8000000 in
theorem zaa (u : Int) (l : List Int) (hl : l.length ≤ 100000) (hw : WfB l) (hr : z0X u l = true) : Ct Tryz.prog 125 [z3I u l] [] (.tup [I64 (z4f u l).1, lv (.int .i64 (z4f u l).2)]) [] [] := by
 have h1 := z8n u l (by omega) hw
 rw [hr] at h1
 have h2 := zgw u l hl hw hr
 obtain ⟨hu, hk⟩ := z72 hr
 have hbg := @zgx l (8 * l.length - u.toNat)
 have hle : 8 * l.length - u.toNat ≤ 8 * l.length := Nat.sub_le _ _
 have hlen : ((z2B l).take (8 * l.length - u.toNat)).length = 8 * l.length - u.toNat := by rw [List.length_take, z8e]; omega
 unfold z4f
 dsimp only
 generalize 8 * l.length - u.toNat = k at *
 generalize (z2B l).take k = L at *
 change Ct _ _ _ _ (.tup [I64 (if 32 < k ∨ (0 < k ∧ z2g l (k - 1) = false) then ([], 6) else (onI l k, 0)).1, lv (.int .i64 (if 32 < k ∨ (0 < k ∧ z2g l (k - 1) = false) then (([] : List Int), (6 : Int)) else (onI l k, 0)).2)]) _ _
 refine z00 Tryz.func125 rfl rfl rfl rfl rfl (fun E hn hb => ?_)
 repeat refine nx ?_
 refine z10 5 900 1 (.ints .i64 []) rfl rfl (.inr (.inl ⟨_, rfl⟩)) ?_
 refine z0a (St.le_of (l := [(4, I64 L), (5, .c (.own 900 1 0 (onI l 0).length)), (6, lv (.int .i64 ((0 : Nat) : Int)))]) (h := [(900, .row (.ints .i64 (onI l 0)))]) (by refine ⟨?_, ?_⟩ <;> (repeat' (first | exact trivial | exact rfl | refine ⟨?_, ?_⟩)) <;> first | exact rfl | (simp; done) | skip)) ?_
 refine z0j (ι := {i : Nat // i ≤ k}) (fun i => St.of [(4, I64 L), (5, .c (.own 900 1 0 (onI l i.1).length)), (6, lv (.int .i64 (i.1 : Int)))] [(900, .row (.ints .i64 (onI l i.1)))]) (fun i => k - i.1) (fun i => ?_) ⟨0, Nat.zero_le _⟩
 obtain ⟨i, hi⟩ := i
 dsimp only
 by_cases hi2 : i < k
 · have hq : L.getD (i : Int).toNat 0 = L.getD i 0 := rfl
   have hg := hbg hle hi2
   have hnx := zgy l i
   have hol := zi0 l i
   cases hb : z2g l i with
   | true =>
     rw [hb, if_pos rfl] at hg hnx
     repeat (first | refine nx ?_ | rw [hq, hg])
     refine z06 ⟨i + 1, hi2⟩ (by dsimp only; omega) (St.le_of ⟨⟨rfl, ?_, rfl⟩, ?_⟩)
     · dsimp only; rw [hnx]; rfl
     · dsimp only; rw [hnx]; rfl
   | false =>
     rw [hb, if_neg (by simp)] at hg hnx
     repeat (first | refine nx ?_ | rw [hq, hg])
     refine z06 ⟨i + 1, hi2⟩ (by dsimp only; omega) (St.le_of ⟨⟨rfl, ?_, rfl⟩, ?_⟩)
     · dsimp only; rw [hnx]; rfl
     · dsimp only; rw [hnx]; rfl
 · obtain rfl : i = k := by omega
   by_cases h32 : 32 < i
   · rw [if_pos (.inl h32)]
     repeat refine nx ?_
     exact rtU []
   · by_cases h0 : i = 0
     · subst h0
       rw [if_neg (by omega)]
       repeat refine nx ?_
       refine z05 rfl (by simp) (fun hc => ?_) (fun hc => ?_)
       · exfalso
         rw [hlen] at hc
         simp at hc
       · repeat refine nx ?_
         refine z2O 2 ?_
         exact rt1 []
     · have hg := @hbg (i - 1) hle (by omega)
       have hq : L.getD ((L.length : Int) - 1).toNat 0 = L.getD (i - 1) 0 := by rw [hlen]; congr 1; omega
       cases hbt : z2g l (i - 1) with
       | true =>
         rw [hbt, if_pos rfl] at hg
         rw [if_neg (by rintro (h | ⟨_, h⟩); exact h32 h; cases h)]
         repeat (first | refine nx ?_ | rw [hq, hg])
         refine z2O 2 ?_
         exact rt1 []
       | false =>
         rw [hbt, if_neg (by simp)] at hg
         rw [if_pos (.inr ⟨by omega, rfl⟩)]
         repeat (first | refine nx ?_ | rw [hq, hg])
         exact rtU []
end Go.Proofs.YtaagjnlkinojcaaGreat

namespace Go.Sx
open Go
set_option linter.unusedVariables false
theorem SRb.freezeG {E : Env} {β : Nat → Option Nat} {F : Nat → Prop} {σ : St} {a : Act} {w : World} (h : SRb E β F σ a w) {j : Nat} (hgone : σ.hp j ≠ .gone) (hjn : E.nb ≤ j) (hl : ∀ i, i < E.nb → σ.hp i ≠ .gone) :
   SRb E (fun i => if i = j then none else β i) (fun b => F b ∨ β j = some b) (σ.kill j) a w := by
 let β' : Nat → Option Nat := fun i => if i = j then none else β i
 let F' : Nat → Prop := fun b => F b ∨ β j = some b
 have hβ : ∀ i, i ≠ j → β' i = β i := fun i hi => if_neg hi
 have hk := h.kill j hjn
 have hF : ∀ b, F b → F' b := fun b hb => .inl hb
 -- the state with the block gone, in the greater F
 have hk2 : SRb E β' F' (σ.kill j) a w := by
   refine ⟨fun i => (hk.tm i).mono (fun _ _ h => h) (fun b hb => ⟨hF b hb, rfl⟩) (fun _ _ h => h), hk.sz, hk.df, fun i => ?_, hk.inj, fun i g hi e => ?_, hk.lt, fun b hb => ?_, hk.keep, hk.bb, hk.nbl⟩
   · have := hk.hp i
     revert this
     cases (σ.kill j).hp i with
     | gone => exact fun _ => trivial
     | map es =>
       rintro ⟨g, ms, ck, e1, e2, e3, e4⟩
       exact ⟨g, ms, ck, e1, e2, e3, fun i k x hx => let ⟨e, q1, q2, q3⟩ := e4 i k x hx; ⟨e, q1, q2, q3.mono fun b hb => ⟨hF b hb, rfl⟩⟩⟩
     | raw g ob =>
       exact fun h => h
     | mapS g ms ck es =>
       rintro ⟨e1, e2, e3, e4⟩
       exact ⟨e1, e2, e3, fun i k x hx => let ⟨e, q1, q2, q3⟩ := e4 i k x hx; ⟨e, q1, q2, q3.mono fun b hb => ⟨hF b hb, rfl⟩⟩⟩
     | cells cs =>
       rintro ⟨g, cur, e1, e2, e3, e4⟩
       exact ⟨g, cur, e1, e2, e3, fun i x v hx hv => (e4 i x v hx hv).mono (fun _ _ h => h) (fun b hb => ⟨hF b hb, rfl⟩) (fun _ _ h => h)⟩
     | fr vs cs =>
       rintro ⟨g, cur, e1, e2, e3, e4⟩
       exact ⟨g, cur, e1, e2, e3, fun i x v hx hv => (e4 i x v hx hv).mono (fun _ _ h => h) (fun b hb => ⟨hF b hb, rfl⟩) (fun _ _ h => h)⟩
     | row d =>
       cases d with
       | ints k l => exact fun h => h
       | recs sz l =>
         rintro ⟨e1, e2⟩
         refine ⟨e1, ?_⟩
         rcases e2 with e2 | ⟨g, cur, e2, e3, e4⟩
         · exact .inl e2
         · refine .inr ⟨g, cur, e2, e3, fun i r k x hi hk => ?_⟩
           obtain ⟨u, hu, hl⟩ := e4 i r k x hi hk
           exact ⟨u, hu, hl.mono fun b hb => ⟨hF b hb, rfl⟩⟩
       | v => exact fun h => h
       | obj => exact fun h => h
   · obtain ⟨a1, a2, a3⟩ := hk.own i g hi e
     refine ⟨a1, a2, ?_⟩
     rintro (hf | hf)
     · exact a3 hf
     · have e : (if i = j then none else β i) = some g := e
       by_cases hij : i = j
       · simp [hij] at e
       · simp only [hij, if_false] at e
         have hi' : σ.hp i ≠ .gone := by
           simp only [St.kill, hij, decide_false] at hi
           exact Blk.kill_ne hi
         exact hij (h.inj i j g hi' hgone e hf)
   · rcases hb with hb | hb
     · exact h.fr b hb
     · obtain ⟨a1, a2, a3⟩ := h.own j b hgone hb
       refine ⟨a1, ?_⟩
       rcases a2 with a2 | a2
       · exact .inr a2
       · obtain ⟨i, hi, e⟩ := E.hM b a2
         have e' := h.bb i hi
         rw [e] at e'
         have := h.inj i j b (hl i hi) hgone e' hb
         omega
 exact hk2
theorem SR.frp {E : Env} {σ : St} {a : Act} {w : World} (s : Nat) {j m : Nat} {ls : List Leaf} (hs : σ.tm s = .c (.ptr j 0)) (hj : σ.hp j = .cells (ls.map Cell.lf)) (hnb : E.nb = m) (hjn : Nat.ble m j = true)
   (hl : (List.range m).all (fun i => match σ.hp i with | .gone => false | _ => true) = true) (h : SR E σ a w) : SR E ((σ.kill j).set s (.c (.lf (.obj ls)))) a w := by
 obtain ⟨β, F, h⟩ := h
 have hgone : σ.hp j ≠ .gone := by rw [hj]; intro h; cases h
 have h2 := h.freezeG hgone (by rw [hnb]; exact Nat.le_of_ble_eq_true hjn) (fun i hi => by
   rw [hnb] at hi
   have := List.all_eq_true.1 hl i (List.mem_range.2 hi)
   intro e
   rw [e] at this
   cases this)
 have hB := h.hp j
 rw [hj] at hB
 obtain ⟨g, cur, e1, e2, e3, e4⟩ := hB
 have ht := h.tm s
 rw [hs] at ht
 refine ⟨_, _, fun x => ?_, h2.sz, h2.df, h2.hp, h2.inj, h2.own, h2.lt, h2.fr, h2.keep, h2.bb, h2.nbl⟩
 by_cases e : x = s
 · subst e
   simp only [St.set, if_true]
   generalize a.tmps.getD x undef = v at ht
   cases ht with | c ht => cases ht with | ptr _ _ g2 hg2 =>
   rw [e1] at hg2
   obtain rfl := Option.some.inj hg2
   have key : ∀ (i : Nat) (y : Leaf), ls[i]? = some y → ∃ u, cur[i]? = some u ∧ LfR (fun b => F b ∨ β j = some b) w y u := fun i y hy => by
     have hc : (ls.map Cell.lf)[i]? = some (.lf y) := by rw [List.getElem?_map, hy]; rfl
     have hlt : i < cur.size := by
       have := (List.getElem?_eq_some_iff.1 hc).1
       omega
     have := e4 i _ cur[i] hc (by simp [hlt])
     refine ⟨cur[i], by simp [hlt], ?_⟩
     cases this with | lf h => exact h.mono fun b hb => ⟨.inl hb, rfl⟩
   refine .c (.lf (.obj ls g 0 (fun i => (cur[i]?).getD undef) (.inr e1) (fun i y hy => ?_) (fun i y hy => ?_)))
   · obtain ⟨u, hu, _⟩ := key i y hy
     rw [Nat.zero_add, e2.cell, hu]; rfl
   · obtain ⟨u, hu, hl⟩ := key i y hy
     rw [hu]
     exact hl
 · have := h2.tm x
   simpa [St.set, e] using this
end Go.Sx

namespace Go.Proofs.YtaagjnlkinojcaaGreat
set_option linter.unusedSimpArgs false
set_option linter.unusedVariables false
open Go.Sx
set_option maxRecDepth 10000
theorem zgz (x : List Int) (hl : x.length ≤ 99000) (hw : WfB x) : Ct Tryz.prog 114 [.c (.ptr 0 0)] [z04 x 0] (.tup [z4E (z3K x).1, lv (.int .i64 (z3K x).2.2)]) [z04 x (z3K x).2.1] [] := by
 have hre := z7D x 0 (Nat.zero_le _) (by omega)
 rw [List.drop_zero] at hre
 have hho := z1E 17
 have hwr := z9j (ofT 17) [x] (by decide) (by simp) (by simp; omega)
 rw [show [x].flatten = x by simp] at hwr
 have hwl := z2T (ofT 17) x
 have hcn := z2M (z0q (ofT 17) x) (by omega)
 have hrd := zdo (z0q (ofT 17) x) 0 (Nat.zero_le _) (by omega) (z86 _ _ (by decide) hw)
 unfold z3K
 generalize z0q (ofT 17) x = W at *
 generalize z1d W 0 = R at *
 obtain ⟨r, q, e⟩ := R
 dsimp only at *
 refine z00 Tryz.func114 rfl rfl rfl rfl rfl (fun E hn hb => ?_)
 repeat refine nx ?_
 exact rt1 []
set_option maxHeartbeats 4000000 in
theorem zby (l : List Int) (p : Nat) (n : Int) (b : Bool) (g : Nat) (rd : List Int → List GnT × Nat × Int) (hp : p ≤ l.length) (hl : l.length ≤ 99000) (hw : WfB l) (hs : ∀ x, (rd x).2.1 ≤ x.length)
   (hrd : ∀ x : List Int, x.length ≤ l.length → WfB x → Ct Tryz.prog g [.c (.ptr 0 0)] [z04 x 0] (.tup [gnV (rd x).1, lv (.int .i64 (rd x).2.2)]) [z04 x (rd x).2.1] []) :
   Ct Tryz.prog 112 [.c (.ptr 0 0), lv (.int .i64 n), lv (.bool b), .c (.fn (.func g) [] [])] [z04 l p] (.tup [gnV (z0o [] l p (2, n, b) rd).1, lv (.int .i64 (z0o [] l p (2, n, b) rd).2.2)]) [z04 l (z0o [] l p (2, n, b) rd).2.1] [] := by
 have ht := z1S n b
 have hi := z2H l p (2, n, b) hp (by omega) hw
 have hop := z1V l p (2, n, b) hp (by omega) hw
 have hoe := z2x l p (2, n, b) hp (by omega) hw
 have hmem := z0w l p (2, n, b)
 change Ct _ _ _ _ (lv (.bool (isH l p (2, n, b)))) _ _ at hi
 unfold z0o
 by_cases h : isH l p (2, n, b) = true
 · rw [h] at hi
   rw [if_pos h]
   generalize z0g l p (2, n, b) = X at *
   obtain ⟨x, q, e⟩ := X
   dsimp only at *
   by_cases he : e = 0
   · subst he
     have hop := hop rfl
     rw [if_pos rfl]
     have hr := hrd x hmem.1 (fun z hz => hw z (hmem.2 z hz))
     have hsx := hs x
     generalize rd x = R at *
     obtain ⟨r, s, f⟩ := R
     dsimp only at *
     by_cases hf : f = 0
     · subst hf
       rw [if_pos rfl]
       have hlf := z0R x s hsx (by omega)
       by_cases hlt : s < x.length
       · rw [if_pos hlt]
         refine z00 Tryz.func112 rfl rfl rfl rfl rfl (fun E hn hb => ?_)
         repeat refine nx ?_
         exact rtU []
       · rw [if_neg hlt]
         refine z00 Tryz.func112 rfl rfl rfl rfl rfl (fun E hn hb => ?_)
         repeat refine nx ?_
         exact rt1 []
     · rw [if_neg hf]
       refine z00 Tryz.func112 rfl rfl rfl rfl rfl (fun E hn hb => ?_)
       repeat refine nx ?_
       exact rtU []
   · have hoe := hoe he
     rw [if_neg he]
     refine z00 Tryz.func112 rfl rfl rfl rfl rfl (fun E hn hb => ?_)
     repeat refine nx ?_
     exact rtU []
 · rw [Bool.eq_false_iff.2 h] at hi
   rw [if_neg h]
   refine z00 Tryz.func112 rfl rfl rfl rfl rfl (fun E hn hb => ?_)
   repeat refine nx ?_
   exact rtU []
set_option maxHeartbeats 4000000 in
theorem zgA (l : List Int) (p : Nat) (n : Int) (b : Bool) (g : Nat) (rd : List Int → List AtT × Nat × Int) (hp : p ≤ l.length) (hl : l.length ≤ 99000) (hw : WfB l) (hs : ∀ x, (rd x).2.1 ≤ x.length)
   (hrd : ∀ x : List Int, x.length ≤ l.length → WfB x → Ct Tryz.prog g [.c (.ptr 0 0)] [z04 x 0] (.tup [z4E (rd x).1, lv (.int .i64 (rd x).2.2)]) [z04 x (rd x).2.1] []) :
   Ct Tryz.prog 113 [.c (.ptr 0 0), lv (.int .i64 n), lv (.bool b), .c (.fn (.func g) [] [])] [z04 l p] (.tup [z4E (z0o [] l p (2, n, b) rd).1, lv (.int .i64 (z0o [] l p (2, n, b) rd).2.2)]) [z04 l (z0o [] l p (2, n, b) rd).2.1] [] := by
 have ht := z1S n b
 have hi := z2H l p (2, n, b) hp (by omega) hw
 have hop := z1V l p (2, n, b) hp (by omega) hw
 have hoe := z2x l p (2, n, b) hp (by omega) hw
 have hmem := z0w l p (2, n, b)
 change Ct _ _ _ _ (lv (.bool (isH l p (2, n, b)))) _ _ at hi
 unfold z0o
 by_cases h : isH l p (2, n, b) = true
 · rw [h] at hi
   rw [if_pos h]
   generalize z0g l p (2, n, b) = X at *
   obtain ⟨x, q, e⟩ := X
   dsimp only at *
   by_cases he : e = 0
   · subst he
     have hop := hop rfl
     rw [if_pos rfl]
     have hr := hrd x hmem.1 (fun z hz => hw z (hmem.2 z hz))
     have hsx := hs x
     generalize rd x = R at *
     obtain ⟨r, s, f⟩ := R
     dsimp only at *
     by_cases hf : f = 0
     · subst hf
       rw [if_pos rfl]
       have hlf := z0R x s hsx (by omega)
       by_cases hlt : s < x.length
       · rw [if_pos hlt]
         refine z00 Tryz.func113 rfl rfl rfl rfl rfl (fun E hn hb => ?_)
         repeat refine nx ?_
         exact rtU []
       · rw [if_neg hlt]
         refine z00 Tryz.func113 rfl rfl rfl rfl rfl (fun E hn hb => ?_)
         repeat refine nx ?_
         exact rt1 []
     · rw [if_neg hf]
       refine z00 Tryz.func113 rfl rfl rfl rfl rfl (fun E hn hb => ?_)
       repeat refine nx ?_
       exact rtU []
   · have hoe := hoe he
     rw [if_neg he]
     refine z00 Tryz.func113 rfl rfl rfl rfl rfl (fun E hn hb => ?_)
     repeat refine nx ?_
     exact rtU []
 · rw [Bool.eq_false_iff.2 h] at hi
   rw [if_neg h]
   refine z00 Tryz.func113 rfl rfl rfl rfl rfl (fun E hn hb => ?_)
   repeat refine nx ?_
   exact rtU []
set_option maxHeartbeats 4000000 in
theorem zgB (l : List Int) (p : Nat) (n : Int) (b : Bool) (g : Nat) (rd : List Int → List Int × Nat × Int) (hp : p ≤ l.length) (hl : l.length ≤ 99000) (hw : WfB l) (hs : ∀ x, (rd x).2.1 ≤ x.length)
   (hrd : ∀ x : List Int, x.length ≤ l.length → WfB x → Ct Tryz.prog g [.c (.ptr 0 0)] [z04 x 0] (.tup [I64 (rd x).1, lv (.int .i64 (rd x).2.2)]) [z04 x (rd x).2.1] []) :
   Ct Tryz.prog 115 [.c (.ptr 0 0), lv (.int .i64 n), lv (.bool b), .c (.fn (.func g) [] [])] [z04 l p] (.tup [I64 (z0o [] l p (2, n, b) rd).1, lv (.int .i64 (z0o [] l p (2, n, b) rd).2.2)]) [z04 l (z0o [] l p (2, n, b) rd).2.1] [] := by
 have ht := z1S n b
 have hi := z2H l p (2, n, b) hp (by omega) hw
 have hop := z1V l p (2, n, b) hp (by omega) hw
 have hoe := z2x l p (2, n, b) hp (by omega) hw
 have hmem := z0w l p (2, n, b)
 change Ct _ _ _ _ (lv (.bool (isH l p (2, n, b)))) _ _ at hi
 unfold z0o
 by_cases h : isH l p (2, n, b) = true
 · rw [h] at hi
   rw [if_pos h]
   generalize z0g l p (2, n, b) = X at *
   obtain ⟨x, q, e⟩ := X
   dsimp only at *
   by_cases he : e = 0
   · subst he
     have hop := hop rfl
     rw [if_pos rfl]
     have hr := hrd x hmem.1 (fun z hz => hw z (hmem.2 z hz))
     have hsx := hs x
     generalize rd x = R at *
     obtain ⟨r, s, f⟩ := R
     dsimp only at *
     by_cases hf : f = 0
     · subst hf
       rw [if_pos rfl]
       have hlf := z0R x s hsx (by omega)
       by_cases hlt : s < x.length
       · rw [if_pos hlt]
         refine z00 Tryz.func115 rfl rfl rfl rfl rfl (fun E hn hb => ?_)
         repeat refine nx ?_
         exact rtU []
       · rw [if_neg hlt]
         refine z00 Tryz.func115 rfl rfl rfl rfl rfl (fun E hn hb => ?_)
         repeat refine nx ?_
         exact rt1 []
     · rw [if_neg hf]
       refine z00 Tryz.func115 rfl rfl rfl rfl rfl (fun E hn hb => ?_)
       repeat refine nx ?_
       exact rtU []
   · have hoe := hoe he
     rw [if_neg he]
     refine z00 Tryz.func115 rfl rfl rfl rfl rfl (fun E hn hb => ?_)
     repeat refine nx ?_
     exact rtU []
 · rw [Bool.eq_false_iff.2 h] at hi
   rw [if_neg h]
   refine z00 Tryz.func115 rfl rfl rfl rfl rfl (fun E hn hb => ?_)
   repeat refine nx ?_
   exact rtU []
def z1p {α : Type} (z : α) (e : Int) (l : List Int) (p : Nat) (t : z0m) (rd : List Int → α × Nat × Int) : α × Nat × Int := if e = 0 then z0o z l p t rd else (z, p, e)
theorem zgC (l : List Int) (p : Nat) (n : Int) (b : Bool) (g : Nat) (e : Int) (rd : List Int → List GnT × Nat × Int) (hp : p ≤ l.length) (hl : l.length ≤ 99000) (hw : WfB l) (hs : ∀ x, (rd x).2.1 ≤ x.length)
   (hrd : ∀ x : List Int, x.length ≤ l.length → WfB x → Ct Tryz.prog g [.c (.ptr 0 0)] [z04 x 0] (.tup [gnV (rd x).1, lv (.int .i64 (rd x).2.2)]) [z04 x (rd x).2.1] []) :
   Ct Tryz.prog 55 [.c (.ptr 0 0), lv (.int .i64 n), lv (.bool b), .c (.fn (.func g) [] [])] [z28 e, z04 l p] (gnV (z1p [] e l p (2, n, b) rd).1) [z28 (z1p [] e l p (2, n, b) rd).2.2, z04 l (z1p [] e l p (2, n, b) rd).2.1] [] := by
 have h := zby l p n b g rd hp hl hw hs hrd
 unfold z1p
 by_cases he : e = 0
 · subst he
   rw [if_pos rfl]
   generalize z0o [] l p (2, n, b) rd = R at *
   obtain ⟨r, q, f⟩ := R
   dsimp only at *
   refine z00 Tryz.func55 rfl rfl rfl rfl rfl (fun E hn hb => ?_)
   repeat refine nx ?_
   exact rt1 []
 · rw [if_neg he]
   refine z00 Tryz.func55 rfl rfl rfl rfl rfl (fun E hn hb => ?_)
   repeat refine nx ?_
   exact rtU []
theorem zgD (l : List Int) (p : Nat) (n : Int) (b : Bool) (g : Nat) (e : Int) (rd : List Int → List Int × Nat × Int) (hp : p ≤ l.length) (hl : l.length ≤ 99000) (hw : WfB l) (hs : ∀ x, (rd x).2.1 ≤ x.length)
   (hrd : ∀ x : List Int, x.length ≤ l.length → WfB x → Ct Tryz.prog g [.c (.ptr 0 0)] [z04 x 0] (.tup [I64 (rd x).1, lv (.int .i64 (rd x).2.2)]) [z04 x (rd x).2.1] []) :
   Ct Tryz.prog 53 [.c (.ptr 0 0), lv (.int .i64 n), lv (.bool b), .c (.fn (.func g) [] [])] [z28 e, z04 l p] (I64 (z1p [] e l p (2, n, b) rd).1) [z28 (z1p [] e l p (2, n, b) rd).2.2, z04 l (z1p [] e l p (2, n, b) rd).2.1] [] := by
 have h := zgB l p n b g rd hp hl hw hs hrd
 unfold z1p
 by_cases he : e = 0
 · subst he
   rw [if_pos rfl]
   generalize z0o [] l p (2, n, b) rd = R at *
   obtain ⟨r, q, f⟩ := R
   dsimp only at *
   refine z00 Tryz.func53 rfl rfl rfl rfl rfl (fun E hn hb => ?_)
   repeat refine nx ?_
   exact rt1 []
 · rw [if_neg he]
   refine z00 Tryz.func53 rfl rfl rfl rfl rfl (fun E hn hb => ?_)
   repeat refine nx ?_
   exact rtU []
end Go.Proofs.YtaagjnlkinojcaaGreat

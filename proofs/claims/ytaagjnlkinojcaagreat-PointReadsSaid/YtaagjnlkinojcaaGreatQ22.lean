/-
  Chapter 16: a place, a part of a reader's. The conditions: rows that a machine can hold.
-/
import Derived.Test.YtaagjnlkinojcaaGreatQ18
import Derived.Test.YtaagjnlkinojcaaGreatP3
namespace Go.Proofs.YtaagjnlkinojcaaGreat
set_option linter.unusedSimpArgs false
set_option linter.unusedVariables false
open Go.Sx
set_option maxRecDepth 10000
theorem ztK {P : Program} {E : Env} {ops : Array Oper} {o : Oper} {σ : St} {ns b own : List Nat} {bs : List (List Nat × List Nat)} {l : List Oper} {K : St → Prop} {t : TypeId} {x y : Operand} {px py : List Prop} {j off : Nat} {k : IntKind} {n : Int} {l1 : List Int} (hk : z0e P E ops ns bs l (σ.seth j (.row (.ints k (l1.set off n)))) K) (hop : o.op = .store t x y := by exact rfl) (hg : o.guard = none := by exact rfl) (hdn : o.dst = none := by exact rfl) (hx : ox σ x = (px, .c (.ptr j off)) := by exact rfl) (hc : σ.hp j = .row (.ints k l1) := by exact rfl)
   (hy : ox σ y = (py, lv (.int k n)) := by exact rfl) (hb : z07 j b = false := by exact rfl) (ho : z07 j own = true := by exact rfl) (hsz : P.cellsOf t = 1 := by first | (simp; done) | fail) (hp : z03 (px ++ py) := by exact vcs) (hlt : off < l1.length := by first | assumption | omega) : z0e P E ops ns ((b, own) :: bs) (o :: l) σ K := by
 refine z5G (z7X hg hdn hb fun τ hox hj => z5X hop hdn ((hox x (by rw [hop]; simp [Op.operands])).trans hx) ((hox y (by rw [hop]; simp [Op.operands])).trans hy) hp (hj.trans hc) hsz hlt) (zfQ ho (by simp)) ?_
 rw [z6P, hdn]
 exact hk
def z4F (lo : Int) : List Int → Bool
 | [] => true
 | x :: l => decide (lo < x) && decide (x < 32) && z4F x l
def z0J (l : List Int) (i : Nat) : Int := if i = 0 then -1 else l.getD (i - 1) 0
def upI (l : List Int) (i : Nat) : Prop := ∀ j, j < i → z0J l j < l.getD j 0 ∧ l.getD j 0 < 32
theorem zaS : ∀ (l : List Int) (lo : Int), z4F lo l = true ↔ ∀ j, j < l.length → (if j = 0 then lo else l.getD (j - 1) 0) < l.getD j 0 ∧ l.getD j 0 < 32
 | [], lo => by simp [z4F]
 | x :: l, lo => by
   have ih := zaS l x
   rw [z4F, Bool.and_eq_true, Bool.and_eq_true, decide_eq_true_eq, decide_eq_true_eq, ih]
   constructor
   · rintro ⟨⟨h1, h2⟩, h3⟩ j hj
     cases j with
     | zero => exact ⟨h1, h2⟩
     | succ j =>
       have := h3 j (by simpa using hj)
       cases j with
       | zero => exact this
       | succ j => exact this
   · intro h
     refine ⟨h 0 (by simp), fun j hj => ?_⟩
     have := h (j + 1) (by simpa using hj)
     cases j with
     | zero => exact this
     | succ j => exact this
theorem z9a (l : List Int) : z4F (-1) l = true ↔ upI l l.length := zaS l (-1)
theorem zaT {l : List Int} {i : Nat} (h : upI l i) : ∀ j, j < i → 0 ≤ l.getD j 0 ∧ l.getD j 0 < 32
 | 0, hj => by
   have := h 0 hj
   unfold z0J at this
   rw [if_pos rfl] at this
   omega
 | j + 1, hj => by
   have := zaT h j (by omega)
   have := h (j + 1) hj
   unfold z0J at this
   rw [if_neg (by omega), Nat.add_sub_cancel] at this
   omega
theorem zho (l : List Int) (hl : l.length ≤ 1000000) (h : z4F (-1) l = false) : Ct Tryz.prog 144 [I64 l] [] (.tup [z3I 0 [], lv (.int .i64 1)]) [] [] := by
 have hS := z9a l
 rw [h] at hS
 refine z00 Tryz.func144 rfl rfl rfl rfl rfl (fun E hn hb => ?_)
 repeat refine nx ?_
 refine z0a (St.le_of (l := [(2, .c (.ptr 66 0)), (3, lv (.int .i64 0)), (4, lv (.int .i64 (z0J l 0))), (11, I64 l), (12, lv (.int .i64 (l.length : Int))), (13, lv (.int .i64 ((0 : Nat) : Int)))]) (h := [(66, .cells [.lf (.v (.int .i64 0)), .lf (.v (.slice none 0 0))])]) (by refine ⟨?_, ?_⟩ <;> (repeat' (first | exact trivial | exact rfl | refine ⟨?_, ?_⟩)) <;> first | exact rfl | (simp; done) | skip)) ?_
 refine z0j (ι := {i : Nat // i ≤ l.length ∧ upI l i}) (fun i => St.of [(2, .c (.ptr 66 0)), (3, lv (.int .i64 0)), (4, lv (.int .i64 (z0J l i.1))), (11, I64 l), (12, lv (.int .i64 (l.length : Int))), (13, lv (.int .i64 (i.1 : Int)))] [(66, .cells [.lf (.v (.int .i64 0)), .lf (.v (.slice none 0 0))])]) (fun i => l.length - i.1) (fun i => ?_) ⟨0, Nat.zero_le _, fun j hj => by omega⟩
 obtain ⟨i, hi, hu⟩ := i
 dsimp only
 by_cases hi2 : i < l.length
 · have hq : l.getD (i : Int).toNat 0 = l.getD i 0 := rfl
   have hn1 : z0J l (i + 1) = l.getD i 0 := by unfold z0J; rw [if_neg (by omega), Nat.add_sub_cancel]
   generalize hX : l.getD i 0 = X at *
   generalize hL : z0J l i = L at *
   by_cases h1 : X ≤ L
   · repeat (first | refine nx ?_ | rw [hq])
     refine rtU [] (hu := ?_)
     exact ⟨⟨.inl rfl, .inr ⟨rfl, .inl ⟨_, rfl⟩⟩, trivial⟩, .inl rfl, trivial⟩
   · by_cases h2 : 32 ≤ X
     · repeat (first | refine nx ?_ | rw [hq])
       refine rtU [] (hu := ?_)
       exact ⟨⟨.inl rfl, .inr ⟨rfl, .inl ⟨_, rfl⟩⟩, trivial⟩, .inl rfl, trivial⟩
     · repeat (first | refine nx ?_ | rw [hq])
       refine z06 ⟨i + 1, hi2, fun j hj => by
         by_cases e : j = i
         · subst e; rw [hX, hL]; omega
         · exact hu j (by omega)⟩ (by dsimp only; omega) (St.le_of ⟨⟨rfl, rfl, ?_, rfl, rfl, rfl⟩, rfl⟩)
       show lv (.int .i64 X) = lv (.int .i64 (z0J l (i + 1)))
       rw [hn1]
 · obtain rfl : i = l.length := by omega
   exact absurd (hS.2 hu) (by simp)
def stV (c x : Int) : Int := Go.IntKind.u8.wrap (BitVec.ofInt Go.IntKind.u8.bits c ||| BitVec.ofInt Go.IntKind.u8.bits (128 / 2 ^ min (x % 8).toNat Go.IntKind.u8.bits)).toNat
def stY (s : List Int) (x : Int) : List Int := s.set (0 + (x / 8).toNat) (stV (s.getD (0 + (x / 8).toNat) 0) x)
def orY (l : List Int) (m : Nat) : Nat → List Int
 | 0 => List.replicate m 0
 | i + 1 => stY (orY l m i) (l.getD i 0)
theorem z7p (l : List Int) (m : Nat) : ∀ i, (orY l m i).length = m
 | 0 => by simp [orY]
 | i + 1 => by rw [orY, stY, List.length_set, z7p l m i]
theorem zaU {l : List Int} (hu : upI l l.length) : ∀ (d i : Nat), i + d < l.length → l.getD i 0 ≤ l.getD (i + d) 0
 | 0, i, _ => by simp
 | d + 1, i, h => by
   have h1 := zaU hu d i (by omega)
   have h2 := (hu (i + d + 1) (by omega)).1
   unfold z0J at h2
   rw [if_neg (by omega), Nat.add_sub_cancel] at h2
   rw [show i + (d + 1) = i + d + 1 by omega]
   omega
theorem zaV {l : List Int} (hu : upI l l.length) {i : Nat} (hi : i < l.length) : l.getD i 0 ≤ z0J l l.length := by
 unfold z0J
 rw [if_neg (by omega)]
 have := zaU hu (l.length - 1 - i) i (by omega)
 rwa [show i + (l.length - 1 - i) = l.length - 1 by omega] at this
theorem z9A {l : List Int} (hu : upI l l.length) : -1 ≤ z0J l l.length ∧ z0J l l.length < 32 := by
 unfold z0J
 split
 · omega
 · have := zaT hu (l.length - 1) (by omega)
   omega
set_option maxHeartbeats 8000000 in
theorem zm9 (l : List Int) (hl : l.length ≤ 1000000) (h : z4F (-1) l = true) : Ct Tryz.prog 144 [I64 l] [] (.tup [z3I ((8 - (z0J l l.length + 1) % 8) % 8) (orY l ((z0J l l.length + 1 + 7) / 8).toNat l.length), lv (.int .i64 0)]) [] [] := by
 have hu := (z9a l).1 h
 have hlr := z9A hu
 refine z00 Tryz.func144 rfl rfl rfl rfl rfl (fun E hn hb => ?_)
 repeat refine nx ?_
 refine z0a (St.le_of (l := [(2, .c (.ptr 66 0)), (3, lv (.int .i64 0)), (4, lv (.int .i64 (z0J l 0))), (11, I64 l), (12, lv (.int .i64 (l.length : Int))), (13, lv (.int .i64 ((0 : Nat) : Int))), (0, I64 l)]) (h := [(66, .cells [.lf (.v (.int .i64 0)), .lf (.v (.slice none 0 0))])]) (by refine ⟨?_, ?_⟩ <;> (repeat' (first | exact trivial | exact rfl | refine ⟨?_, ?_⟩)) <;> first | exact rfl | (simp; done) | skip)) ?_
 refine z0j (ι := {i : Nat // i ≤ l.length}) (fun i => St.of [(2, .c (.ptr 66 0)), (3, lv (.int .i64 0)), (4, lv (.int .i64 (z0J l i.1))), (11, I64 l), (12, lv (.int .i64 (l.length : Int))), (13, lv (.int .i64 (i.1 : Int))), (0, I64 l)] [(66, .cells [.lf (.v (.int .i64 0)), .lf (.v (.slice none 0 0))])]) (fun i => l.length - i.1) (fun i => ?_) ⟨0, Nat.zero_le _⟩
 obtain ⟨i, hi⟩ := i
 dsimp only
 by_cases hi2 : i < l.length
 · have hq : l.getD (i : Int).toNat 0 = l.getD i 0 := rfl
   have hn1 : z0J l (i + 1) = l.getD i 0 := by unfold z0J; rw [if_neg (by omega), Nat.add_sub_cancel]
   have hui := hu i hi2
   generalize hX : l.getD i 0 = X at *
   generalize hL : z0J l i = L at *
   repeat (first | refine nx ?_ | rw [hq])
   refine z06 ⟨i + 1, hi2⟩ (by dsimp only; omega) (St.le_of ⟨⟨rfl, rfl, ?_, rfl, rfl, rfl, rfl⟩, rfl⟩)
   show lv (.int .i64 X) = lv (.int .i64 (z0J l (i + 1)))
   rw [hn1]
 · obtain rfl : i = l.length := by omega
   have hge := fun i (h : i < l.length) => zaV hu h
   generalize z0J l l.length = L at *
   obtain ⟨m, hm⟩ : ∃ m : Nat, (L + 1 + 7) / 8 = m := ⟨((L + 1 + 7) / 8).toNat, by omega⟩
   rw [hm, Int.toNat_natCast]
   repeat refine nx ?_
   rw [hm]
   refine z9f (by_ := 1) rfl rfl rfl (by rw [hn]; rfl) (z0k Tryz.underlying28 rfl rfl) rfl rfl rfl (by exact vcs) m (by first | rfl | (simp; done) | omega) (by first | (simp; done) | omega | (simp at *; omega)) ?_
   repeat refine nx ?_
   refine z0a (St.le_of (l := [(2, .c (.ptr 66 0)), (3, lv (.int .i64 0)), (8, .c (.ptr 72 0)), (38, I64 l), (39, lv (.int .i64 (l.length : Int))), (40, lv (.int .i64 ((0 : Nat) : Int)))]) (h := [(66, .cells [.lf (.v (.int .i64 0)), .lf (.v (.slice none 0 0))]), (72, .cells [.lf (.v (.int .i64 ((8 - (L + 1) % 8) % 8))), .own 100 1 0 m]), (100, .row (.ints .u8 (orY l m 0)))]) (by refine ⟨?_, ?_⟩ <;> (repeat' (first | exact trivial | exact rfl | refine ⟨?_, ?_⟩)) <;> first | exact rfl | (simp; done) | skip)) ?_
   rw [show Cell.own 100 1 0 m = Cell.own 100 1 0 (orY l m 0).length by rw [z7p]]
   have hlen := z7p l m
   refine z0j (ι := {i : Nat // i ≤ l.length}) (fun i => St.of [(2, .c (.ptr 66 0)), (3, lv (.int .i64 0)), (8, .c (.ptr 72 0)), (38, I64 l), (39, lv (.int .i64 (l.length : Int))), (40, lv (.int .i64 (i.1 : Int)))] [(66, .cells [.lf (.v (.int .i64 0)), .lf (.v (.slice none 0 0))]), (72, .cells [.lf (.v (.int .i64 ((8 - (L + 1) % 8) % 8))), .own 100 1 0 (orY l m i.1).length]), (100, .row (.ints .u8 (orY l m i.1)))]) (fun i => l.length - i.1) (fun i => ?_) ⟨0, Nat.zero_le _⟩
   obtain ⟨i, hi⟩ := i
   dsimp only
   have hli := hlen i
   by_cases hi2 : i < l.length
   · have hq : l.getD (i : Int).toNat 0 = l.getD i 0 := rfl
     have hx := zaT hu i hi2
     have hxm : l.getD i 0 / 8 < (m : Int) := by have := hge i hi2; omega
     have hnx : orY l m (i + 1) = stY (orY l m i) (l.getD i 0) := rfl
     generalize orY l m i = s at *
     generalize hX : l.getD i 0 = X at *
     repeat (first | refine z5A [] [(11, 100)] ?_ | refine ztK ?_ | refine nx ?_ | rw [hq])
     refine z06 ⟨i + 1, hi2⟩ (by dsimp only; omega) (St.le_of ⟨⟨rfl, rfl, rfl, rfl, rfl, rfl⟩, ⟨rfl, ?_, ?_⟩⟩)
     · dsimp only; rw [hnx, show (stY s X).length = s.length by unfold stY; rw [List.length_set]]; rfl
     · dsimp only; rw [hnx]; rfl
   · obtain rfl : i = l.length := by omega
     refine ztJ 100 72 ?_
     repeat refine nx ?_
     exact rt1 []

abbrev ofU (l : List Int) : Int := (8 - (z0J l l.length + 1) % 8) % 8
abbrev z63 (l : List Int) : List Int := orY l ((z0J l l.length + 1 + 7) / 8).toNat l.length
def z9b : Nat → List (List Int)
 | 0 => [[]]
 | n + 1 => z9b n ++ (z9b n).map fun l => ((8 : Int) - (n : Int)) :: l
theorem z64 : ∀ (n : Nat) (l : List Int), z3k ((8 : Int) - (n : Int)) l = true → l ∈ z9b n
 | 0, [], _ => by simp [z9b]
 | 0, x :: l, h => by
   simp only [z3k, Bool.and_eq_true, decide_eq_true_eq] at h
   omega
 | n + 1, [], h => List.mem_append_left _ (z64 n [] rfl)
 | n + 1, x :: l, h => by
   by_cases hx : x = (8 : Int) - (n : Int)
   · subst hx
     simp only [z3k, Bool.and_eq_true, decide_eq_true_eq] at h
     exact List.mem_append_right _ (List.mem_map.2 ⟨l, z64 n l h.2, rfl⟩)
   · refine List.mem_append_left _ (z64 n (x :: l) ?_)
     simp only [z3k, Bool.and_eq_true, decide_eq_true_eq] at h ⊢
     exact ⟨⟨by omega, h.1.2⟩, h.2⟩
theorem zed {l : List Int} (h : z1K l = true) : l ∈ z9b 9 := z64 9 l h
theorem zee : (z9b 9).all (fun l => z0X (ofU l) (z63 l)) = true := by decide +kernel
theorem zc7 : ∀ (l : List Int) (lo : Int), z3k lo l = true → z4F lo l = true
 | [], _, _ => rfl
 | x :: l, lo, h => by
   simp only [z3k, Bool.and_eq_true, decide_eq_true_eq] at h
   simp only [z4F, Bool.and_eq_true, decide_eq_true_eq]
   exact ⟨⟨h.1.1, by omega⟩, zc7 l x h.2⟩
theorem zc8 : ∀ (l : List Int) (lo : Int), z4F lo l = true → (∀ x ∈ l, x ≤ 8) → z3k lo l = true
 | [], _, _, _ => rfl
 | x :: l, lo, h, h8 => by
   simp only [z4F, Bool.and_eq_true, decide_eq_true_eq] at h
   simp only [z3k, Bool.and_eq_true, decide_eq_true_eq]
   exact ⟨⟨h.1.1, h8 x (by simp)⟩, zc8 l x h.2 fun y hy => h8 y (by simp [hy])⟩
theorem zef : ∀ (l : List Int) (lo : Int), z3k lo l = true → ∀ x ∈ l, x ≤ 8
 | [], _, _, x, hx => by simp at hx
 | y :: l, lo, h, x, hx => by
   simp only [z3k, Bool.and_eq_true, decide_eq_true_eq] at h
   rcases List.mem_cons.1 hx with rfl | h2
   · exact h.1.2
   · exact zef l y h.2 x h2
theorem zma (c x : Int) : 0 ≤ stV c x ∧ stV c x < 256 := by
 unfold stV
 simp only [Go.IntKind.wrap, Go.IntKind.signed, Go.IntKind.bits]
 simp
 omega
theorem zeg (l : List Int) (m : Nat) : ∀ i, WfB (orY l m i)
 | 0 => fun x hx => by
   rw [List.eq_of_mem_replicate hx]
   omega
 | i + 1 => fun x hx => by
   rw [orY, stY] at hx
   rcases List.mem_or_eq_of_mem_set hx with h | h
   · exact zeg l m i x h
   · rw [h]; exact zma _ _
theorem zhp (u : Int) (l : List Int) (hl : l.length ≤ 1000000) (hw : WfB l) (hr : z0X u l = false) : Ct Tryz.prog 162 [z3I u l] [] (lv (.int .i64 0)) [] [] := by
 have h := z4C u l hl hw
 rw [hr] at h
 refine z00 Tryz.func162 rfl rfl rfl rfl rfl (fun E hn hb => ?_)
 repeat refine nx ?_
 exact rt1 []
theorem zeh (l : List Int) (hl : l.length ≤ 1000000) : Ct Tryz.prog 119 [I64 l] [] (lv (.bool (decide (0 < l.length) && z1K l))) [] [] := by
 cases hr : z4F (-1) l with
 | false =>
   have h := zho l hl hr
   have hlen := z7B 0 [] (by simp) (fun x hx => by simp at hx) rfl (by omega)
   have hn : z1K l = false := by
     rw [Bool.eq_false_iff]
     intro h2
     rw [zc7 l (-1) h2] at hr
     cases hr
   rw [hn, Bool.and_false]
   refine z00 Tryz.func119 rfl rfl rfl rfl rfl (fun E hn hb => ?_)
   repeat refine nx ?_
   exact rt1 []
 | true =>
   have h := zm9 l hl hr
   have hu := (z9a l).1 hr
   have hlr := z9A hu
   have hge := fun i (h : i < l.length) => zaV hu h
   have hyl := z7p l ((z0J l l.length + 1 + 7) / 8).toNat l.length
   have hyw := zeg l ((z0J l l.length + 1 + 7) / 8).toNat l.length
   have hok : 0 < l.length → (z1K l = true ↔ z0J l l.length ≤ 8) := fun h0 => by
     constructor
     · intro h2
       unfold z0J
       rw [if_neg (by omega)]
       exact zef l (-1) h2 _ (z2Z (by omega))
     · intro h2
       refine zc8 l (-1) hr fun x hx => ?_
       obtain ⟨j, hj, rfl⟩ := List.mem_iff_getElem.1 hx
       have := hge j hj
       rw [List.getD_eq_getElem?_getD, List.getElem?_eq_getElem hj] at this
       simp at this
       omega
   have hri : z1K l = true → z0X (ofU l) (z63 l) = true := fun h2 => List.all_eq_true.1 zee l (zed h2)
   have hl0 : l.length = 0 → z0J l l.length = -1 := fun h0 => by unfold z0J; rw [if_pos h0]
   have hlp : 0 < l.length → 0 ≤ z0J l l.length := fun h0 => by have := hge 0 h0; have := (hu 0 h0).1; unfold z0J at this; rw [if_pos rfl] at this; omega
   cases hrs : z0X (ofU l) (z63 l) with
   | true =>
     have hlen := z7B (ofU l) (z63 l) (by rw [hyl]; omega) hyw hrs (by unfold ofU; omega)
     rw [show 8 * ((z63 l).length : Int) - ofU l = z0J l l.length + 1 by unfold z63 ofU; rw [hyl]; omega] at hlen
     unfold ofU z63 at *
     generalize z0J l l.length = L at *
     by_cases h0 : l.length = 0
     · have := hl0 h0
       subst this
       rw [decide_eq_false (by omega), Bool.false_and]
       refine z00 Tryz.func119 rfl rfl rfl rfl rfl (fun E hn hb => ?_)
       repeat refine nx ?_
       exact rt1 []
     · have h1 := hok (by omega)
       have h2 := hlp (by omega)
       rw [decide_eq_true (by omega : 0 < l.length), Bool.true_and]
       by_cases h8 : L ≤ 8
       · rw [h1.2 h8]
         refine z00 Tryz.func119 rfl rfl rfl rfl rfl (fun E hn hb => ?_)
         repeat refine nx ?_
         refine rt2 [] (congrArg (fun x => lv (.bool x)) ?_) trivial
         simp
         omega
       · rw [Bool.eq_false_iff.2 fun h => h8 (h1.1 h)]
         refine z00 Tryz.func119 rfl rfl rfl rfl rfl (fun E hn hb => ?_)
         repeat refine nx ?_
         refine rt2 [] (congrArg (fun x => lv (.bool x)) ?_) trivial
         simp
         omega
   | false =>
     have hlen := zhp (ofU l) (z63 l) (by rw [hyl]; omega) hyw hrs
     have hn : (decide (0 < l.length) && z1K l) = false := by
       rw [Bool.eq_false_iff]
       intro h2
       rw [Bool.and_eq_true] at h2
       rw [hri h2.2] at hrs
       cases hrs
     rw [hn]
     unfold ofU z63 at *
     generalize orY l ((z0J l l.length + 1 + 7) / 8).toNat l.length = Y at *
     generalize (8 - (z0J l l.length + 1) % 8) % 8 = U at *
     refine z00 Tryz.func119 rfl rfl rfl rfl rfl (fun E hn hb => ?_)
     repeat refine nx ?_
     exact rt1 []

theorem z8y {x : List Int} (hw : WfB x) (h : (z2G x).2.2 = true) : z0X (z2G x).1 (z2G x).2.1 = true ∧ WfB (z2G x).2.1 ∧ (z2G x).2.1.length ≤ x.length := by
 unfold z2G at h ⊢
 cases x with
 | nil => simp at h
 | cons u m =>
   dsimp only at h ⊢
   by_cases hr : z0X u m = true
   · rw [if_pos hr]
     exact ⟨hr, fun z hz => hw z (List.mem_cons_of_mem _ hz), by simp⟩
   · rw [if_neg hr] at h
     cases h
theorem z7W (u : Int) (n : List Int) : (z4f u n).1.length ≤ 32 := by
 unfold z4f
 dsimp only
 split
 · simp
 · rename_i h
   have := List.length_filter_le (z2g n) (List.range (8 * n.length - u.toNat))
   simp only [List.length_range] at this
   rw [List.length_map]
   have := fun h2 => h (.inl h2)
   omega
theorem zei (x : List Int) (hl : x.length ≤ 99000) (hw : WfB x) : Ct Tryz.prog 54 [.c (.ptr 0 0)] [z04 x 0] (.tup [I64 (z1U x).1, lv (.int .i64 (z1U x).2.2)]) [z04 x (z1U x).2.1] [] := by
 have hre := z7D x 0 (Nat.zero_le _) (by omega)
 rw [List.drop_zero] at hre
 have hpa := zeB x (by omega) hw
 have hpr := @z8y x hw
 unfold z1U
 generalize z2G x = S at *
 obtain ⟨u, n, ok⟩ := S
 dsimp only at *
 cases ok with
 | false =>
   rw [if_neg (by simp)]
   refine z00 Tryz.func54 rfl rfl rfl rfl rfl (fun E hn hb => ?_)
   repeat refine nx ?_
   exact rtU []
 | true =>
   obtain ⟨h1, h2, h3⟩ := hpr rfl
   rw [if_pos rfl]
   have hf := zg1 u n (by omega) h2 h1
   have hfl := z7W u n
   have hrea := zeh (z4f u n).1 (by omega)
   generalize z4f u n = F at *
   obtain ⟨f, e⟩ := F
   dsimp only at *
   by_cases he : e = 0
   · subst he
     by_cases hr : (decide (0 < f.length) && z1K f) = true
     · rw [hr] at hrea
       rw [Bool.and_eq_true, decide_eq_true_eq] at hr
       rw [if_pos ⟨rfl, List.length_pos_iff.1 hr.1, hr.2⟩]
       refine z00 Tryz.func54 rfl rfl rfl rfl rfl (fun E hn hb => ?_)
       repeat refine nx ?_
       exact rt1 []
     · rw [Bool.eq_false_iff.2 hr] at hrea
       rw [if_neg (fun h => hr (by rw [Bool.and_eq_true, decide_eq_true_eq]; exact ⟨List.length_pos_iff.2 h.2.1, h.2.2⟩))]
       refine z00 Tryz.func54 rfl rfl rfl rfl rfl (fun E hn hb => ?_)
       repeat refine nx ?_
       exact rtU []
   · rw [if_neg fun h => he h.1]
     generalize (decide (0 < f.length) && z1K f) = B at *
     refine z00 Tryz.func54 rfl rfl rfl rfl rfl (fun E hn hb => ?_)
     repeat refine nx ?_
     exact rtU []
abbrev whC (w : WhT) : Leaf := .obj [.recs 3 (gnR w.1), z1t w.2]
abbrev wpL : Option WhT → Leaf
 | none => .v (.pointer none)
 | some w => whC w
def z2P (x : List Int) : Option WhT × Nat × Int :=
 let r := z09 x 0
 if r.2.2 = 0 then
   if isH x 0 (2, 0, true) = true then (let s := z0o [] x 0 (2, 0, true) z1i; (some (s.1, []), s.2.1, s.2.2))
   else if isH x 0 (2, 1, true) = true then (let s := z0o [] x 0 (2, 1, true) z3K; (some ([], s.1), s.2.1, s.2.2))
   else (some ([], []), 0, 4)
 else (none, r.2.1, r.2.2)
theorem z56 {α : Type} (z : α) (l : List Int) (p : Nat) (t : z0m) (rd : List Int → α × Nat × Int) (hp : p ≤ l.length) : p ≤ (z0o z l p t rd).2.1 ∧ (z0o z l p t rd).2.1 ≤ l.length := by
 have h := z2h l p t hp
 unfold z0o
 dsimp only
 split
 · split
   · split
     · split
       · exact h
       · exact h
     · exact h
   · exact ⟨Nat.le_refl _, hp⟩
 · exact ⟨Nat.le_refl _, hp⟩
theorem zhq (x : List Int) : (z2P x).2.1 ≤ x.length := by
 unfold z2P
 dsimp only
 split
 · split
   · exact (z56 _ _ _ _ _ (Nat.zero_le _)).2
   · split
     · exact (z56 _ _ _ _ _ (Nat.zero_le _)).2
     · exact Nat.zero_le _
 · exact (z13 x 0 (Nat.zero_le _)).2
theorem zaW (l : List Int) : (z1i l).2.1 ≤ l.length := (z4g _ _ _ _ ⟨Nat.zero_le _, zbA l⟩).2
set_option maxHeartbeats 8000000 in
theorem zfL (x : List Int) (hl : x.length ≤ 98000) (hw : WfB x) : Ct Tryz.prog 52 [.c (.ptr 0 0)] [z04 x 0] (.tup [.c (.lf (wpL (z2P x).1)), lv (.int .i64 (z2P x).2.2)]) [z04 x (z2P x).2.1] [] := by
 have hrd := z4s x 0 (Nat.zero_le _) (by omega) hw
 have hle := z13 x 0 (Nat.zero_le _)
 have ht0 := z1S 0 true
 have ht1 := z1S 1 true
 have hi0 := z2H x 0 (2, 0, true) (Nat.zero_le _) (by omega) hw
 have hi1 := z2H x 0 (2, 1, true) (Nat.zero_le _) (by omega) hw
 change Ct _ _ _ _ (lv (.bool (isH x 0 (2, 0, true)))) _ _ at hi0
 change Ct _ _ _ _ (lv (.bool (isH x 0 (2, 1, true)))) _ _ at hi1
 have hp0 := zby x 0 0 true 56 z1i (Nat.zero_le _) (by omega) hw zaW (fun y hy hwy => z7M y (by omega) hwy)
 have hp1 := zgA x 0 1 true 114 z3K (Nat.zero_le _) (by omega) hw (fun y => Nat.le_refl _) (fun y hy hwy => zgz y (by omega) hwy)
 unfold z2P
 generalize z09 x 0 = R at *
 obtain ⟨⟨⟨t1, t2, t3⟩, n⟩, q, e⟩ := R
 dsimp only at *
 by_cases he : e = 0
 · subst he
   have hbk := z1x x q 0 (Nat.zero_le _) (by omega)
   rw [if_pos rfl]
   by_cases h0 : isH x 0 (2, 0, true) = true
   · rw [if_pos h0]
     rw [h0] at hi0
     generalize z0o [] x 0 (2, 0, true) z1i = S at *
     obtain ⟨s, q2, f⟩ := S
     dsimp only at *
     refine z00 Tryz.func52 rfl rfl rfl rfl rfl (fun E hn hb => ?_)
     repeat refine nx ?_
     refine z54 (fun a w h => SR.cellsW 84 (cs := [.lf (.recs 3 (gnR s)), .lf (.v (.slice none 0 0))]) [.lf (.recs 3 (gnR s)), .lf (.recs 2 [])] rfl ⟨.inr (.inl rfl), .inr (.inr ⟨rfl, .inr ⟨_, rfl⟩⟩), trivial⟩ h) ?_
     refine z54 (fun a w h => SR.frp 2 (ls := [.recs 3 (gnR s), .recs 2 []]) rfl rfl hb rfl rfl h) ?_
     exact rt1 []
   · rw [if_neg h0]
     rw [Bool.eq_false_iff.2 h0] at hi0
     by_cases h1 : isH x 0 (2, 1, true) = true
     · rw [if_pos h1]
       rw [h1] at hi1
       generalize z0o [] x 0 (2, 1, true) z3K = S at *
       obtain ⟨s, q2, f⟩ := S
       dsimp only at *
       refine z00 Tryz.func52 rfl rfl rfl rfl rfl (fun E hn hb => ?_)
       repeat refine nx ?_
       refine z54 (fun a w h => SR.cellsW 84 (cs := [.lf (.v (.slice none 0 0)), .lf (z1t s)]) [.lf (.recs 3 []), .lf (z1t s)] rfl ⟨.inr (.inr ⟨rfl, .inr ⟨_, rfl⟩⟩), .inr (.inl rfl), trivial⟩ h) ?_
       refine z54 (fun a w h => SR.frp 2 (ls := [.recs 3 [], z1t s]) rfl rfl hb rfl rfl h) ?_
       exact rt1 []
     · rw [if_neg h1]
       rw [Bool.eq_false_iff.2 h1] at hi1
       refine z00 Tryz.func52 rfl rfl rfl rfl rfl (fun E hn hb => ?_)
       repeat refine nx ?_
       refine z54 (fun a w h => SR.cellsW 84 (cs := [.lf (.v (.slice none 0 0)), .lf (.v (.slice none 0 0))]) [.lf (.recs 3 []), .lf (.recs 2 [])] rfl ⟨.inr (.inr ⟨rfl, .inr ⟨_, rfl⟩⟩), .inr (.inr ⟨rfl, .inr ⟨_, rfl⟩⟩), trivial⟩ h) ?_
       refine z54 (fun a w h => SR.frp 2 (ls := [.recs 3 [], .recs 2 []]) rfl rfl hb rfl rfl h) ?_
       exact rt1 []
 · rw [if_neg he]
   refine z00 Tryz.func52 rfl rfl rfl rfl rfl (fun E hn hb => ?_)
   repeat refine nx ?_
   exact rt1 []

abbrev lfV (L : Leaf) : Av := .c (.lf L)
abbrev wpV (o : Option WhT) : Av := .c (.lf (wpL o))
set_option maxHeartbeats 4000000 in
theorem zfM (l : List Int) (p : Nat) (n : Int) (b : Bool) (g : Nat) (rd : List Int → Option WhT × Nat × Int) (hp : p ≤ l.length) (hl : l.length ≤ 98000) (hw : WfB l) (hs : ∀ x, (rd x).2.1 ≤ x.length)
   (hrd : ∀ x : List Int, x.length ≤ l.length → WfB x → Ct Tryz.prog g [.c (.ptr 0 0)] [z04 x 0] (.tup [wpV (rd x).1, lv (.int .i64 (rd x).2.2)]) [z04 x (rd x).2.1] []) :
   Ct Tryz.prog 108 [.c (.ptr 0 0), lv (.int .i64 n), lv (.bool b), .c (.fn (.func g) [] [])] [z04 l p] (.tup [wpV (z0o none l p (2, n, b) rd).1, lv (.int .i64 (z0o none l p (2, n, b) rd).2.2)]) [z04 l (z0o none l p (2, n, b) rd).2.1] [] := by
 have ht := z1S n b
 have hi := z2H l p (2, n, b) hp (by omega) hw
 have hop := z1V l p (2, n, b) hp (by omega) hw
 have hoe := z2x l p (2, n, b) hp (by omega) hw
 have hmem := z0w l p (2, n, b)
 change Ct _ _ _ _ (lv (.bool (isH l p (2, n, b)))) _ _ at hi
 unfold z0o
 by_cases h : isH l p (2, n, b) = true
 · rw [h] at hi
   rw [if_pos h]
   generalize z0g l p (2, n, b) = X at *
   obtain ⟨x, q, e⟩ := X
   dsimp only at *
   by_cases he : e = 0
   · subst he
     have hop := hop rfl
     rw [if_pos rfl]
     have hr := hrd x hmem.1 (fun z hz => hw z (hmem.2 z hz))
     have hsx := hs x
     generalize rd x = R at *
     obtain ⟨r, s, f⟩ := R
     dsimp only at *
     rcases r with _ | ⟨w1, w2⟩
     all_goals
       by_cases hf : f = 0
       · subst hf
         rw [if_pos rfl]
         have hlf := z0R x s hsx (by omega)
         by_cases hlt : s < x.length
         · rw [if_pos hlt]
           refine z00 Tryz.func108 rfl rfl rfl rfl rfl (fun E hn hb => ?_)
           repeat refine nx ?_
           exact rt1 []
         · rw [if_neg hlt]
           refine z00 Tryz.func108 rfl rfl rfl rfl rfl (fun E hn hb => ?_)
           repeat refine nx ?_
           exact rt1 []
       · rw [if_neg hf]
         refine z00 Tryz.func108 rfl rfl rfl rfl rfl (fun E hn hb => ?_)
         repeat refine nx ?_
         exact rt1 []
   · have hoe := hoe he
     rw [if_neg he]
     refine z00 Tryz.func108 rfl rfl rfl rfl rfl (fun E hn hb => ?_)
     repeat refine nx ?_
     exact rt1 []
 · rw [Bool.eq_false_iff.2 h] at hi
   rw [if_neg h]
   refine z00 Tryz.func108 rfl rfl rfl rfl rfl (fun E hn hb => ?_)
   repeat refine nx ?_
   exact rt1 []
theorem zfN (l : List Int) (p : Nat) (n : Int) (b : Bool) (g : Nat) (e : Int) (rd : List Int → Option WhT × Nat × Int) (hp : p ≤ l.length) (hl : l.length ≤ 98000) (hw : WfB l) (hs : ∀ x, (rd x).2.1 ≤ x.length)
   (hrd : ∀ x : List Int, x.length ≤ l.length → WfB x → Ct Tryz.prog g [.c (.ptr 0 0)] [z04 x 0] (.tup [wpV (rd x).1, lv (.int .i64 (rd x).2.2)]) [z04 x (rd x).2.1] []) :
   Ct Tryz.prog 51 [.c (.ptr 0 0), lv (.int .i64 n), lv (.bool b), .c (.fn (.func g) [] [])] [z28 e, z04 l p] (wpV (z1p none e l p (2, n, b) rd).1) [z28 (z1p none e l p (2, n, b) rd).2.2, z04 l (z1p none e l p (2, n, b) rd).2.1] [] := by
 have h := zfM l p n b g rd hp hl hw hs hrd
 unfold z1p
 by_cases he : e = 0
 · subst he
   rw [if_pos rfl]
   generalize z0o none l p (2, n, b) rd = R at *
   obtain ⟨r, q, f⟩ := R
   dsimp only at *
   rcases r with _ | ⟨w1, w2⟩
   all_goals
     refine z00 Tryz.func51 rfl rfl rfl rfl rfl (fun E hn hb => ?_)
     repeat refine nx ?_
     exact rt1 []
 · rw [if_neg he]
   refine z00 Tryz.func51 rfl rfl rfl rfl rfl (fun E hn hb => ?_)
   repeat refine nx ?_
   exact rt1 []
end Go.Proofs.YtaagjnlkinojcaaGreat

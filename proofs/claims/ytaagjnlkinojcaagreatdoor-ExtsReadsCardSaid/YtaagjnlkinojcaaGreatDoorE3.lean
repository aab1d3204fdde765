/-
  Chapter 17: lists of extensions, cut, copied, compared. The conditions: rows of at most a million elements.
-/
import Derived.Test.YtaagjnlkinojcaaGreatDoorO6
import Derived.Test.YtaagjnlkinojcaaGreatDoorSxT
import Derived.Test.YtaagjnlkinojcaaGreatDoorC4
import Derived.Test.YtaagjnlkinojcaaGreatDoorW16
import Derived.Test.YtaagjnlkinojcaaGreatDoorTy
namespace Go.Proofs.YtaagjnlkinojcaaGreatDoor
set_option linter.unusedSimpArgs false
set_option linter.unusedVariables false
open Go.Sx
set_option maxRecDepth 10000
def arcsL (l : List Int) : List Int := l.flatMap fun x => arcL x.toNat
def numsL : List Int → List Int
 | a :: b :: t => (40 * a + b) :: t
 | _ => []
theorem right_nums {o : List Int} (h : rightO o = true) : ∃ a b t, o = a :: b :: t ∧ 0 ≤ a ∧ a ≤ 2 ∧ 0 ≤ b ∧ b ≤ 2147483567 ∧ t.length ≤ 30 ∧ (∀ x ∈ t, 0 ≤ x ∧ x ≤ 2147483647) ∧ (a < 2 → b < 40) := by
 match o, h with
 | a :: b :: t, h =>
 rw [rightO_cons] at h
 by_cases h30 : 30 < t.length
 · rw [if_pos h30] at h; cases h
 rw [if_neg h30] at h
 by_cases ha : (a :: b :: t).all inR = false
 · rw [if_pos ha] at h; cases h
 rw [if_neg ha] at h
 have ha : ∀ x ∈ a :: b :: t, inR x = true := List.all_eq_true.1 (by simpa using ha)
 have hx : ∀ x ∈ a :: b :: t, 0 ≤ x ∧ x ≤ 2147483647 := fun x hx => by
   have := ha x hx
   simp [inR] at this
   exact this
 have h1 := hx a (by simp)
 have h2 := hx b (by simp)
 refine ⟨a, b, t, rfl, h1.1, ?_, h2.1, ?_, by omega, fun x hm => hx x (by simp [hm]), ?_⟩
 · by_cases e : a = 0 ∨ a = 1
   · omega
   · rw [if_neg e] at h
     by_cases e2 : a = 2
     · omega
     · rw [if_neg e2] at h; cases h
 · by_cases e : a = 0 ∨ a = 1
   · rw [if_pos e] at h; simp at h; omega
   · rw [if_neg e] at h
     by_cases e2 : a = 2
     · rw [if_pos e2] at h; simpa using h
     · rw [if_neg e2] at h; cases h
 · intro h3
   rw [if_pos (by omega)] at h
   simpa using h
end Go.Proofs.YtaagjnlkinojcaaGreatDoor

namespace Go.Sx
open Go
set_option linter.unusedVariables false
set_option linter.unusedSimpArgs false
section
variable {P : Program} {E : Env} {ops : Array Oper} {o : Oper} {σ : St}
theorem SR.cell_nilT (e5 : TypeId) {a : Act} {w : World} (j i K : Nat) {cs cs' : List Cell} (hj : σ.hp j = .cells cs) (hi : cs[i]? = some (.lf (.v (.slice none 0 0)))) (hK : Nat.ble 64 K = true) (hne : Nat.beq j K = false) (hcs : ((cs.map (Cell.kill K)).set i (.town K 0 0 e5)) = cs') (h : SR E σ a w) :
   SR E (((σ.kill K).seth K (.row (.ints .u8 []))).seth j (.cells cs')) a w := by
 subst hcs
 have hjK : j ≠ K := by intro e; subst e; simp at hne
 obtain ⟨β, F, h⟩ := h
 have hK64 : 64 ≤ K := by simpa using hK
 have hk := h.kill K (by have := h.nbl; omega)
 have hB := hk.hp j
 have hjk : (σ.kill K).hp j = .cells (cs.map (Cell.kill K)) := by simp [St.kill, hjK, hj, Blk.kill]
 rw [hjk] at hB
 obtain ⟨g, cur, e1, e2, e3, e4⟩ := hB
 have h2 : SRb E (fun i => if i = K then none else β i) F ((σ.kill K).seth K (.row (.ints .u8 []))) a w := by
   refine ⟨hk.tm, hk.sz, hk.df, fun i => ?_, fun i l g h1 h2 e1 e2 => ?_, fun i g h1 e => ?_, hk.lt, hk.fr, hk.keep, hk.bb, hk.nbl⟩
   · by_cases e : i = K
     · subst e
       simp only [St.seth, if_true]
       exact .inl ⟨rfl, fun g hg => by simp at hg⟩
     · simpa [St.seth, e] using hk.hp i
   · by_cases ek : i = K
     · subst ek; simp at e1
     · by_cases el : l = K
       · subst el; simp at e2
       · exact hk.inj i l g (by simpa [St.seth, ek] using h1) (by simpa [St.seth, el] using h2) e1 e2
   · by_cases ek : i = K
     · subst ek; simp at e
     · exact hk.own i g (by simpa [St.seth, ek] using h1) e
 refine ⟨_, F, h2.setBlk (j := j) (by simp [St.seth, hjK, hjk]) ⟨g, cur, e1, e2, by simpa using e3, fun m x v hx hv => ?_⟩⟩
 rw [List.getElem?_set] at hx
 split at hx
 · rename_i him
   subst him
   split at hx
   · simp only [Option.some.injEq] at hx
     subst hx
     have h5 : (cs.map (Cell.kill K))[i]? = some (.lf (.v (.slice none 0 0))) := by rw [List.getElem?_map, hi]; rfl
     have := e4 i _ v h5 hv
     cases this with | lf h => cases h with | v _ _ => exact .town _ _ _ _ _ _ (Nat.le_refl _) (by decide) (.inl rfl)
   · cases hx
 · exact e4 m x v hx hv
end
end Go.Sx

namespace Go.Proofs.YtaagjnlkinojcaaGreatDoor
set_option linter.unusedSimpArgs false
set_option linter.unusedVariables false
open Go.Sx
set_option maxRecDepth 10000
def textO (f : Int → ByteArray) (o : List Int) : List Int := match o with
 | [] => []
 | x :: t => strL (f x) ++ t.flatMap fun y => 46 :: strL (f y)
theorem strL_wf (s : ByteArray) : ∀ x ∈ strL s, 0 ≤ x ∧ x < 256 := by
 intro x hx
 simp only [strL, List.mem_map] at hx
 obtain ⟨b, _, rfl⟩ := hx
 have := b.toNat_lt
 omega
theorem textO_wf (f : Int → ByteArray) (o : List Int) : ∀ x ∈ textO f o, 0 ≤ x ∧ x < 256 := by
 match o with
 | [] => exact fun x h => by simp [textO] at h
 | y :: t =>
   intro x hx
   simp only [textO, List.mem_append, List.mem_flatMap, List.mem_cons] at hx
   rcases hx with h | ⟨z, _, rfl | h⟩
   · exact strL_wf _ x h
   · omega
   · exact strL_wf _ x h
theorem textO_len (f : Int → ByteArray) (hs : ∀ x, (f x).size ≤ 20) : ∀ o : List Int, (textO f o).length ≤ 21 * o.length
 | [] => by simp [textO]
 | x :: t => by
   have h1 : ∀ t : List Int, (t.flatMap fun y => 46 :: strL (f y)).length ≤ 21 * t.length := by
     intro t
     induction t with
     | nil => simp
     | cons y t ih =>
       have := hs y
       simp [strL_len] at *
       omega
   have := h1 t
   have := hs x
   simp [textO, strL_len] at *
   omega
theorem textO_take (f : Int → ByteArray) {o : List Int} {i : Nat} (h : i < o.length) (h0 : 0 < i) : textO f (o.take (i + 1)) = textO f (o.take i) ++ (46 :: strL (f (o.getD i 0))) := by
 match o, i, h, h0 with
 | x :: t, i + 1, h, _ =>
   have h' : i < t.length := by simpa using h
   rw [List.take_succ_cons, List.take_succ_cons, List.getD_cons_succ]
   simp only [textO]
   rw [List.take_add_one, List.getElem?_eq_getElem h', List.getD_eq_getElem?_getD, List.getElem?_eq_getElem h']
   simp only [Option.toList_some, Option.getD_some, List.flatMap_append, List.flatMap_singleton, List.append_assoc]
def adr (j : Nat) : Nat → Cell
 | 0 => nilC
 | _ + 1 => .ptr j 0
theorem text_of (f : Int → ByteArray) (hs : ∀ x, (f x).size ≤ 20) (hs1 : ∀ x, 0 < (f x).size) (o : List Int) (hr : rightO o = true) (hI : ∀ x ∈ o, Ct Tryz.prog 118 [lv (.int .i64 x)] [] (lv (.string (f x))) [] []) :
   Ct Tryz.prog 95 [I64 o] [] (.tup [lv (.string (strOfNums (textO f o))), lv (.int .i64 0)]) [] [] := by
 have hl : o.length ≤ 32 ∧ 2 ≤ o.length := by
   obtain ⟨a, b, t, rfl, _, _, _, _, ht, _⟩ := right_nums hr
   simp; omega
 have h1 := oright_ok o (by omega)
 rw [hr] at h1
 refine Ct_intro Tryz.func95 rfl rfl rfl rfl rfl (fun E hn hb => ?_)
 repeat (refine nst ?_)
 refine s_call0 h1 rfl rfl rfl (by rw [hn]; rfl) rfl rfl (by exact vcs) rfl rfl rfl ?_
 repeat (refine nst ?_)
 refine W_cond rfl (by simp) (fun hc => ?_) (fun hc => ?_)
 · simp at hc
 clear hc
 repeat (refine nst ?_)
 refine s_allocT rfl rfl rfl (by rw [hn]; rfl) rfl zok174 ?_
 repeat (refine nst ?_)
 refine W_sr (fun a w h => SR.cell_nilT 5 (cs := [.lf (.v (.pointer none)), .lf (.v (.slice none 0 0))]) (cs' := [.lf (.v (.pointer none)), .town 900 0 0 5]) 68 1 900 rfl rfl rfl rfl rfl h) ?_
 refine W_weaken (St.le_of (l := [(4, .c (.tptr 68 174)), (10, I64 o), (11, lv (.int .i64 (o.length : Int))), (12, lv (.int .i64 ((0 : Nat) : Int)))]) (h := [(68, .cells [adr 68 0, .town 900 0 ([] : List Int).length 5]), (900, .row (.ints .u8 []))]) (by refine ⟨?_, ?_⟩ <;> (repeat' (first | exact trivial | exact rfl | refine ⟨?_, ?_⟩)) <;> first | exact rfl | (simp; done) | skip)) ?_
 refine W_loop (ι := {s : Nat × List Int // s.1 ≤ o.length ∧ s.2 = textO f (o.take s.1)}) (fun s => St.of [(4, .c (.tptr 68 174)), (10, I64 o), (11, lv (.int .i64 (o.length : Int))), (12, lv (.int .i64 (s.1.1 : Int)))] [(68, .cells [adr 68 s.1.1, .town 900 0 s.1.2.length 5]), (900, .row (.ints .u8 s.1.2))]) (fun s => o.length - s.1.1) (fun s => ?_) ⟨(0, []), by dsimp only; omega, rfl⟩
 obtain ⟨⟨i, acc⟩, hi, he⟩ := s
 dsimp only at hi he ⊢
 repeat (refine nst ?_)
 refine W_cond rfl (by simp) (fun hc => ?_) (fun hc => ?_)
 · have hi2 : i < o.length := by simpa using hc
   have hal : acc.length ≤ 1000 := by
     have := textO_len f hs (o.take i)
     rw [he]
     simp at this
     omega
   have hxi : o.getD i 0 ∈ o := by rw [List.getD_eq_getElem?_getD, List.getElem?_eq_getElem hi2]; exact List.getElem_mem hi2
   have hIx := hI _ hxi
   have hsx := hs (o.getD i 0)
   match i, hi, he, hi2, hxi, hIx, hsx with
   | 0, hi, he, hi2, hxi, hIx, hsx =>
     have he0 : acc = [] := he
     subst he0
     have hnext : strL (f (o.getD 0 0)) = textO f (o.take (0 + 1)) := by
       match o, hi2 with
       | x :: t, _ => simp [textO]
     generalize hX : o.getD 0 0 = x at *
     generalize hFX : f x = F at *
     have hw := writeString_ok (p := nilC) (.inl rfl) [] F (by simp) (by omega)
     repeat (refine nst ?_)
     rw [show o.getD (Int.toNat ((0 : Nat) : Int)) 0 = x from hX]
     refine W_cond rfl (by simp) (fun h2 => ?_) (fun h2 => ?_)
     · simp at h2
     repeat (refine nst ?_)
     refine s_call0 hIx rfl rfl rfl (by rw [hn]; rfl) rfl rfl (by exact vcs) rfl rfl rfl ?_
     repeat (refine nst ?_)
     refine s_callM [68, 900] hw rfl rfl (by rw [hn]; rfl) rfl rfl (by trivial) ⟨rfl, ⟨rfl, rfl⟩, (by simp [ordL]), rfl⟩ ?_
     repeat (refine nst ?_)
     refine N_sr (fun a w h => SR.mv 86 900 rfl rfl rfl rfl rfl h) ?_
     exact N_round ⟨(0 + 1, [] ++ strL F), by dsimp only; omega, hnext⟩ (by dsimp only; omega) (St.le_of ⟨⟨rfl, rfl, rfl, rfl⟩, ⟨by dsimp only; rw [List.length_append, strL_len]; rfl, rfl⟩⟩)
   | i + 1, hi, he, hi2, hxi, hIx, hsx =>
     have hnext := textO_take f hi2 (by omega)
     rw [← he] at hnext
     generalize hX : o.getD (i + 1) 0 = x at *
     generalize hFX : f x = F at *
     have hb1 := writeByte_ok (p := .ptr 0 0) (.inr rfl) acc (by omega) 46 (by decide)
     have hw := writeString_ok (p := .ptr 0 0) (.inr rfl) (acc ++ [46]) F (by simp; omega) (by omega)
     have e1 : acc.length + 1 = (acc ++ [46]).length := by simp
     rw [e1] at hb1
     have e2 : (acc ++ [46]) ++ strL F = acc ++ 46 :: strL F := by simp
     rw [e2] at hw
     have e3 : (acc ++ [46]).length + F.size = (acc ++ 46 :: strL F).length := by simp [strL_len]; omega
     rw [e3] at hw
     repeat (refine nst ?_)
     rw [show o.getD (Int.toNat ((i + 1 : Nat) : Int)) 0 = x from hX]
     refine W_cond rfl (by simp) (fun h2 => ?_) (fun h2 => ?_)
     · repeat (refine nst ?_)
       refine s_callM [68, 900] hb1 rfl rfl (by rw [hn]; rfl) rfl rfl (by trivial) ⟨rfl, ⟨rfl, rfl⟩, (by simp [ordL]), rfl⟩ ?_
       repeat (refine nst ?_)
       refine WL_sr (fun a w h => SR.mv 83 900 rfl rfl rfl rfl rfl h) ?_
       refine s_call0 hIx rfl rfl rfl (by rw [hn]; rfl) rfl rfl (by exact vcs) rfl rfl rfl ?_
       repeat (refine nst ?_)
       refine s_callM [68, 900] hw rfl rfl (by rw [hn]; rfl) rfl rfl (by trivial) ⟨rfl, ⟨rfl, rfl⟩, (by simp [ordL]), rfl⟩ ?_
       repeat (refine nst ?_)
       refine N_sr (fun a w h => SR.mv 86 900 rfl rfl rfl rfl rfl h) ?_
       exact N_round ⟨(i + 1 + 1, acc ++ 46 :: strL F), by dsimp only; omega, hnext.symm⟩ (by dsimp only; omega) (St.le_of ⟨⟨rfl, rfl, rfl, rfl⟩, ⟨rfl, rfl⟩⟩)
     · simp at h2
 · have hi2 : i = o.length := by simp at hc; omega
   subst hi2
   rw [List.take_length] at he
   subst he
   have hne : textO f o ≠ [] := by
     obtain ⟨a, b, t, rfl, _⟩ := right_nums hr
     have := hs1 a
     intro h
     have h3 := congrArg List.length h
     simp [textO, strL_len] at h3
     try omega
   have hst := string_ok (textO f o) (by have := textO_len f hs o; omega) hne (textO_wf f o)
   have hi0 : ∃ k, o.length = k + 1 := ⟨o.length - 1, by omega⟩
   obtain ⟨k, hk⟩ := hi0
   rw [show adr 68 o.length = .ptr 68 0 from by rw [hk]; rfl]
   repeat (refine nst ?_)
   refine s_callX [68, 900] hst hb rfl rfl rfl rfl (by rw [hn]; rfl) rfl rfl (by trivial) ⟨rfl, ⟨rfl, rfl⟩, by simp [ordL], rfl⟩ ?_
   repeat (refine nst ?_)
   exact rt1 []

theorem refSame_ok (a b : List Int) (ha : a.length ≤ 1000000) (hb' : b.length ≤ 1000000) : Ct Tryz.prog 46 [I64 a, I64 b] [] (lv (.bool (decide (a = b)))) [] [] := by
 refine Ct_intro Tryz.func46 rfl rfl rfl rfl rfl (fun E hn hb => ?_)
 repeat (refine nst ?_)
 refine s_call0 (refCmp_ok a b ha hb') rfl rfl rfl (by rw [hn]; rfl) rfl rfl (by exact vcs) rfl rfl rfl ?_
 repeat (refine nst ?_)
 refine rt2 [] ?_ ?_
 · refine congrArg (fun x => lv (.bool x)) (?_ : (cmpL a b == 0) = decide (a = b))
   rw [Bool.eq_iff_iff]
   simp [cmpL_eq]
 · trivial
theorem arcL_small {n : Nat} (h : n < 128) : arcL n = [(n : Int)] := by
 have h1 : n / 128 = 0 := Nat.div_eq_of_lt h
 have h2 : n % 128 = n := Nat.mod_eq_of_lt h
 rw [arcL, h1, h2]
 rfl
theorem arcT_more : ∀ (k n : Nat), n < 128 ^ k → arcT (k + 1) n = arcT k n
 | 0, n, h => by
   have : n = 0 := by simpa using h
   subst this
   rfl
 | k + 1, n, h => by
   have h1 : n / 128 < 128 ^ k := by
     rw [Nat.pow_succ] at h
     exact Nat.div_lt_of_lt_mul (by rw [Nat.mul_comm]; exact h)
   have := arcT_more k (n / 128) h1
   unfold arcT
   split
   · rfl
   · rw [this]
theorem arcL_big {n : Nat} (h : ¬ n < 128) (h0 : n < 4294967296) : ∃ L, arcL (n / 128) = L ++ [((n / 128 % 128 : Nat) : Int)] ∧ arcL n = (L ++ [((n / 128 % 128 : Nat) : Int) + 128]) ++ [((n % 128 : Nat) : Int)] := by
 refine ⟨(arcT 5 (n / 128 / 128)).reverse, by simp [arcL], ?_⟩
 have h1 : n / 128 ≠ 0 := by omega
 have h2 := arcT_more 4 (n / 128 / 128) (by omega)
 rw [arcL]
 conv => lhs; unfold arcT
 rw [if_neg h1, ← h2]
 simp

abbrev ExT : Type := List Int × Bool × List Int
abbrev exL (e : ExT) : List Leaf := [.ints .i64 e.1, .v (.bool e.2.1), .ints .u8 e.2.2]
abbrev exA (e : ExT) : Av := .agg [.lf (.ints .i64 e.1), .lf (.v (.bool e.2.1)), .lf (.ints .u8 e.2.2)]
abbrev exR (l : List ExT) : Av := .c (.lf (.recs 3 (l.map exL)))
def okE (e : ExT) : Prop := e.1.length ≤ 1000000 ∧ e.2.2.length ≤ 1000000
theorem clone64_own (l : List Int) (hl : l.length ≤ 1000000) : Ct Tryz.prog 113 [I64 l] [] (.c (.own 0 1 0 l.length)) [] [.row (.ints .i64 l)] := by
 refine Ct_intro Tryz.func113 rfl rfl rfl rfl rfl (fun E hn hb => ?_)
 repeat (refine nst ?_)
 refine s_nilS (neg := false) rfl rfl (by rw [hn]; rfl) Tryz.underlying25 rfl (by simp) (by simp [szD]) (fun b hbl => ?_)
 simp [lenD] at hbl
 repeat (refine nst ?_)
 refine W_cond rfl (by simp) (fun hc => ?_) (fun hc => ?_)
 · have := hbl hc
   subst this
   repeat (refine nst ?_)
   refine N_own_nil 2 64 1 (.ints .i64 []) rfl rfl (.inr (.inl ⟨_, rfl⟩)) ?_
   exact N_ret [64] rfl trivial ⟨rfl, trivial, rfl, rfl⟩ hb rfl trivial
 · repeat (refine nst ?_)
   refine s_litI rfl rfl rfl (by rw [hn]; rfl) (elt_mk Tryz.underlying25 rfl rfl) (zok3) (by exact vcs) ⟨by decide, rfl⟩ ?_
   repeat (refine nst ?_)
   refine s_appI rfl rfl rfl rfl rfl rfl (by rw [hn]; rfl) (elt_mk Tryz.underlying25 rfl rfl) rfl rfl rfl rfl (by exact vcs) (by first | rfl | (simp; done) | (simp; omega)) ⟨by first | (simp; done) | (simp; omega) | (simp at *; omega), by decide⟩ ?_
   repeat (refine nst ?_)
   exact N_ret [69] rfl trivial ⟨rfl, trivial, rfl, rfl⟩ hb rfl trivial
theorem clone64_ok (l : List Int) (hl : l.length ≤ 1000000) : Ct Tryz.prog 113 [I64 l] [] (I64 l) [] [] :=
 (clone64_own l hl).freeze ⟨rfl, rfl, rfl, by simp, by simp⟩ rfl
theorem copied_ok (e : ExT) (h : okE e) : Ct Tryz.prog 88 [exA e] [] (exA e) [] [] := by
 obtain ⟨o, c, v⟩ := e
 have h1 := clone64_ok o h.1
 have h2 := clone_ok v h.2
 refine Ct_intro Tryz.func88 rfl rfl rfl rfl rfl (fun E hn hb => ?_)
 repeat refine nx ?_
 exact rt1 []
theorem is_ok (e : ExT) (o : List Int) (h : okE e) (ho : o.length ≤ 1000000) : Ct Tryz.prog 112 [exA e, I64 o] [] (lv (.bool (decide (e.1 = o)))) [] [] := by
 obtain ⟨q, c, v⟩ := e
 have h1 := oCmp_ok q o h.1 ho
 rw [show decide ((q, c, v).1 = o) = (cmpL q o == 0) from by rw [Bool.eq_iff_iff]; simp [cmpL_eq]]
 refine Ct_intro Tryz.func112 rfl rfl rfl rfl rfl (fun E hn hb => ?_)
 repeat refine nx ?_
 exact rt1 []
theorem isc_ok (e : ExT) (o : List Int) (h : okE e) (ho : o.length ≤ 1000000) : Ct Tryz.prog 111 [exA e, .c (.ptr 0 0)] [.cells [.lf (.ints .i64 o)]] (lv (.bool (decide (e.1 = o)))) [.cells [.lf (.ints .i64 o)]] [] := by
 have h1 := is_ok e o h ho
 refine Ct_intro Tryz.func111 rfl rfl rfl rfl rfl (fun E hn hb => ?_)
 repeat refine nx ?_
 exact rt1 []
def plG {α : Type} (p : α → Bool) : List α → Int
 | [] => -1
 | e :: l => if p e = true then 0 else if plG p l < 0 then -1 else plG p l + 1
theorem plG_drop {α : Type} [Inhabited α] {p : α → Bool} (l : List α) : ∀ k, k ≤ l.length → (∀ j, j < k → ¬ p (l.getD j default) = true) → plG p l = if plG p (l.drop k) < 0 then -1 else plG p (l.drop k) + k
 | 0, _, _ => by
   have : -1 ≤ plG p l := by cases l with | nil => simp [plG] | cons => simp only [plG]; split; omega; split <;> omega
   simp only [List.drop_zero]
   split <;> omega
 | k + 1, hk, h => by
   have ih := plG_drop (p := p) l k (by omega) fun j hj => h j (by omega)
   have hd : l.drop k = l.getD k default :: l.drop (k + 1) := by
     rw [List.drop_eq_getElem_cons (by omega), List.getD_eq_getElem?_getD, List.getElem?_eq_getElem (by omega)]
     rfl
   rw [ih, hd, plG, if_neg (h k (by omega))]
   by_cases h2 : plG p (l.drop (k + 1)) < 0
   · simp [h2]
   · simp only [h2, if_false]
     rw [if_neg (by omega)]
     omega
theorem plG_at {α : Type} [Inhabited α] {p : α → Bool} {l : List α} {k : Nat} (hk : k < l.length) (h : ∀ j, j < k → ¬ p (l.getD j default) = true) (h2 : p (l.getD k default) = true) : plG p l = k := by
 have ih := plG_drop l k (by omega) h
 have hd : l.drop k = l.getD k default :: l.drop (k + 1) := by
   rw [List.drop_eq_getElem_cons (by omega), List.getD_eq_getElem?_getD, List.getElem?_eq_getElem (by omega)]
   rfl
 rw [hd, plG, if_pos h2] at ih
 rw [ih]
 simp
theorem plG_none {α : Type} [Inhabited α] {p : α → Bool} {l : List α} (h : ∀ j, j < l.length → ¬ p (l.getD j default) = true) : plG p l = -1 := by
 have ih := plG_drop l l.length (Nat.le_refl _) h
 rw [ih, List.drop_length]
 rfl
abbrev plE (l : List ExT) (o : List Int) : Int := plG (fun e : ExT => decide (e.1 = o)) l
theorem okE_get {l : List ExT} (h : ∀ e ∈ l, okE e) (j : Nat) (hj : j < l.length) : okE (l.getD j default) := by
 rw [List.getD_eq_getElem?_getD, List.getElem?_eq_getElem hj]
 exact h _ (List.getElem_mem hj)
theorem plE_at {l : List ExT} {o : List Int} {k : Nat} (hk : k < l.length) (h : ∀ j, j < k → ¬ (l.getD j default).1 = o) (h2 : (l.getD k default).1 = o) : plE l o = k := plG_at hk (fun j hj => by simpa using h j hj) (by simpa using h2)
theorem plE_none {l : List ExT} {o : List Int} (h : ∀ j, j < l.length → ¬ (l.getD j default).1 = o) : plE l o = -1 := plG_none fun j hj => by simpa using h j hj
set_option maxHeartbeats 4000000 in
theorem idxf_ok (l : List ExT) (o : List Int) (hl : l.length ≤ 1000000) (h : ∀ e ∈ l, okE e) (ho : o.length ≤ 1000000) : Ct Tryz.prog 110 [exR l, .c (.fn (.func 111) [] [.ptr 0 0])] [.cells [.lf (.ints .i64 o)]] (lv (.int .i64 (plE l o))) [.cells [.lf (.ints .i64 o)]] [] := by
 refine Ct_intro Tryz.func110 rfl rfl rfl rfl rfl (fun E hn hb => ?_)
 repeat refine nx ?_
 rw [List.length_map]
 refine W_weaken (St.le_of (l := [(0, exR l), (1, .c (.fn (.func 111) [] [.ptr 0 0])), (7, lv (.int .i64 (l.length : Int))), (8, lv (.int .i64 ((0 : Nat) : Int)))]) (h := [(0, .cells [.lf (.ints .i64 o)])]) (by refine ⟨?_, ?_⟩ <;> (repeat' (first | exact trivial | exact rfl | refine ⟨?_, ?_⟩)) <;> first | exact rfl | (simp; done) | skip)) ?_
 refine W_loop (ι := {i : Nat // i ≤ l.length ∧ ∀ j, j < i → ¬ (l.getD j default).1 = o}) (fun i => St.of [(0, exR l), (1, .c (.fn (.func 111) [] [.ptr 0 0])), (7, lv (.int .i64 (l.length : Int))), (8, lv (.int .i64 (i.1 : Int)))] [(0, .cells [.lf (.ints .i64 o)])]) (fun i => l.length - i.1) (fun i => ?_) ⟨0, by omega, fun j h => by omega⟩
 obtain ⟨i, hi, hj⟩ := i
 dsimp only
 by_cases hi2 : i < l.length
 · have hok := okE_get h i hi2
   have hc := isc_ok (l.getD i default) o hok ho
   have hq : l.getD (i : Int).toNat default = l.getD i default := rfl
   by_cases h2 : (l.getD i default).1 = o
   · have hpl := plE_at hi2 hj h2
     rw [hpl]
     rw [decide_eq_true h2] at hc
     clear h2
     generalize l.getD i default = e at *
     repeat (first | refine nx ?_ | rw [hq])
     exact rt1 []
   · have hj2 : ∀ j, j < i + 1 → ¬ (l.getD j default).1 = o := fun j h => by
       by_cases h3 : j = i
       · subst h3; exact h2
       · exact hj j (by omega)
     rw [decide_eq_false h2] at hc
     clear h2
     generalize l.getD i default = e at *
     repeat (first | refine nx ?_ | rw [hq])
     refine N_round ⟨i + 1, by omega, hj2⟩ (by dsimp only; omega) (St.le_of ⟨⟨rfl, rfl, rfl, rfl⟩, rfl⟩)
 · obtain rfl : i = l.length := by omega
   rw [plE_none hj]
   repeat refine nx ?_
   exact rt1 []
theorem index_ok (l : List ExT) (o : List Int) (hl : l.length ≤ 1000000) (h : ∀ e ∈ l, okE e) (ho : o.length ≤ 1000000) : Ct Tryz.prog 87 [exR l, I64 o] [] (lv (.int .i64 (plE l o))) [] [] := by
 have h1 := idxf_ok l o hl h ho
 refine Ct_intro Tryz.func87 rfl rfl rfl rfl rfl (fun E hn hb => ?_)
 repeat refine nx ?_
 refine s_call [67] h1 rfl rfl (by rw [hn]; rfl) rfl rfl (by trivial) ⟨rfl, rfl, (by simp [ordL]), rfl⟩ ?_
 repeat refine nx ?_
 exact rt1 []
theorem find_ok (l : List ExT) (o : List Int) (hl : l.length ≤ 1000000) (h : ∀ e ∈ l, okE e) (ho : o.length ≤ 1000000) (i : Nat) (hi : i < l.length) (hp : plE l o = i) : Ct Tryz.prog 48 [exR l, I64 o] [] (.tup [exA (l.getD i default), lv (.bool true)]) [] [] := by
 have h1 := index_ok l o hl h ho
 rw [hp] at h1
 have h2 := copied_ok (l.getD i default) (okE_get h i hi)
 have hq : l.getD (i : Int).toNat default = l.getD i default := rfl
 generalize l.getD i default = e at *
 refine Ct_intro Tryz.func48 rfl rfl rfl rfl rfl (fun E hn hb => ?_)
 repeat (first | refine nx ?_ | rw [hq])
 exact rt1 []

theorem take_next {α β : Type} [Inhabited α] (f : α → β) (l : List α) (i : Nat) (h : i < l.length) : (l.take (i + 1)).map f = (l.take i).map f ++ [f (l.getD i default)] := by
 rw [List.take_add_one, List.map_append, List.getD_eq_getElem?_getD, List.getElem?_eq_getElem h]
 rfl
theorem get_mem {α : Type} [Inhabited α] {l : List α} {i : Nat} (h : i < l.length) : l.getD i default ∈ l := by
 rw [List.getD_eq_getElem?_getD, List.getElem?_eq_getElem h]
 exact List.getElem_mem h
set_option maxHeartbeats 4000000 in
theorem all17_ok (l : List ExT) (hl : l.length ≤ 1000000) : Ct Tryz.prog 14 [exR l] [] (exR l) [] [] := by
 refine Ct_intro Tryz.func14 rfl rfl rfl rfl rfl (fun E hn hb => ?_)
 repeat refine nx ?_
 refine W_own_nil 3 900 3 (.recs 3 []) rfl rfl (.inr (.inr ⟨_, rfl⟩)) ?_
 refine W_weaken (St.le_of (l := [(0, exR l), (3, .c (.own 900 3 0 0)), (4, lv (.int .i64 ((0 : Nat) : Int)))]) (h := [(900, .row (.recs 3 []))]) (by refine ⟨?_, ?_⟩ <;> (repeat' (first | exact trivial | exact rfl | refine ⟨?_, ?_⟩)) <;> first | exact rfl | (simp; done) | skip)) ?_
 refine W_loop (ι := {i : Nat // i ≤ l.length}) (fun i => St.of [(0, exR l), (3, .c (.own 900 3 0 (((l.take i.1).map id).map exL).length)), (4, lv (.int .i64 (i.1 : Int)))] [(900, .row (.recs 3 (((l.take i.1).map id).map exL)))]) (fun i => l.length - i.1) (fun i => ?_) ⟨0, by omega⟩
 obtain ⟨i, hi⟩ := i
 dsimp only
 by_cases hi2 : i < l.length
 · have hnx := take_next id l i hi2
   have hq : l.getD (i : Int).toNat default = l.getD i default := rfl
   have hal : ((l.take i).map id).length ≤ 1000000 := by simp; omega
   generalize hacc : (l.take i).map id = acc at *
   rw [id] at hnx
   generalize l.getD i default = x at *
   obtain ⟨o, c, v⟩ := x
   repeat refine nxw ?_
   refine W_drawW 18 (by kernel_rfl) (by kernel_rfl) (by kernel_rfl) (by rw [hn]; rfl) rfl rfl ?_
   repeat (first | refine nx ?_ | rw [hq])
   refine N_round ⟨i + 1, by omega⟩ (by dsimp only; omega) (St.le_of ⟨⟨rfl, ?_, rfl⟩, ?_⟩)
   · dsimp only; rw [hnx, List.map_append]; rfl
   · dsimp only; rw [hnx, List.map_append]; rfl
 · obtain rfl : i = l.length := by omega
   rw [List.take_length, List.map_id]
   repeat refine nx ?_
   refine frzN 2 ?_
   exact rt1 []
end Go.Proofs.YtaagjnlkinojcaaGreatDoor

/-
  Chapter 04: an oid's text. The conditions: what Itoa answers is a hypothesis here.
-/
import Derived.Test.YtaagjnlkinojcaaGreatDoorO6
import Derived.Test.YtaagjnlkinojcaaGreatDoorSxT
namespace Go.Proofs.YtaagjnlkinojcaaGreatDoor
set_option linter.unusedSimpArgs false
set_option linter.unusedVariables false
open Go.Sx
set_option maxRecDepth 10000
def arcsL (l : List Int) : List Int := l.flatMap fun x => arcL x.toNat
def numsL : List Int → List Int
 | a :: b :: t => (40 * a + b) :: t
 | _ => []
def contO (o : List Int) : Av := if rightO o then .tup [B8 (arcsL (numsL o)), lv (.int .i64 0)] else .tup [B8 [], lv (.int .i64 1)]
theorem arcsL_len : ∀ l : List Int, (arcsL l).length ≤ 6 * l.length
 | [] => by simp [arcsL]
 | x :: l => by
   have := arcsL_len l
   have := arcL_len x.toNat
   simp [arcsL] at *
   omega
theorem arcsL_take {l : List Int} {i : Nat} (h : i < l.length) : arcsL (l.take (i + 1)) = arcsL (l.take i) ++ arcL (l.getD i 0).toNat := by
 rw [List.take_add_one, List.getElem?_eq_getElem h, List.getD_eq_getElem?_getD, List.getElem?_eq_getElem h]
 simp only [arcsL, List.flatMap_append, Option.toList_some, List.flatMap_singleton, Option.getD_some]
theorem right_nums {o : List Int} (h : rightO o = true) : ∃ a b t, o = a :: b :: t ∧ 0 ≤ a ∧ a ≤ 2 ∧ 0 ≤ b ∧ b ≤ 2147483567 ∧ t.length ≤ 30 ∧ (∀ x ∈ t, 0 ≤ x ∧ x ≤ 2147483647) ∧ (a < 2 → b < 40) := by
 match o, h with
 | a :: b :: t, h =>
 rw [rightO_cons] at h
 by_cases h30 : 30 < t.length
 · rw [if_pos h30] at h; cases h
 rw [if_neg h30] at h
 by_cases ha : (a :: b :: t).all inR = false
 · rw [if_pos ha] at h; cases h
 rw [if_neg ha] at h
 have ha : ∀ x ∈ a :: b :: t, inR x = true := List.all_eq_true.1 (by simpa using ha)
 have hx : ∀ x ∈ a :: b :: t, 0 ≤ x ∧ x ≤ 2147483647 := fun x hx => by
   have := ha x hx
   simp [inR] at this
   exact this
 have h1 := hx a (by simp)
 have h2 := hx b (by simp)
 refine ⟨a, b, t, rfl, h1.1, ?_, h2.1, ?_, by omega, fun x hm => hx x (by simp [hm]), ?_⟩
 · by_cases e : a = 0 ∨ a = 1
   · omega
   · rw [if_neg e] at h
     by_cases e2 : a = 2
     · omega
     · rw [if_neg e2] at h; cases h
 · by_cases e : a = 0 ∨ a = 1
   · rw [if_pos e] at h; simp at h; omega
   · rw [if_neg e] at h
     by_cases e2 : a = 2
     · rw [if_pos e2] at h; simpa using h
     · rw [if_neg e2] at h; cases h
 · intro h3
   rw [if_pos (by omega)] at h
   simpa using h
theorem contO_ok (o : List Int) (hl : o.length ≤ 1000000) : Ct Tryz.prog 96 [I64 o] [] (contO o) [] [] := by
 by_cases hr : rightO o = true
 · obtain ⟨a, b, t, rfl, ha0, ha2, hb0, hb1, ht, hx, _⟩ := right_nums hr
   have hR : contO (a :: b :: t) = .tup [B8 (arcsL ((40 * a + b) :: t)), lv (.int .i64 0)] := by rw [contO, if_pos hr]; rfl
   rw [hR]
   have h1 := oright_ok (a :: b :: t) hl
   rw [hr] at h1
   have h2 := numbers_ok a b t ⟨ha0, ha2⟩ ⟨hb0, by omega⟩ (by omega)
   obtain ⟨N, hN⟩ : ∃ N, (40 * a + b) :: t = N := ⟨_, rfl⟩
   have hNl : N.length ≤ 31 := by rw [← hN]; simp; omega
   have hNx : ∀ x ∈ N, 0 ≤ x ∧ x ≤ 2147483647 := by
     rw [← hN]
     intro x hm
     rcases List.mem_cons.1 hm with rfl | hm
     · omega
     · exact hx x hm
   rw [hN] at h2 ⊢
   refine Ct_intro Tryz.func96 rfl rfl rfl rfl rfl (fun E hn hb => ?_)
   repeat (refine nst ?_)
   refine s_call0 h1 rfl rfl rfl (by rw [hn]; rfl) rfl rfl (by exact vcs) rfl rfl rfl ?_
   repeat (refine nst ?_)
   refine W_cond rfl (by simp) (fun hc => ?_) (fun hc => ?_)
   · simp at hc
   repeat (refine nst ?_)
   refine s_allocN rfl rfl rfl (by rw [hn]; rfl) rfl zok22 ?_
   repeat (refine nst ?_)
   refine WL_sr (fun a w h => SR.cell_nil (cs := [.lf (.v (.slice none 0 0))]) (cs' := [.own 900 1 0 0]) 68 0 900 rfl rfl rfl rfl rfl h) ?_
   refine s_call0 h2 rfl rfl rfl (by rw [hn]; rfl) rfl rfl (by exact vcs) rfl rfl rfl ?_
   repeat (refine nst ?_)
   refine W_weaken (St.le_of (l := [(4, .c (.ptr 68 0)), (5, .c (.fn (.func 120) [] [.ptr 68 0])), (13, I64 N), (14, lv (.int .i64 (N.length : Int))), (15, lv (.int .i64 ((0 : Nat) : Int)))]) (h := [(68, .cells [.own 900 1 0 ([] : List Int).length]), (900, .row (.ints .u8 []))]) (by refine ⟨?_, ?_⟩ <;> (repeat' (first | exact trivial | exact rfl | refine ⟨?_, ?_⟩)) <;> first | exact rfl | (simp; done) | skip)) ?_
   refine W_loop (ι := {s : Nat × List Int // s.1 ≤ N.length ∧ s.2 = arcsL (N.take s.1)}) (fun s => St.of [(4, .c (.ptr 68 0)), (5, .c (.fn (.func 120) [] [.ptr 68 0])), (13, I64 N), (14, lv (.int .i64 (N.length : Int))), (15, lv (.int .i64 (s.1.1 : Int)))] [(68, .cells [.own 900 1 0 s.1.2.length]), (900, .row (.ints .u8 s.1.2))]) (fun s => N.length - s.1.1) (fun s => ?_) ⟨(0, []), by dsimp only; omega, rfl⟩
   obtain ⟨⟨i, acc⟩, hi, he⟩ := s
   dsimp only at hi he ⊢
   repeat (refine nst ?_)
   refine W_cond rfl (by simp) (fun hc => ?_) (fun hc => ?_)
   · have hi2 : i < N.length := by simpa using hc
     have hal : acc.length ≤ 1000 := by
       have := arcsL_len (N.take i)
       rw [he]
       simp at this
       omega
     have hxi : N.getD i 0 ∈ N := by rw [List.getD_eq_getElem?_getD, List.getElem?_eq_getElem hi2]; exact List.getElem_mem hi2
     have hxb := hNx _ hxi
     have hnext := arcsL_take hi2
     rw [← he] at hnext
     generalize hX : N.getD i 0 = X at *
     obtain ⟨x, rfl⟩ : ∃ x : Nat, X = x := ⟨X.toNat, by omega⟩
     rw [Int.toNat_natCast] at hnext
     have hput := put_ok acc x (by omega) (by omega)
     have e8 : acc.length + (arcL x).length = (acc ++ arcL x).length := by simp
     rw [e8] at hput
     repeat (refine nst ?_)
     rw [show N.getD (Int.toNat (i : Int)) 0 = (x : Int) from hX]
     repeat (refine nst ?_)
     refine s_callM [68, 900] hput rfl rfl (by rw [hn]; rfl) rfl rfl (by trivial) ⟨rfl, ⟨rfl, rfl⟩, (by simp [ordL]), rfl⟩ ?_
     repeat (refine nst ?_)
     refine N_sr (fun a w h => SR.mv 85 900 rfl rfl rfl rfl rfl h) ?_
     refine N_round ⟨(i + 1, acc ++ arcL x), by dsimp only; omega, hnext.symm⟩ (by dsimp only; omega) (St.le_of ⟨⟨rfl, rfl, rfl, rfl, rfl⟩, ⟨rfl, rfl⟩⟩)
   · have hi2 : i = N.length := by simp at hc; omega
     subst hi2
     rw [List.take_length] at he
     subst he
     repeat (refine nst ?_)
     refine N_freeze 900 [(2, B8 (arcsL N))] rfl hb ⟨⟨rfl, rfl, rfl, by simp, by simp⟩, rfl⟩ ?_
     exact rt1 []
 · have hr' : rightO o = false := by simpa using hr
   have hR : contO o = .tup [B8 [], lv (.int .i64 1)] := by rw [contO, if_neg hr]
   rw [hR]
   have h1 := oright_ok o hl
   rw [hr'] at h1
   refine Ct_intro Tryz.func96 rfl rfl rfl rfl rfl (fun E hn hb => ?_)
   repeat (refine nst ?_)
   refine s_call0 h1 rfl rfl rfl (by rw [hn]; rfl) rfl rfl (by exact vcs) rfl rfl rfl ?_
   repeat (refine nst ?_)
   refine W_cond rfl (by simp) (fun hc => ?_) (fun hc => ?_)
   · repeat (refine nst ?_)
     refine N_retU [] rfl (by simp) (r' := .tup [B8 [], lv (.int .i64 1)]) ⟨.inr ⟨rfl, .inl ⟨_, rfl⟩⟩, .inl rfl, trivial⟩ ⟨rfl, trivial, trivial, rfl⟩ hb rfl trivial
   · simp at hc
end Go.Proofs.YtaagjnlkinojcaaGreatDoor

namespace Go.Sx
open Go
set_option linter.unusedVariables false
set_option linter.unusedSimpArgs false
section
variable {P : Program} {E : Env} {ops : Array Oper} {o : Oper} {σ : St}
theorem SR.cell_nilT (e5 : TypeId) {a : Act} {w : World} (j i K : Nat) {cs cs' : List Cell} (hj : σ.hp j = .cells cs) (hi : cs[i]? = some (.lf (.v (.slice none 0 0)))) (hK : Nat.ble 64 K = true) (hne : Nat.beq j K = false) (hcs : ((cs.map (Cell.kill K)).set i (.town K 0 0 e5)) = cs') (h : SR E σ a w) :
   SR E (((σ.kill K).seth K (.row (.ints .u8 []))).seth j (.cells cs')) a w := by
 subst hcs
 have hjK : j ≠ K := by intro e; subst e; simp at hne
 obtain ⟨β, F, h⟩ := h
 have hK64 : 64 ≤ K := by simpa using hK
 have hk := h.kill K (by have := h.nbl; omega)
 have hB := hk.hp j
 have hjk : (σ.kill K).hp j = .cells (cs.map (Cell.kill K)) := by simp [St.kill, hjK, hj, Blk.kill]
 rw [hjk] at hB
 obtain ⟨g, cur, e1, e2, e3, e4⟩ := hB
 have h2 : SRb E (fun i => if i = K then none else β i) F ((σ.kill K).seth K (.row (.ints .u8 []))) a w := by
   refine ⟨hk.tm, hk.sz, hk.df, fun i => ?_, fun i l g h1 h2 e1 e2 => ?_, fun i g h1 e => ?_, hk.lt, hk.fr, hk.keep, hk.bb, hk.nbl⟩
   · by_cases e : i = K
     · subst e
       simp only [St.seth, if_true]
       exact .inl ⟨rfl, fun g hg => by simp at hg⟩
     · simpa [St.seth, e] using hk.hp i
   · by_cases ek : i = K
     · subst ek; simp at e1
     · by_cases el : l = K
       · subst el; simp at e2
       · exact hk.inj i l g (by simpa [St.seth, ek] using h1) (by simpa [St.seth, el] using h2) e1 e2
   · by_cases ek : i = K
     · subst ek; simp at e
     · exact hk.own i g (by simpa [St.seth, ek] using h1) e
 refine ⟨_, F, h2.setBlk (j := j) (by simp [St.seth, hjK, hjk]) ⟨g, cur, e1, e2, by simpa using e3, fun m x v hx hv => ?_⟩⟩
 rw [List.getElem?_set] at hx
 split at hx
 · rename_i him
   subst him
   split at hx
   · simp only [Option.some.injEq] at hx
     subst hx
     have h5 : (cs.map (Cell.kill K))[i]? = some (.lf (.v (.slice none 0 0))) := by rw [List.getElem?_map, hi]; rfl
     have := e4 i _ v h5 hv
     cases this with | lf h => cases h with | v _ _ => exact .town _ _ _ _ _ _ (Nat.le_refl _) (by decide) (.inl rfl)
   · cases hx
 · exact e4 m x v hx hv
end
end Go.Sx

namespace Go.Proofs.YtaagjnlkinojcaaGreatDoor
set_option linter.unusedSimpArgs false
set_option linter.unusedVariables false
open Go.Sx
set_option maxRecDepth 10000
def textO (f : Int → ByteArray) (o : List Int) : List Int := match o with
 | [] => []
 | x :: t => strL (f x) ++ t.flatMap fun y => 46 :: strL (f y)
theorem strL_wf (s : ByteArray) : ∀ x ∈ strL s, 0 ≤ x ∧ x < 256 := by
 intro x hx
 simp only [strL, List.mem_map] at hx
 obtain ⟨b, _, rfl⟩ := hx
 have := b.toNat_lt
 omega
theorem textO_wf (f : Int → ByteArray) (o : List Int) : ∀ x ∈ textO f o, 0 ≤ x ∧ x < 256 := by
 match o with
 | [] => exact fun x h => by simp [textO] at h
 | y :: t =>
   intro x hx
   simp only [textO, List.mem_append, List.mem_flatMap, List.mem_cons] at hx
   rcases hx with h | ⟨z, _, rfl | h⟩
   · exact strL_wf _ x h
   · omega
   · exact strL_wf _ x h
theorem textO_len (f : Int → ByteArray) (hs : ∀ x, (f x).size ≤ 20) : ∀ o : List Int, (textO f o).length ≤ 21 * o.length
 | [] => by simp [textO]
 | x :: t => by
   have h1 : ∀ t : List Int, (t.flatMap fun y => 46 :: strL (f y)).length ≤ 21 * t.length := by
     intro t
     induction t with
     | nil => simp
     | cons y t ih =>
       have := hs y
       simp [strL_len] at *
       omega
   have := h1 t
   have := hs x
   simp [textO, strL_len] at *
   omega
theorem textO_take (f : Int → ByteArray) {o : List Int} {i : Nat} (h : i < o.length) (h0 : 0 < i) : textO f (o.take (i + 1)) = textO f (o.take i) ++ (46 :: strL (f (o.getD i 0))) := by
 match o, i, h, h0 with
 | x :: t, i + 1, h, _ =>
   have h' : i < t.length := by simpa using h
   rw [List.take_succ_cons, List.take_succ_cons, List.getD_cons_succ]
   simp only [textO]
   rw [List.take_add_one, List.getElem?_eq_getElem h', List.getD_eq_getElem?_getD, List.getElem?_eq_getElem h']
   simp only [Option.toList_some, Option.getD_some, List.flatMap_append, List.flatMap_singleton, List.append_assoc]
def adr (j : Nat) : Nat → Cell
 | 0 => nilC
 | _ + 1 => .ptr j 0
theorem text_of (f : Int → ByteArray) (hs : ∀ x, (f x).size ≤ 20) (hs1 : ∀ x, 0 < (f x).size) (o : List Int) (hr : rightO o = true) (hI : ∀ x ∈ o, Ct Tryz.prog 118 [lv (.int .i64 x)] [] (lv (.string (f x))) [] []) :
   Ct Tryz.prog 95 [I64 o] [] (.tup [lv (.string (strOfNums (textO f o))), lv (.int .i64 0)]) [] [] := by
 have hl : o.length ≤ 32 ∧ 2 ≤ o.length := by
   obtain ⟨a, b, t, rfl, _, _, _, _, ht, _⟩ := right_nums hr
   simp; omega
 have h1 := oright_ok o (by omega)
 rw [hr] at h1
 refine Ct_intro Tryz.func95 rfl rfl rfl rfl rfl (fun E hn hb => ?_)
 repeat (refine nst ?_)
 refine s_call0 h1 rfl rfl rfl (by rw [hn]; rfl) rfl rfl (by exact vcs) rfl rfl rfl ?_
 repeat (refine nst ?_)
 refine W_cond rfl (by simp) (fun hc => ?_) (fun hc => ?_)
 · simp at hc
 clear hc
 repeat (refine nst ?_)
 refine s_allocT rfl rfl rfl (by rw [hn]; rfl) rfl zok174 ?_
 repeat (refine nst ?_)
 refine W_sr (fun a w h => SR.cell_nilT 5 (cs := [.lf (.v (.pointer none)), .lf (.v (.slice none 0 0))]) (cs' := [.lf (.v (.pointer none)), .town 900 0 0 5]) 68 1 900 rfl rfl rfl rfl rfl h) ?_
 refine W_weaken (St.le_of (l := [(4, .c (.tptr 68 174)), (10, I64 o), (11, lv (.int .i64 (o.length : Int))), (12, lv (.int .i64 ((0 : Nat) : Int)))]) (h := [(68, .cells [adr 68 0, .town 900 0 ([] : List Int).length 5]), (900, .row (.ints .u8 []))]) (by refine ⟨?_, ?_⟩ <;> (repeat' (first | exact trivial | exact rfl | refine ⟨?_, ?_⟩)) <;> first | exact rfl | (simp; done) | skip)) ?_
 refine W_loop (ι := {s : Nat × List Int // s.1 ≤ o.length ∧ s.2 = textO f (o.take s.1)}) (fun s => St.of [(4, .c (.tptr 68 174)), (10, I64 o), (11, lv (.int .i64 (o.length : Int))), (12, lv (.int .i64 (s.1.1 : Int)))] [(68, .cells [adr 68 s.1.1, .town 900 0 s.1.2.length 5]), (900, .row (.ints .u8 s.1.2))]) (fun s => o.length - s.1.1) (fun s => ?_) ⟨(0, []), by dsimp only; omega, rfl⟩
 obtain ⟨⟨i, acc⟩, hi, he⟩ := s
 dsimp only at hi he ⊢
 repeat (refine nst ?_)
 refine W_cond rfl (by simp) (fun hc => ?_) (fun hc => ?_)
 · have hi2 : i < o.length := by simpa using hc
   have hal : acc.length ≤ 1000 := by
     have := textO_len f hs (o.take i)
     rw [he]
     simp at this
     omega
   have hxi : o.getD i 0 ∈ o := by rw [List.getD_eq_getElem?_getD, List.getElem?_eq_getElem hi2]; exact List.getElem_mem hi2
   have hIx := hI _ hxi
   have hsx := hs (o.getD i 0)
   match i, hi, he, hi2, hxi, hIx, hsx with
   | 0, hi, he, hi2, hxi, hIx, hsx =>
     have he0 : acc = [] := he
     subst he0
     have hnext : strL (f (o.getD 0 0)) = textO f (o.take (0 + 1)) := by
       match o, hi2 with
       | x :: t, _ => simp [textO]
     generalize hX : o.getD 0 0 = x at *
     generalize hFX : f x = F at *
     have hw := writeString_ok (p := nilC) (.inl rfl) [] F (by simp) (by omega)
     repeat (refine nst ?_)
     rw [show o.getD (Int.toNat ((0 : Nat) : Int)) 0 = x from hX]
     refine W_cond rfl (by simp) (fun h2 => ?_) (fun h2 => ?_)
     · simp at h2
     repeat (refine nst ?_)
     refine s_call0 hIx rfl rfl rfl (by rw [hn]; rfl) rfl rfl (by exact vcs) rfl rfl rfl ?_
     repeat (refine nst ?_)
     refine s_callM [68, 900] hw rfl rfl (by rw [hn]; rfl) rfl rfl (by trivial) ⟨rfl, ⟨rfl, rfl⟩, (by simp [ordL]), rfl⟩ ?_
     repeat (refine nst ?_)
     refine N_sr (fun a w h => SR.mv 86 900 rfl rfl rfl rfl rfl h) ?_
     exact N_round ⟨(0 + 1, [] ++ strL F), by dsimp only; omega, hnext⟩ (by dsimp only; omega) (St.le_of ⟨⟨rfl, rfl, rfl, rfl⟩, ⟨by dsimp only; rw [List.length_append, strL_len]; rfl, rfl⟩⟩)
   | i + 1, hi, he, hi2, hxi, hIx, hsx =>
     have hnext := textO_take f hi2 (by omega)
     rw [← he] at hnext
     generalize hX : o.getD (i + 1) 0 = x at *
     generalize hFX : f x = F at *
     have hb1 := writeByte_ok (p := .ptr 0 0) (.inr rfl) acc (by omega) 46 (by decide)
     have hw := writeString_ok (p := .ptr 0 0) (.inr rfl) (acc ++ [46]) F (by simp; omega) (by omega)
     have e1 : acc.length + 1 = (acc ++ [46]).length := by simp
     rw [e1] at hb1
     have e2 : (acc ++ [46]) ++ strL F = acc ++ 46 :: strL F := by simp
     rw [e2] at hw
     have e3 : (acc ++ [46]).length + F.size = (acc ++ 46 :: strL F).length := by simp [strL_len]; omega
     rw [e3] at hw
     repeat (refine nst ?_)
     rw [show o.getD (Int.toNat ((i + 1 : Nat) : Int)) 0 = x from hX]
     refine W_cond rfl (by simp) (fun h2 => ?_) (fun h2 => ?_)
     · repeat (refine nst ?_)
       refine s_callM [68, 900] hb1 rfl rfl (by rw [hn]; rfl) rfl rfl (by trivial) ⟨rfl, ⟨rfl, rfl⟩, (by simp [ordL]), rfl⟩ ?_
       repeat (refine nst ?_)
       refine WL_sr (fun a w h => SR.mv 83 900 rfl rfl rfl rfl rfl h) ?_
       refine s_call0 hIx rfl rfl rfl (by rw [hn]; rfl) rfl rfl (by exact vcs) rfl rfl rfl ?_
       repeat (refine nst ?_)
       refine s_callM [68, 900] hw rfl rfl (by rw [hn]; rfl) rfl rfl (by trivial) ⟨rfl, ⟨rfl, rfl⟩, (by simp [ordL]), rfl⟩ ?_
       repeat (refine nst ?_)
       refine N_sr (fun a w h => SR.mv 86 900 rfl rfl rfl rfl rfl h) ?_
       exact N_round ⟨(i + 1 + 1, acc ++ 46 :: strL F), by dsimp only; omega, hnext.symm⟩ (by dsimp only; omega) (St.le_of ⟨⟨rfl, rfl, rfl, rfl⟩, ⟨rfl, rfl⟩⟩)
     · simp at h2
 · have hi2 : i = o.length := by simp at hc; omega
   subst hi2
   rw [List.take_length] at he
   subst he
   have hne : textO f o ≠ [] := by
     obtain ⟨a, b, t, rfl, _⟩ := right_nums hr
     have := hs1 a
     intro h
     have h3 := congrArg List.length h
     simp [textO, strL_len] at h3
     try omega
   have hst := string_ok (textO f o) (by have := textO_len f hs o; omega) hne (textO_wf f o)
   have hi0 : ∃ k, o.length = k + 1 := ⟨o.length - 1, by omega⟩
   obtain ⟨k, hk⟩ := hi0
   rw [show adr 68 o.length = .ptr 68 0 from by rw [hk]; rfl]
   repeat (refine nst ?_)
   refine s_callX [68, 900] hst hb rfl rfl rfl rfl (by rw [hn]; rfl) rfl rfl (by trivial) ⟨rfl, ⟨rfl, rfl⟩, by simp [ordL], rfl⟩ ?_
   repeat (refine nst ?_)
   exact rt1 []
end Go.Proofs.YtaagjnlkinojcaaGreatDoor

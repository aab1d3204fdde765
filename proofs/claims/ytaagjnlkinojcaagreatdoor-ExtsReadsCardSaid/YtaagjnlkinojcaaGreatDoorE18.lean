/-
  The layer: an element's field, a whole element of a row of one's own, loaded in a region of open order. No condition.
-/
import Derived.Test.YtaagjnlkinojcaaGreatDoorE14
import Derived.Test.YtaagjnlkinojcaaGreatDoorSxI
import Derived.Test.YtaagjnlkinojcaaGreatDoorW16
import Derived.Test.YtaagjnlkinojcaaGreatDoorSxP
import Derived.Test.YtaagjnlkinojcaaGreatDoorA5
import Derived.Test.YtaagjnlkinojcaaGreatDoorC9
import Derived.Test.YtaagjnlkinojcaaGreatDoorA4
import Derived.Test.YtaagjnlkinojcaaGreatDoorSxQ
import Derived.Test.YtaagjnlkinojcaaGreatDoorO3
import Derived.Test.YtaagjnlkinojcaaGreatDoorO6
namespace Go.Proofs.YtaagjnlkinojcaaGreatDoor
set_option linter.unusedSimpArgs false
set_option linter.unusedVariables false
open Go.Sx
set_option maxRecDepth 10000
abbrev txS (o : List Int) : ByteArray := strOfNums (textO refS o)
def metM (os : List (List Int)) : MapL := os.map fun o => (txS o, Leaf.v (.bool true))
theorem txS_inj {o q : List Int} (h : rightO o = true) (hq : rightO q = true) (e : txS o = txS q) : o = q := text_inj h hq (by
 have := congrArg bs e
 rwa [bs_str (textO_wf refS o), bs_str (textO_wf refS q)] at this)
theorem met_find {o : List Int} (h : rightO o = true) : ∀ {os : List (List Int)}, (∀ q ∈ os, rightO q = true) → findM (metM os) (txS o) = if o ∈ os then some (.v (.bool true)) else none
 | [], _ => rfl
 | q :: os, hq => by
   have ih := met_find h (os := os) fun x hx => hq x (List.mem_cons_of_mem _ hx)
   show (if txS o = txS q then some (Leaf.v (.bool true)) else findM (metM os) (txS o)) = _
   by_cases e : o = q
   · subst e; simp
   · rw [if_neg fun h2 => e (txS_inj h (hq q (List.mem_cons_self ..)) h2), ih]
     simp [e]
theorem met_set {o : List Int} (h : rightO o = true) : ∀ {os : List (List Int)}, (∀ q ∈ os, rightO q = true) → o ∉ os → setM (metM os) (txS o) (.v (.bool true)) = metM (os ++ [o])
 | [], _, _ => rfl
 | q :: os, hq, hn => by
   have ih := met_set h (os := os) (fun x hx => hq x (List.mem_cons_of_mem _ hx)) fun h2 => hn (List.mem_cons_of_mem _ h2)
   show (if txS o = txS q then _ else (txS q, Leaf.v (.bool true)) :: setM (metM os) (txS o) (.v (.bool true))) = _
   rw [if_neg fun h2 => hn (by rw [txS_inj h (hq q (List.mem_cons_self ..)) h2]; exact List.mem_cons_self ..), ih]
   rfl
theorem otx_ok (o : List Int) (h : rightO o = true) : Ct Tryz.prog 95 [I64 o] [] (.tup [lv (.string (txS o)), lv (.int .i64 0)]) [] [] := otext_ok o h
theorem madd_old (os : List (List Int)) (o : List Int) (h : rightO o = true) (hq : ∀ q ∈ os, rightO q = true) (hm : o ∈ os) : Ct Tryz.prog 58 [.c (.map 0), I64 o] [.map (metM os)] (lv (.bool false)) [.map (metM os)] [] := by
 have ht := otx_ok o h
 have hf := met_find h hq
 rw [if_pos hm] at hf
 generalize txS o = s at *
 generalize metM os = es at *
 refine Ct_intro Tryz.func58 rfl rfl rfl rfl rfl (fun E hn hb => ?_)
 repeat refine nxm ?_
 exact rt1 []
theorem madd_new (os : List (List Int)) (o : List Int) (h : rightO o = true) (hq : ∀ q ∈ os, rightO q = true) (hm : o ∉ os) : Ct Tryz.prog 58 [.c (.map 0), I64 o] [.map (metM os)] (lv (.bool true)) [.map (metM (os ++ [o]))] [] := by
 have ht := otx_ok o h
 have hf := met_find h hq
 rw [if_neg hm] at hf
 rw [← met_set h hq hm]
 generalize txS o = s at *
 generalize metM os = es at *
 refine Ct_intro Tryz.func58 rfl rfl rfl rfl rfl (fun E hn hb => ?_)
 repeat refine nxm ?_
 exact rt1 []
theorem goodX_nil : goodX [] := ⟨fun e he => (by cases he), List.nodup_nil⟩
theorem goodX_right {acc : List ExT} (h : goodX acc) : ∀ q ∈ acc.map (·.1), rightO q = true := fun q hq => by
 obtain ⟨e, he, rfl⟩ := List.mem_map.1 hq
 exact h.1 e he
set_option maxHeartbeats 8000000 in
theorem all_ok (l : List Int) (hl : l.length ≤ 1000000) (hw : WfB l) : Ct Tryz.prog 45 [.c (.ptr 0 0)] [curB l 0] (.tup [exR (allP l).1, lv (.int .i64 (allP l).2.2)]) [curB l (allP l).2.1] [] := by
 obtain ⟨R, hR⟩ : ∃ R, allP l = R := ⟨_, rfl⟩
 rw [hR]
 unfold allP at hR
 have hleft0 := left_ok l 0 (Nat.zero_le _) (by omega)
 by_cases h0 : l = []
 · rw [if_pos h0] at hR
   subst hR
   subst h0
   refine Ct_intro Tryz.func45 rfl rfl rfl rfl rfl (fun E hn hb => ?_)
   repeat refine nx ?_
   exact rtU []
 · rw [if_neg h0] at hR
   have hpos : 0 < l.length := List.length_pos_iff.2 h0
   refine Ct_intro Tryz.func45 rfl rfl rfl rfl rfl (fun E hn hb => ?_)
   repeat refine nxm ?_
   refine W_own_nil 5 900 3 (.recs 3 []) rfl rfl (.inr (.inr ⟨_, rfl⟩)) ?_
   refine W_weaken (St.le_of (l := [(0, .c (.ptr 0 0)), (4, .c (.map 75)), (5, .c (.own 900 3 0 (([] : List ExT).map exL).length))]) (h := [(0, curB l 0), (75, .map (metM (([] : List ExT).map (·.1)))), (900, .row (.recs 3 (([] : List ExT).map exL)))]) (by refine ⟨?_, ?_⟩ <;> (repeat' (first | exact trivial | exact rfl | refine ⟨?_, ?_⟩)) <;> first | exact rfl | (simp; done) | skip)) ?_
   refine W_loop (ι := {s : Nat × List ExT // s.1 ≤ l.length ∧ goodX s.2 ∧ s.2.length ≤ 64 ∧ allX l (l.length + 1) s.1 s.2 = R}) (fun s => St.of [(0, .c (.ptr 0 0)), (4, .c (.map 75)), (5, .c (.own 900 3 0 (s.1.2.map exL).length))] [(0, curB l s.1.1), (75, .map (metM (s.1.2.map (·.1)))), (900, .row (.recs 3 (s.1.2.map exL)))]) (fun s => l.length - s.1.1) (fun s => ?_) ⟨(0, []), Nat.zero_le _, goodX_nil, Nat.zero_le _, hR⟩
   obtain ⟨⟨p, acc⟩, hp, hg, h64, hx⟩ := s
   dsimp only at hp hg h64 hx ⊢
   have hlf := left_ok l p hp (by omega)
   have hml : (acc.map exL).length = acc.length := List.length_map ..
   unfold allX at hx
   by_cases hlt : p < l.length
   · rw [if_pos hlt] at hx
     by_cases h6 : acc.length = 64
     · rw [if_pos h6] at hx
       subst hx
       repeat refine nxm ?_
       exact rtU []
     · rw [if_neg h6] at hx
       have hr := readone_ok l p hp hl hw
       have hbk := @exR1_back l (exR1 l p).1 p (exR1 l p).2.1 hw hp
       have hne := @exR1_err l p
       generalize exR1 l p = X at *
       obtain ⟨x, q, e⟩ := X
       dsimp only at hr hbk hx hne
       by_cases he : e = 0
       · subst he
         rw [if_pos rfl] at hx
         obtain ⟨b1, b2, b3, b4, b5, b6⟩ := hbk rfl
         by_cases hh : hasO acc x.1 = true
         · rw [if_pos hh] at hx
           subst hx
           have ha := madd_old (acc.map (·.1)) x.1 b1 (goodX_right hg) (hasO_iff.1 hh)
           obtain ⟨o, c, v⟩ := x
           repeat refine nxm ?_
           exact rtU []
         · rw [if_neg hh] at hx
           have ha := madd_new (acc.map (·.1)) x.1 b1 (goodX_right hg) (fun h => hh (hasO_iff.2 h))
           have hg2 := goodX_snoc hg b1 hh
           rw [allX_fuel l hw l.length (l.length + 1) q _ b6 (by omega) (by omega)] at hx
           obtain ⟨o, c, v⟩ := x
           repeat refine nxm ?_
           refine N_round ⟨(q, acc ++ [(o, c, v)]), b6, hg2, by simp; omega, hx⟩ (by dsimp only; omega) (St.le_of ⟨⟨rfl, rfl, ?_⟩, ⟨rfl, ?_, ?_⟩⟩)
           · dsimp only; rw [List.map_append]; rfl
           · dsimp only; rw [List.map_append]; rfl
           · dsimp only; rw [List.map_append]; rfl
       · rw [if_neg he] at hx
         obtain ⟨rfl, rfl⟩ := hne he
         subst hx
         repeat refine nxm ?_
         exact rtU []
   · obtain rfl : p = l.length := by omega
     rw [if_neg hlt] at hx
     subst hx
     repeat refine nxm ?_
     rw [hml]
     refine frzN 2 ?_
     exact rt1 []
def rawXs (l : List Int) (p : Nat) : List ExT × Nat × Int :=
 let r := openP l p (ofT 16)
 if r.2.2 = 0 then ((allP r.1).1, r.2.1, (allP r.1).2.2) else ([], p, r.2.2)
theorem exsR_keep (l : List Int) (p : Nat) : exsR l p = keepP [] p (rawXs l p) := by
 unfold exsR rawXs keepP
 dsimp only
 split
 · split
   · rename_i h1 h2; rw [h2]
   · rfl
 · rfl
theorem rawXs_le (l : List Int) (p : Nat) (hp : p ≤ l.length) : p ≤ (rawXs l p).2.1 ∧ (rawXs l p).2.1 ≤ l.length := by
 have h := openP_le l p (ofT 16) hp
 unfold rawXs
 dsimp only
 split
 · exact h
 · exact ⟨Nat.le_refl _, hp⟩
abbrev exsE (x : List ExT) (e : Int) : Av := .tup [exR x, lv (.int .i64 e)]
set_option maxHeartbeats 4000000 in
theorem rawXs_ok (l : List Int) (p : Nat) (hp : p ≤ l.length) (hl : l.length ≤ 1000000) (hw : WfB l) : Ct Tryz.prog 44 [.c (.ptr 1 0)] [curB l p, ptrB] (exsE (rawXs l p).1 (rawXs l p).2.2) [curB l (rawXs l p).2.1, ptrB] [] := by
 have hho := headof_ok 16
 have hop := open_ok l p (ofT 16) hp hl hw
 have hoe := open_err l p (ofT 16) hp hl hw
 have hmem := openP_mem l p (ofT 16)
 unfold rawXs
 generalize openP l p (ofT 16) = X at *
 obtain ⟨x, q, e⟩ := X
 dsimp only at *
 by_cases he : e = 0
 · subst he
   have hop := hop rfl
   rw [if_pos rfl]
   have hal := all_ok x (by omega) (fun y hy => hw y (hmem.2 y hy))
   generalize allP x = A at *
   refine Ct_intro Tryz.func44 rfl rfl rfl rfl rfl (fun E hn hb => ?_)
   repeat refine nxw ?_
   refine du3E [72] [(2, 0), (2, 72)] ?_
   repeat (first | refine nx ?_ | refine dcn1 [0] hn hop ?_)
   exact rt1 []
 · have hoe := hoe he
   rw [if_neg he]
   refine Ct_intro Tryz.func44 rfl rfl rfl rfl rfl (fun E hn hb => ?_)
   repeat refine nxw ?_
   refine du3E [] [(2, 0)] ?_
   repeat (first | refine nx ?_ | refine dcn1 [0] hn hoe ?_)
   exact rtU []
theorem keptL_ok (g : FuncId) (l : List Int) (p q : Nat) (x : List ExT) (hg : Ct Tryz.prog g [.c (.ptr 1 0)] [curB l p, ptrB] (exsE x 0) [curB l q, ptrB] []) :
   Ct Tryz.prog 43 [.c (.ptr 0 0), .c (.fn (.func g) [] [.ptr 1 0])] [curB l p, ptrB] (exsE x 0) [curB l q, ptrB] [] := by
 have h1 := at_ok l p
 refine Ct_intro Tryz.func43 rfl rfl rfl rfl rfl (fun E hn hb => ?_)
 repeat refine nx ?_
 exact rt1 []
theorem keptL_err (g : FuncId) (l : List Int) (p q : Nat) (x : List ExT) (e : Int) (he : e ≠ 0) (hq : p ≤ q) (hl : q ≤ 1000000) (hg : Ct Tryz.prog g [.c (.ptr 1 0)] [curB l p, ptrB] (exsE x e) [curB l q, ptrB] []) :
   Ct Tryz.prog 43 [.c (.ptr 0 0), .c (.fn (.func g) [] [.ptr 1 0])] [curB l p, ptrB] (exsE [] e) [curB l p, ptrB] [] := by
 have h1 := at_ok l p
 have hbk := back_ok l q p hq hl
 refine Ct_intro Tryz.func43 rfl rfl rfl rfl rfl (fun E hn hb => ?_)
 repeat refine nx ?_
 exact rtU []
theorem xread_ok (l : List Int) (p : Nat) (hp : p ≤ l.length) (hl : l.length ≤ 1000000) (hw : WfB l) : Ct Tryz.prog 10 [.c (.ptr 0 0)] [curB l p] (exsE (exsR l p).1 (exsR l p).2.2) [curB l (exsR l p).2.1] [] := by
 have h := rawXs_ok l p hp hl hw
 have hle := rawXs_le l p hp
 have hk : Ct Tryz.prog 43 [.c (.ptr 0 0), .c (.fn (.func 44) [] [.ptr 1 0])] [curB l p, ptrB] (exsE (exsR l p).1 (exsR l p).2.2) [curB l (exsR l p).2.1, ptrB] [] := by
   rw [exsR_keep]
   by_cases he : (rawXs l p).2.2 = 0
   · rw [keepP_ok _ _ _ he]
     rw [he] at h ⊢
     exact keptL_ok 44 l p _ _ h
   · rw [keepP_err _ _ _ he]
     exact keptL_err 44 l p _ _ _ he hle.1 (by omega) h
 refine Ct_intro Tryz.func10 rfl rfl rfl rfl rfl (fun E hn hb => ?_)
 repeat refine nx ?_
 refine s_call [0, 65] hk rfl rfl (by rw [hn]; rfl) rfl rfl (by trivial) ⟨rfl, ⟨rfl, rfl⟩, (by simp [ordL]), rfl⟩ ?_
 repeat refine nx ?_
 exact rt1 []

def W32 (x : Int) : Prop := 0 ≤ x ∧ x < 4294967296
structure V8 where
 a : Int
 b : Int
 c : Int
 d : Int
 e : Int
 f : Int
 g : Int
 h : Int
def V8.l (v : V8) : List Int := [v.a, v.b, v.c, v.d, v.e, v.f, v.g, v.h]
def V8.ok (v : V8) : Prop := W32 v.a ∧ W32 v.b ∧ W32 v.c ∧ W32 v.d ∧ W32 v.e ∧ W32 v.f ∧ W32 v.g ∧ W32 v.h
def KS : List Int := [
 0x428a2f98, 0x71374491, 0xb5c0fbcf, 0xe9b5dba5, 0x3956c25b, 0x59f111f1, 0x923f82a4, 0xab1c5ed5,
 0xd807aa98, 0x12835b01, 0x243185be, 0x550c7dc3, 0x72be5d74, 0x80deb1fe, 0x9bdc06a7, 0xc19bf174,
 0xe49b69c1, 0xefbe4786, 0x0fc19dc6, 0x240ca1cc, 0x2de92c6f, 0x4a7484aa, 0x5cb0a9dc, 0x76f988da,
 0x983e5152, 0xa831c66d, 0xb00327c8, 0xbf597fc7, 0xc6e00bf3, 0xd5a79147, 0x06ca6351, 0x14292967,
 0x27b70a85, 0x2e1b2138, 0x4d2c6dfc, 0x53380d13, 0x650a7354, 0x766a0abb, 0x81c2c92e, 0x92722c85,
 0xa2bfe8a1, 0xa81a664b, 0xc24b8b70, 0xc76c51a3, 0xd192e819, 0xd6990624, 0xf40e3585, 0x106aa070,
 0x19a4c116, 0x1e376c08, 0x2748774c, 0x34b0bcb5, 0x391c0cb3, 0x4ed8aa4a, 0x5b9cca4f, 0x682e6ff3,
 0x748f82ee, 0x78a5636f, 0x84c87814, 0x8cc70208, 0x90befffa, 0xa4506ceb, 0xbef9a3f7, 0xc67178f2]
def wordBytes (x : Int) : List Int := [x / 16777216 % 256, x / 65536 % 256, x / 256 % 256, x % 256]
def V8.bytes (v : V8) : List Int := v.l.flatMap wordBytes

@[simp] theorem KS_len : KS.length = 64 := rfl
@[simp] theorem KS_nil : KS ≠ [] := by intro h; cases h
abbrev u32C (x : Int) : Cell := .lf (.v (.int .u32 x))

abbrev hC (v : V8) (bg : Bool) (X : Cell) (n : Int) : List Cell := [u32C v.a, u32C v.b, u32C v.c, u32C v.d, u32C v.e, u32C v.f, u32C v.g, u32C v.h, .lf (.v (.bool bg)), X, .lf (.v (.int .i64 n))]

def rtrR (l : List Int) (p : Nat) : List Int × Nat × Int :=
 let r := openP l p (ofT 1)
 if r.2.2 = 0 then (if r.1 = [0] ∨ r.1 = [255] then (r.1, r.2.1, 0) else ([], p, 6)) else ([], p, r.2.2)
set_option maxHeartbeats 4000000 in
theorem rtruth_ok (l : List Int) (p : Nat) (hp : p ≤ l.length) (hl : l.length ≤ 1000000) (hw : WfB l) : Ct Tryz.prog 42 [B8 l, lv (.int .i64 (p : Int)), lv (.int .i64 1)] [] (.tup [B8 (rtrR l p).1, lv (.int .i64 ((rtrR l p).2.1 : Int)), lv (.int .i64 (rtrR l p).2.2)]) [] [] := by
 have hof := refoft_ok 1
 have hop := refopen_ok l p (ofT 1) hp hl hw
 have hmem := openP_mem l p (ofT 1)
 unfold rtrR
 generalize openP l p (ofT 1) = X at *
 obtain ⟨x, q, e⟩ := X
 dsimp only at *
 by_cases he : e = 0
 · subst he
   rw [if_pos rfl]
   match x, hop, hmem with
   | [], hop, hmem =>
     rw [if_neg (by simp)]
     refine Ct_intro Tryz.func42 rfl rfl rfl rfl rfl (fun E hn hb => ?_)
     repeat refine nx ?_
     exact rtU []
   | [u], hop, hmem =>
     by_cases h0 : u = 0
     · subst h0
       rw [if_pos (.inl rfl)]
       refine Ct_intro Tryz.func42 rfl rfl rfl rfl rfl (fun E hn hb => ?_)
       repeat refine nx ?_
       exact rt1 []
     · by_cases h1 : u = 255
       · subst h1
         rw [if_pos (.inr rfl)]
         refine Ct_intro Tryz.func42 rfl rfl rfl rfl rfl (fun E hn hb => ?_)
         repeat refine nx ?_
         exact rt1 []
       · rw [if_neg (by simp [h0, h1])]
         refine Ct_intro Tryz.func42 rfl rfl rfl rfl rfl (fun E hn hb => ?_)
         repeat refine nx ?_
         exact rtU []
   | u :: v :: t, hop, hmem =>
     rw [if_neg (by simp)]
     refine Ct_intro Tryz.func42 rfl rfl rfl rfl rfl (fun E hn hb => ?_)
     repeat refine nx ?_
     exact rtU []
 · rw [if_neg he]
   refine Ct_intro Tryz.func42 rfl rfl rfl rfl rfl (fun E hn hb => ?_)
   repeat refine nx ?_
   exact rtU []
theorem openP_err {l : List Int} {p : Nat} {t : TagP} (h : ¬ (openP l p t).2.2 = 0) : (openP l p t).1 = [] ∧ (openP l p t).2.1 = p := by
 unfold openP keepP at h ⊢
 by_cases h2 : (rawO l p t).2.2 = 0
 · rw [if_pos h2] at h; exact absurd h2 h
 · rw [if_neg h2]; exact ⟨rfl, rfl⟩
theorem rocts_ok (l : List Int) (p : Nat) (hp : p ≤ l.length) (hl : l.length ≤ 1000000) (hw : WfB l) : Ct Tryz.prog 42 [B8 l, lv (.int .i64 (p : Int)), lv (.int .i64 3)] [] (.tup [B8 (openP l p (ofT 4)).1, lv (.int .i64 ((openP l p (ofT 4)).2.1 : Int)), lv (.int .i64 (openP l p (ofT 4)).2.2)]) [] [] := by
 have hof := refoft_ok 4
 have hop := refopen_ok l p (ofT 4) hp hl hw
 have hke := @openP_err l p (ofT 4)
 generalize openP l p (ofT 4) = X at *
 obtain ⟨x, q, e⟩ := X
 dsimp only at *
 by_cases he : e = 0
 · subst he
   refine Ct_intro Tryz.func42 rfl rfl rfl rfl rfl (fun E hn hb => ?_)
   repeat refine nx ?_
   exact rt1 []
 · obtain ⟨rfl, rfl⟩ := hke he
   refine Ct_intro Tryz.func42 rfl rfl rfl rfl rfl (fun E hn hb => ?_)
   repeat refine nx ?_
   exact rtU []
theorem rtr_bool (l : List Int) (p : Nat) : boolR l p = (decide ((rtrR l p).1 = [255]), (rtrR l p).2.1, (rtrR l p).2.2) := by
 unfold boolR rtrR
 dsimp only
 split
 · split
   · rfl
   · rfl
 · rfl
theorem rtr_cases {l : List Int} {p : Nat} (h : (rtrR l p).2.2 = 0) : (rtrR l p).1 = [0] ∨ (rtrR l p).1 = [255] := by
 unfold rtrR at h ⊢
 dsimp only at h ⊢
 split at h
 · rename_i h1
   rw [if_pos h1]
   split at h
   · rename_i h2
     rw [if_pos h2]; exact h2
   · simp at h
 · rename_i h1
   exact absurd h h1
set_option maxHeartbeats 16000000 in
theorem rreadone_ok (l : List Int) (p : Nat) (hp : p ≤ l.length) (hl : l.length ≤ 1000000) (hw : WfB l) : Ct Tryz.prog 9 [B8 l, lv (.int .i64 (p : Int))] [] (.tup [exA (exR1 l p).1, lv (.int .i64 ((exR1 l p).2.1 : Int)), lv (.int .i64 (exR1 l p).2.2)]) [] [] := by
 have hof := refoft_ok 16
 have hop := refopen_ok l p (ofT 16) hp hl hw
 have hmem := openP_mem l p (ofT 16)
 unfold exR1 rawX
 generalize openP l p (ofT 16) = X at *
 obtain ⟨x, q, e⟩ := X
 dsimp only at *
 by_cases he : e = 0
 · subst he
   rw [if_pos rfl]
   have hwx : WfB x := fun y hy => hw y (hmem.2 y hy)
   have h1 := roread_ok x 0 (Nat.zero_le _) (by omega) hwx
   have h1l := oidR_le x 0 (Nat.zero_le _)
   generalize oidR x 0 = O at *
   obtain ⟨o, p1, f1⟩ := O
   dsimp only at *
   by_cases hf1 : f1 = 0
   · subst hf1
     rw [if_pos rfl]
     have h2 := refread_ok x p1 h1l.2 (by omega) hwx
     have h2l := critR_le x p1 h1l.2
     have h3 := rtruth_ok x p1 h1l.2 (by omega) hwx
     have h3c := @rtr_cases x p1
     have hof1 : Ct Tryz.prog 39 [lv (.int .i64 1)] [] (tagA (0, 1, false)) [] [] := refoft_ok 1
     have hcr : critR x p1 = if (decide ((readP x p1).2.2 = 0) && decide ((readP x p1).1.1 = ofT 1)) = true then (decide ((rtrR x p1).1 = [255]), (rtrR x p1).2.1, if (rtrR x p1).2.2 = 0 ∧ decide ((rtrR x p1).1 = [255]) = false then 6 else (rtrR x p1).2.2) else (false, p1, 0) := by
       unfold critR isH
       rw [rtr_bool]
     generalize critR x p1 = K at *
     generalize readP x p1 = R at *
     obtain ⟨⟨⟨t1, t2, t3⟩, n⟩, r, g⟩ := R
     generalize rtrR x p1 = B at *
     obtain ⟨y, p2, f2⟩ := B
     dsimp only at h2 h3 h3c hcr
     generalize hC : (decide (g = 0) && decide ((t1, t2, t3) = ofT 1)) = C at *
     cases C with
     | true =>
       simp only [Bool.and_eq_true, decide_eq_true_eq] at hC
       obtain ⟨rfl, ht⟩ := hC
       have ht : (t1, t2, t3) = ((0 : Int), (1 : Int), false) := ht
       simp only [Prod.mk.injEq] at ht
       obtain ⟨rfl, rfl, rfl⟩ := ht
       rw [if_pos rfl] at hcr
       by_cases hf2 : f2 = 0
       · subst hf2
         rcases h3c rfl with rfl | rfl
         · obtain rfl : K = (false, p2, 6) := hcr
           dsimp only
           rw [if_neg (by decide), keepP_err _ _ _ (by simp)]
           refine Ct_intro Tryz.func9 rfl rfl rfl rfl rfl (fun E hn hb => ?_)
           repeat refine nx ?_
           refine W_cond rfl (by simp) (fun hc => ?_) (fun hc => ?_)
           · repeat refine nx ?_
             refine rtU [] (hu := ?_)
             exact ⟨up_e0, .inl rfl, .inl rfl, trivial⟩
           · simp [eqCs, Cell.kill, Cell.kill1] at hc
         · obtain rfl : K = (true, p2, 0) := hcr
           dsimp only at h2l ⊢
           rw [if_pos rfl]
           have h4 := rocts_ok x p2 h2l.2 (by omega) hwx
           generalize openP x p2 (ofT 4) = V at *
           obtain ⟨v, p3, f3⟩ := V
           dsimp only at *
           by_cases hf3 : f3 = 0
           · subst hf3
             rw [if_pos rfl]
             by_cases hlt : p3 < x.length
             · rw [if_pos hlt, keepP_err _ _ _ (by simp)]
               refine Ct_intro Tryz.func9 rfl rfl rfl rfl rfl (fun E hn hb => ?_)
               repeat refine nx ?_
               refine W_cond rfl (by simp) (fun hc => ?_) (fun hc => ?_)
               · repeat refine nx ?_
                 refine rtU [] (hu := ?_)
                 exact ⟨up_e0, .inl rfl, .inl rfl, trivial⟩
               · simp [eqCs, Cell.kill, Cell.kill1] at hc
             · rw [if_neg hlt, keepP_ok _ _ _ rfl]
               refine Ct_intro Tryz.func9 rfl rfl rfl rfl rfl (fun E hn hb => ?_)
               repeat refine nx ?_
               refine W_cond rfl (by simp) (fun hc => ?_) (fun hc => ?_)
               · repeat refine nx ?_
                 exact rt1 []
               · simp [eqCs, Cell.kill, Cell.kill1] at hc
           · rw [if_neg hf3, keepP_err _ _ _ hf3]
             refine Ct_intro Tryz.func9 rfl rfl rfl rfl rfl (fun E hn hb => ?_)
             repeat refine nx ?_
             refine W_cond rfl (by simp) (fun hc => ?_) (fun hc => ?_)
             · repeat refine nx ?_
               refine rtU [] (hu := ?_)
               exact ⟨up_e0, .inl rfl, .inl rfl, trivial⟩
             · simp [eqCs, Cell.kill, Cell.kill1] at hc
       · obtain rfl : K = (decide (y = [255]), p2, f2) := by rw [hcr, if_neg fun h => hf2 h.1]
         dsimp only
         rw [if_neg hf2, keepP_err _ _ _ hf2]
         refine Ct_intro Tryz.func9 rfl rfl rfl rfl rfl (fun E hn hb => ?_)
         repeat refine nx ?_
         refine W_cond rfl (by simp) (fun hc => ?_) (fun hc => ?_)
         · repeat refine nx ?_
           refine rtU [] (hu := ?_)
           exact ⟨up_e0, .inl rfl, .inl rfl, trivial⟩
         · simp [eqCs, Cell.kill, Cell.kill1] at hc
     | false =>
       have ht : ¬ (g = 0 ∧ t1 = 0 ∧ t2 = 1 ∧ t3 = false) := by
         rintro ⟨rfl, rfl, rfl, rfl⟩
         exact absurd hC (by decide)
       obtain rfl : K = (false, p1, 0) := by rw [hcr, if_neg (by simp)]
       dsimp only at h2l ⊢
       rw [if_pos rfl]
       have h4 := rocts_ok x p1 h2l.2 (by omega) hwx
       generalize openP x p1 (ofT 4) = V at *
       obtain ⟨v, p3, f3⟩ := V
       dsimp only at *
       by_cases hf3 : f3 = 0
       · subst hf3
         rw [if_pos rfl]
         by_cases hlt : p3 < x.length
         · rw [if_pos hlt, keepP_err _ _ _ (by simp)]
           refine Ct_intro Tryz.func9 rfl rfl rfl rfl rfl (fun E hn hb => ?_)
           repeat refine nx ?_
           refine W_cond rfl (by simp) (fun hc => ?_) (fun hc => ?_)
           · exfalso
             apply ht
             simp [eqCs, Cell.kill, Cell.kill1] at hc
             simp [hc]
           · repeat refine nx ?_
             refine rtU [] (hu := ?_)
             exact ⟨up_e0, .inl rfl, .inl rfl, trivial⟩
         · rw [if_neg hlt, keepP_ok _ _ _ rfl]
           refine Ct_intro Tryz.func9 rfl rfl rfl rfl rfl (fun E hn hb => ?_)
           repeat refine nx ?_
           refine W_cond rfl (by simp) (fun hc => ?_) (fun hc => ?_)
           · exfalso
             apply ht
             simp [eqCs, Cell.kill, Cell.kill1] at hc
             simp [hc]
           · repeat refine nx ?_
             exact rt1 []
       · rw [if_neg hf3, keepP_err _ _ _ hf3]
         refine Ct_intro Tryz.func9 rfl rfl rfl rfl rfl (fun E hn hb => ?_)
         repeat refine nx ?_
         refine W_cond rfl (by simp) (fun hc => ?_) (fun hc => ?_)
         · exfalso
           apply ht
           simp [eqCs, Cell.kill, Cell.kill1] at hc
           simp [hc]
         · repeat refine nx ?_
           refine rtU [] (hu := ?_)
           exact ⟨up_e0, .inl rfl, .inl rfl, trivial⟩
   · rw [if_neg hf1, keepP_err _ _ _ hf1]
     refine Ct_intro Tryz.func9 rfl rfl rfl rfl rfl (fun E hn hb => ?_)
     repeat refine nx ?_
     refine rtU [] (hu := ?_)
     exact ⟨up_e0, .inl rfl, .inl rfl, trivial⟩
 · rw [if_neg he, keepP_err _ _ _ he]
   refine Ct_intro Tryz.func9 rfl rfl rfl rfl rfl (fun E hn hb => ?_)
   repeat refine nx ?_
   refine rtU [] (hu := ?_)
   exact ⟨up_e0, .inl rfl, .inl rfl, trivial⟩
end Go.Proofs.YtaagjnlkinojcaaGreatDoor

namespace Go.Sx
open Go
set_option linter.unusedVariables false
set_option linter.unusedSimpArgs false
section
variable {P : Program} {E : Env} {ops : Array Oper} {σ : St} {o : Oper} {α : Type} {f : α → List Leaf} {ns b own : List Nat} {bs : List (List Nat × List Nat)} {l : List Oper} {K : St → Prop}
theorem dlf1 {nt : Nat} {dd : Option Nat} {t : TypeId} {y : Operand} {p : List Prop} {j sz i k : Nat} {h : α → Leaf} {rs : List α} {z0 : α} (hn : E.n = nt) (hk : DrawU P E ops ns bs l (σ.put dd (.c (.lf (h (rs.getD i z0))))) K) (hop : o.op = .load t y := by exact rfl) (hg : o.guard = none := by exact rfl) (hdf : forceO o.dst some = some dd := by exact rfl) (hd : dstOk nt dd = true := by exact rfl) (ht : tagg P t = false := by exact rfl) (ht2 : (P.underlying t).isSome = true := by exact rfl)
   (hy : ox ⟨σ.tm, fgt b σ.hp⟩ y = (p, .c (.pel j sz i k)) := by exact rfl) (hb : fgt b σ.hp j = .row (.recs sz (rs.map f)) := by exact rfl) (hf : ∀ a, (f a)[k]? = some (h a) := by exact fun _ => rfl) (hz0 : Df z0 := by first | exact Df.nil | exact Df.dflt)
   (hp : AllP p := by exact vcs) (hlt : i < rs.length := by first | omega | (simp; done) | (simp; omega) | (simp at *; omega)) : DrawU P E ops ns ((b, own) :: bs) (o :: l) σ K :=
 DU_op hdf (by rw [hn]; exact hd) (ops_of (fun τ hl => opy_loadF (f := f) (h := h) (rs := rs) (z0 := z0) hop ht ht2 ((hl.ox y (by rw [hop]; simp [Op.operands])).trans hy) ((congrFun hl.hp j).trans hb) hf hp hlt) hg) hk
end
end Go.Sx

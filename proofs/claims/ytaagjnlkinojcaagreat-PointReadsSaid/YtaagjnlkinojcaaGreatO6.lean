/-
  Chapter 04: a number's digits to the base 128, and an oid's contents. The conditions: numbers that a machine can hold.
-/
import Derived.Test.YtaagjnlkinojcaaGreatA6
import Derived.Test.YtaagjnlkinojcaaGreatO3
import Derived.Test.YtaagjnlkinojcaaGreatSxQ
import Derived.Test.YtaagjnlkinojcaaGreatSxK
import Derived.Test.YtaagjnlkinojcaaGreatW16
namespace Go.Proofs.YtaagjnlkinojcaaGreat
set_option linter.unusedSimpArgs false
set_option linter.unusedVariables false
open Go.Sx
set_option maxRecDepth 10000
abbrev btk (x : Int) (j : Nat) : List Int := [x / 128 % 2, x / 64 % 2, x / 32 % 2, x / 16 % 2, x / 8 % 2, x / 4 % 2, x / 2 % 2, x / 1 % 2].take j
abbrev kvB (j : Nat) : Int := [128, 64, 32, 16, 8, 4, 2, 1, 0].getD j 0
set_option maxHeartbeats 8000000 in
theorem zhi (x : Int) (hx : 0 ≤ x ∧ x < 256) : Ct Tryz.prog 197 [B8 [x]] [] (I64 (btk x 8)) [] [] := by
 refine z00 Tryz.func197 rfl rfl rfl rfl rfl (fun E hn hb => ?_)
 repeat refine nx ?_
 refine z10 3 900 1 (.ints .i64 []) rfl rfl (.inr (.inl ⟨_, rfl⟩)) ?_
 refine z0a (St.le_of (l := [(0, B8 [x]), (3, .c (.own 900 1 0 ([] : List Int).length)), (4, lv (.int .i64 0))]) (h := [(900, .row (.ints .i64 []))]) (by refine ⟨?_, ?_⟩ <;> (repeat' (first | exact trivial | exact rfl | refine ⟨?_, ?_⟩)) <;> first | exact rfl | (simp; done) | skip)) ?_
 refine z0j (ι := Bool) (fun b => match b with
   | false => St.of [(0, B8 [x]), (3, .c (.own 900 1 0 ([] : List Int).length)), (4, lv (.int .i64 0))] [(900, .row (.ints .i64 []))]
   | true => St.of [(0, B8 [x]), (3, .c (.own 900 1 0 (btk x 8).length)), (4, lv (.int .i64 1))] [(900, .row (.ints .i64 (btk x 8)))]) (fun b => match b with | false => 1 | true => 0) (fun b => ?_) false
 cases b with
 | true =>
   dsimp only
   repeat refine nx ?_
   refine z2O 2 ?_
   exact rt1 []
 | false =>
   dsimp only
   repeat refine nx ?_
   refine z0a (St.le_of (l := [(0, B8 [x]), (3, .c (.own 900 1 0 (btk x 0).length)), (4, lv (.int .i64 0)), (5, lv (.int .i64 x)), (6, lv (.int .i64 (kvB 0)))]) (h := [(900, .row (.ints .i64 (btk x 0)))]) (by refine ⟨?_, ?_⟩ <;> (repeat' (first | exact trivial | exact rfl | refine ⟨?_, ?_⟩)) <;> first | exact rfl | (simp; done) | skip)) ?_
   refine z0j (ι := {j : Nat // j ≤ 8}) (fun j => St.of [(0, B8 [x]), (3, .c (.own 900 1 0 (btk x j.1).length)), (4, lv (.int .i64 0)), (5, lv (.int .i64 x)), (6, lv (.int .i64 (kvB j.1)))] [(900, .row (.ints .i64 (btk x j.1)))]) (fun j => 8 - j.1) (fun j => ?_) ⟨0, Nat.zero_le _⟩
   obtain ⟨j, hj⟩ := j
   dsimp only
   by_cases h8 : j = 8
   · subst h8
     repeat refine nx ?_
     refine z06 true (by decide) (St.le_of ⟨⟨rfl, rfl, rfl⟩, rfl⟩)
   · have : j = 0 ∨ j = 1 ∨ j = 2 ∨ j = 3 ∨ j = 4 ∨ j = 5 ∨ j = 6 ∨ j = 7 := by omega
     rcases this with rfl | rfl | rfl | rfl | rfl | rfl | rfl | rfl
     · repeat refine nx ?_
       refine z06 ⟨1, by omega⟩ (by dsimp only; omega) (St.le_of ⟨⟨rfl, rfl, rfl, rfl, rfl⟩, rfl⟩)
     · repeat refine nx ?_
       refine z06 ⟨2, by omega⟩ (by dsimp only; omega) (St.le_of ⟨⟨rfl, rfl, rfl, rfl, rfl⟩, rfl⟩)
     · repeat refine nx ?_
       refine z06 ⟨3, by omega⟩ (by dsimp only; omega) (St.le_of ⟨⟨rfl, rfl, rfl, rfl, rfl⟩, rfl⟩)
     · repeat refine nx ?_
       refine z06 ⟨4, by omega⟩ (by dsimp only; omega) (St.le_of ⟨⟨rfl, rfl, rfl, rfl, rfl⟩, rfl⟩)
     · repeat refine nx ?_
       refine z06 ⟨5, by omega⟩ (by dsimp only; omega) (St.le_of ⟨⟨rfl, rfl, rfl, rfl, rfl⟩, rfl⟩)
     · repeat refine nx ?_
       refine z06 ⟨6, by omega⟩ (by dsimp only; omega) (St.le_of ⟨⟨rfl, rfl, rfl, rfl, rfl⟩, rfl⟩)
     · repeat refine nx ?_
       refine z06 ⟨7, by omega⟩ (by dsimp only; omega) (St.le_of ⟨⟨rfl, rfl, rfl, rfl, rfl⟩, rfl⟩)
     · repeat refine nx ?_
       refine z06 ⟨8, by omega⟩ (by dsimp only; omega) (St.le_of ⟨⟨rfl, rfl, rfl, rfl, rfl⟩, rfl⟩)
theorem zfC : ∀ u : Fin 8, ∀ x : Fin 256, decide (((x.val : Nat) : Int) % 2 ^ u.val = 0) = ((btk ((x.val : Nat) : Int) 8).drop (8 - u.val)).all (fun b => decide (b = 0)) := by decide +kernel
theorem ztE {u x : Int} (hu : 0 ≤ u ∧ u ≤ 7) (hx : 0 ≤ x ∧ x < 256) : decide (x % 2 ^ u.toNat = 0) = ((btk x 8).drop (8 - u.toNat)).all (fun b => decide (b = 0)) := by
 obtain ⟨k, rfl⟩ : ∃ k : Nat, u = k := ⟨u.toNat, by omega⟩
 obtain ⟨y, rfl⟩ : ∃ y : Nat, x = y := ⟨x.toNat, by omega⟩
 exact zfC ⟨k, by omega⟩ ⟨y, by omega⟩
theorem ze0 {l : List Int} (h : l ≠ []) : l.drop (l.length - 1) = [l.getD (l.length - 1) 0] := by
 have : 0 < l.length := by
   cases l with
   | nil => exact absurd rfl h
   | cons => simp
 rw [List.drop_eq_getElem_cons (by omega), List.drop_eq_nil_of_le (by omega), List.getD_eq_getElem?_getD, List.getElem?_eq_getElem (by omega)]
 rfl
set_option maxHeartbeats 8000000 in
theorem z8n (u : Int) (l : List Int) (hl : l.length ≤ 1000000) (hw : WfB l) : Ct Tryz.prog 169 [z3I u l] [] (lv (.bool (z0X u l))) [] [] := by
 have hx := z8N hw (l.length - 1)
 unfold z0X
 by_cases h0 : l = []
 · rw [if_pos h0]
   subst h0
   refine z00 Tryz.func169 rfl rfl rfl rfl rfl (fun E hn hb => ?_)
   repeat refine nx ?_
   refine rt2 [] (congrArg (fun x => lv (.bool x)) ?_) trivial
   rfl
 · rw [if_neg h0]
   have hlp : 0 < l.length := by
     cases l with
     | nil => exact absurd rfl h0
     | cons => simp
   by_cases hu : 0 ≤ u ∧ u ≤ 7
   · have hdl := ze0 h0
     rw [ztE hu hx, decide_eq_true hu.1, decide_eq_true hu.2]
     have hal := zhi (l.getD (l.length - 1) 0) hx
     rw [← hdl] at hal
     generalize hL : btk (l.getD (l.length - 1) 0) 8 = L at *
     have hLl : L.length = 8 := by rw [← hL]; rfl
     have he : (((l.length : Int) - 1).toNat) = l.length - 1 := by omega
     rw [← he] at hal
     have hLz : ∀ k, k < 8 → (L.drop k).all (fun b => decide (b = 0)) = (decide (L.getD k 0 = 0) && (L.drop (k + 1)).all (fun b => decide (b = 0))) := by
       intro k hk
       rw [List.drop_eq_getElem_cons (by omega), List.getD_eq_getElem?_getD, List.getElem?_eq_getElem (by omega)]
       rfl
     obtain ⟨k0, hk0⟩ : ∃ k0 : Nat, 8 - u = k0 := ⟨(8 - u).toNat, by omega⟩
     rw [show 8 - u.toNat = k0 by omega]
     obtain ⟨R, hR⟩ : ∃ R, (L.drop k0).all (fun b => decide (b = 0)) = R := ⟨_, rfl⟩
     rw [hR]
     clear hL hdl hx
     refine z00 Tryz.func169 rfl rfl rfl rfl rfl (fun E hn hb => ?_)
     repeat refine nx ?_
     rw [hk0]
     refine z0a (St.le_of (l := [(3, I64 L), (4, lv (.int .i64 (k0 : Int)))]) (h := []) (by refine ⟨?_, ?_⟩ <;> (repeat' (first | exact trivial | exact rfl | refine ⟨?_, ?_⟩)) <;> first | exact rfl | (simp; done) | skip)) ?_
     refine z0j (ι := {k : Nat // k ≤ 8 ∧ (L.drop k).all (fun b => decide (b = 0)) = R}) (fun k => St.of [(3, I64 L), (4, lv (.int .i64 (k.1 : Int)))] []) (fun k => 8 - k.1) (fun k => ?_) ⟨k0, by omega, hR⟩
     obtain ⟨k, hk, hkR⟩ := k
     dsimp only
     by_cases hk8 : k < 8
     · rw [hLz k hk8] at hkR
       obtain ⟨z, hz1⟩ : ∃ z, L.getD k 0 = z := ⟨_, rfl⟩
       have hz2 : L.getD (k : Int).toNat 0 = z := by rw [Int.toNat_natCast]; exact hz1
       rw [hz1] at hkR
       by_cases hz : z = 0
       · subst hz
         repeat (first | refine nx ?_ | rw [hz2])
         refine z06 ⟨k + 1, by omega, by simpa using hkR⟩ (by dsimp only; omega) (St.le_of ⟨⟨rfl, rfl⟩, trivial⟩)
       · have hRf : R = false := by rw [← hkR]; simp [hz]
         subst hRf
         repeat (first | refine nx ?_ | rw [hz2])
         exact rt1 []
     · obtain rfl : k = 8 := by omega
       have hRt : R = true := by rw [← hkR, List.drop_eq_nil_of_le (by omega)]; rfl
       subst hRt
       repeat refine nx ?_
       exact rt1 []
   · have : ¬ 0 ≤ u ∨ ¬ u ≤ 7 := by omega
     have hf : (decide (0 ≤ u) && decide (u ≤ 7) && decide (l.getD (l.length - 1) 0 % 2 ^ u.toNat = 0)) = false := by
       rcases this with h | h
       · rw [decide_eq_false h]; rfl
       · rw [decide_eq_false h]; cases decide (0 ≤ u) <;> rfl
     rw [hf]
     refine z00 Tryz.func169 rfl rfl rfl rfl rfl (fun E hn hb => ?_)
     repeat refine nx ?_
     exact rt1 []

theorem zd7 (l : List Int) (hl : l.length ≤ 1000000) (hw : WfB l) : Ct Tryz.prog 124 [B8 l] [] (.tup [z3I (z2G l).1 (z2G l).2.1, lv (.bool (z2G l).2.2)]) [] [] := by
 cases l with
 | nil =>
   refine z00 Tryz.func124 rfl rfl rfl rfl rfl (fun E hn hb => ?_)
   repeat refine nx ?_
   refine rtU [] (hu := ?_)
   exact ⟨⟨.inl rfl, .inr ⟨rfl, .inl ⟨_, rfl⟩⟩, trivial⟩, .inl rfl, trivial⟩
 | cons u m =>
   have hr := z8n u m (by simp at hl; omega) (fun x hx => hw x (List.mem_cons_of_mem _ hx))
   have hu := hw u (List.mem_cons_self ..)
   have hm : m.length ≤ 1000000 := by simp at hl; omega
   unfold z2G
   dsimp only
   by_cases hrs : z0X u m = true
   · rw [if_pos hrs]
     rw [hrs] at hr
     refine z00 Tryz.func124 rfl rfl rfl rfl rfl (fun E hn hb => ?_)
     repeat refine nx ?_
     exact rt1 []
   · rw [if_neg hrs]
     rw [Bool.not_eq_true] at hrs
     rw [hrs] at hr
     refine z00 Tryz.func124 rfl rfl rfl rfl rfl (fun E hn hb => ?_)
     repeat refine nx ?_
     refine rtU [] (hu := ?_)
     exact ⟨⟨.inl rfl, .inr ⟨rfl, .inl ⟨_, rfl⟩⟩, trivial⟩, .inl rfl, trivial⟩
end Go.Proofs.YtaagjnlkinojcaaGreat

namespace Go.Sx
open Go
set_option linter.unusedVariables false
set_option linter.unusedSimpArgs false
section
variable {P : Program} {E : Env} {ops : Array Oper} {Q : Exit → Act → World → Prop} {rest : List Oper} {o : Oper} {σ : St} {α : Type} {f : α → List Leaf}
theorem wgF {nt : Nat} {dd : Option Nat} {i : Nat} {b : Bool} (x : Av) (hn : E.n = nt) (hk : WL P E ops Q rest (σ.put dd (.cnd false x))) (hg : o.guard = some (i, b) := by exact rfl) (hG : z0P ops σ i b = some false := by exact rfl) (hdf : z0d o.dst some = some dd := by exact rfl) (hd : z0b nt dd = true := by exact rfl) : WL P E ops Q (o :: rest) σ := by
 simp only [z0h, Option.some.injEq] at hdf
 subst hdf
 exact z0K (z3q hg hG fun h => by cases h) (by rw [hn]; exact hd) hk
end

section
variable {P : Program} {E : Env} {ops : Array Oper} {o : Oper} {σ : St}
theorem zhj {t e : TypeId} {n by_ sc K : Nat} {parts : Array (Nat × Operand)} {ps : List Prop} {k : IntKind} {l : List Int} (hop : o.op = .buildSlice t n parts) (hg : o.guard = none) (hdst : o.dst = some sc) (hK : K = nk (some sc) 0)
   (hf : ∀ τ, Like ops o τ σ → zdl P e n o.dst (z1l (fun i => some (i * 1, 1)) (List.replicate (n * 1) .un) (parts.toList.map fun (i, x) => (i, ox (fresh τ o.dst) x))) = some (some sc, ps, k, l))
   (hd : z0b E.n (some sc) = true) (hE : Elt P t e 1 by_) (hz : z01 P e) (hp : z03 ps) (hn : n ≤ 16777216 ∧ l.length = n) :
   ∀ τ, Like ops o τ σ → kfr K sc τ → (τ.tm sc).kill K = τ.tm sc → τ.hp K = .gone → OpT P E ops o τ ((τ.seth K (.row (.ints k l))).put o.dst (.c (.own K 1 0 l.length))) := by
 intro τ hl hkf hkc hKg
 refine zeU fun Q' hQ => z1v hop hg (hf τ hl) hd hE hz hp hn ?_
 refine z6E fun a w hS => hQ a w (hS.weaken ⟨fun s => ?_, fun j => ?_⟩)
 · rw [hdst, hK]
   show Av.le (if s = sc then _ else (τ.tm s).kill (nk (some sc) 0)) (if s = sc then _ else τ.tm s)
   by_cases e : s = sc
   · rw [if_pos e, if_pos e]; exact .inl rfl
   · rw [if_neg e, if_neg e, ← hK, hkf.1 s e]; exact .inl rfl
 · rw [hdst, hK]
   show Blk.le (if j = nk (some sc) 0 then _ else (match decide (j = nk (some sc) 0) with | true => Blk.gone | false => (τ.hp j).kill (nk (some sc) 0))) (if j = nk (some sc) 0 then _ else τ.hp j)
   by_cases e : j = nk (some sc) 0
   · rw [if_pos e, if_pos e]; exact .inl rfl
   · rw [if_neg e, if_neg e]; simp only [e, decide_false]; rw [← hK, hkf.2 j (by rw [hK]; exact e)]; exact .inl rfl
theorem zbL {t e : TypeId} {by_ : Nat} {c : Call} {x y : Operand} {px qs : List Prop} {K sc su n : Nat} {k : IntKind} {l l2 : List Int} (hop : o.op = .call c) (hc : c.callee = .builtin .append) (ha : c.args.toList = [x, y]) (hty : c.argTypes.toList = [t, t])
   (hg : o.guard = none) (hd : z0b E.n o.dst = true) (hdst : o.dst = some su) (hE : Elt P t e 1 by_) (hx : ox σ x = (px, .c (.own K 1 0 n))) (hb : σ.hp K = .row (.ints k l)) (hj64 : Nat.ble 64 K = true)
   (hy : ox σ y = (qs, .c (.lf (.ints k l2)))) (hp : z03 (px ++ qs)) (hnl : n = l.length) (hlim : l.length + l2.length ≤ 4294967296 ∧ by_ ≤ 4096) (hnb : E.nb = 0) :
   ∀ τ, Like ops o τ σ → kfr K sc τ → OpT P E ops o τ (((τ.set sc (.c .un)).seth K .gone).put o.dst (.c (.lf (.ints k (l ++ l2))))) := by
 intro τ hl hkf
 have e1 : ox τ x = ox σ x := hl.ox x (by rw [hop]; simp [Op.operands, Call.operands, ha, hc])
 have e2 : ox τ y = ox σ y := hl.ox y (by rw [hop]; simp [Op.operands, Call.operands, ha, hc])
 refine zeU fun Q' hQ => ?_
 have hyt : ox τ y = (qs, .c (.lf (.ints k l2))) := by rw [e2]; exact hy
 refine z2e (dd := some su) hop hc ha hty hg (by rw [hdst]; rfl) (by rw [← hdst]; exact hd) hE (by rw [e1]; exact hx) (by rw [hl.hp]; exact hb) hj64 (l2 := l2) (qs := qs) (by rw [hyt]; rfl) hp hnl hlim ?_
 have etm : ((((τ.kill K).seth K (.row (.ints k (l ++ l2)))).put (some su) (.c (.own K 1 0 (l ++ l2).length)))).tm su = .c (.own K 1 0 (l ++ l2).length) := if_pos rfl
 refine zeq K [(su, .c (.lf (.ints k (l ++ l2))))] (d := .ints k (l ++ l2)) (if_pos rfl) hnb ?_ ?_
 · refine ⟨?_, ?_⟩
   · show z7Z _ _ _ _
     rw [etm]
     exact ⟨rfl, rfl, rfl, by simp, by rw [List.drop_zero, List.length_append, ← List.length_append, List.take_length]⟩
   · show ([(su, Av.c (.lf (.ints k (l ++ l2))))].all fun p => z8G (((((τ.kill K).seth K (.row (.ints k (l ++ l2)))).put (some su) (.c (.own K 1 0 (l ++ l2).length)))).tm p.1)) = true
     simp only [List.all_cons, List.all_nil, etm]
     rfl
 · refine z6E fun a w hS => hQ a w (hS.weaken ⟨fun s => ?_, fun j => ?_⟩)
   · rw [hdst]
     show Av.le (if s = su then _ else ((if s = su then _ else (τ.tm s).kill K).kill K)) (if s = su then _ else if s = sc then _ else τ.tm s)
     by_cases e : s = su
     · rw [if_pos e, if_pos e]; exact .inl rfl
     · rw [if_neg e, if_neg e, if_neg e]
       by_cases e2 : s = sc
       · rw [if_pos e2]; exact .inr rfl
       · rw [if_neg e2, hkf.1 s e2, hkf.1 s e2]; exact .inl rfl
   · rw [hdst]
     show Blk.le (match decide (j = K) with | true => Blk.gone | false => (if j = K then _ else (match decide (j = K) with | true => Blk.gone | false => (τ.hp j).kill K)).kill K) (if j = K then _ else τ.hp j)
     by_cases e : j = K
     · rw [if_pos e]; simp only [e, decide_true]; exact .inl rfl
     · rw [if_neg e, if_neg e]; simp only [e, decide_false]
       rw [hkf.2 j e, hkf.2 j e]; exact .inl rfl
theorem zhk {x y : Av} (h : str x = ([], y)) : x = y := by
 cases x <;> simp_all [str]
end
end Go.Sx
namespace Go.Proofs.YtaagjnlkinojcaaGreat
open Go.Sx
set_option maxRecDepth 10000
theorem zd8 (a b : Int) (t : List Int) (ha : 0 ≤ a ∧ a ≤ 2) (hb0 : 0 ≤ b ∧ b ≤ 2147483647) (hl : t.length ≤ 1000000) : Ct Tryz.prog 243 [I64 (a :: b :: t)] [] (I64 ((40 * a + b) :: t)) [] [] := by
 refine z00 Tryz.func243 rfl rfl rfl rfl rfl (fun E hn hb => ?_)
 repeat (refine nst ?_)
 refine z0a (St.le_of (l := [(0, I64 (a :: b :: t)), (2, lv (.slice none 0 0))]) (h := []) (by refine ⟨?_, ?_⟩ <;> (repeat' (first | exact trivial | exact rfl | refine ⟨?_, ?_⟩)) <;> first | exact rfl | (simp; done) | skip)) ?_
 refine zhP (BC := .row (.ints .i64 [40 * a + b])) (oc := .own 75 1 0 1) 75 11 14 8 11 (by kernel_rfl) (by kernel_rfl) (by rw [hn]; rfl) rfl rfl rfl rfl (by kernel_rfl) (by kernel_rfl) rfl rfl (by rw [hb]; decide) rfl (zeW ⟨rfl, rfl⟩) (zdF trivial) ?_
 repeat (first | refine z3u rfl rfl rfl (z1B true rfl rfl (by exact vcs)) rfl ?_ | refine z3u rfl rfl rfl (z3P true rfl rfl rfl (by intro hG; first | trivial | (simp; done) | (simp; omega) | (simp at *; done) | (simp at *; omega))) rfl ?_ | refine z77 ?_)
 refine zhQ rfl rfl (zhj (by_ := 8) (ps := []) rfl rfl rfl rfl (fun τ hl => ?_) (by rw [hn]; rfl) (z0k Tryz.underlying22 rfl rfl) zu4 trivial ⟨by decide, rfl⟩) ?_
 · have h10 := hl.ox (.tmp 10) (by simp [Op.operands])
   have h11 : τ.tm 10 = lv (.int .i64 (40 * a + b)) := zhk h10
   show zdl Tryz.prog 3 1 (some 11) (z1l (fun i => some (i * 1, 1)) [.un] [(0, str ((τ.tm 10).kill 75))]) = _
   rw [h11]
   rfl
 repeat (first | refine z3u rfl rfl rfl (z1B true rfl rfl (by exact vcs)) rfl ?_ | refine z3u rfl rfl rfl (z3P true rfl rfl rfl (by intro hG; first | trivial | (simp; done) | (simp; omega) | (simp at *; done) | (simp at *; omega))) rfl ?_ | refine z77 ?_)
 refine zhR rfl rfl rfl (zbL rfl rfl rfl rfl rfl (by rw [hn]; rfl) rfl (z0k Tryz.underlying22 rfl rfl) rfl rfl rfl rfl (by trivial) rfl ⟨by simp; omega, by decide⟩ hb) rfl ?_
 repeat (first | refine z3u rfl rfl rfl (z1B true rfl rfl (by exact vcs)) rfl ?_ | refine z3u rfl rfl rfl (z3P true rfl rfl rfl (by intro hG; first | trivial | (simp; done) | (simp; omega) | (simp at *; done) | (simp at *; omega))) rfl ?_ | refine z77 ?_)
 refine z6E ?_
 repeat (refine nst ?_)
 refine rt2 [] ?_ ?_
 · rfl
 · trivial
end Go.Proofs.YtaagjnlkinojcaaGreat

namespace Go.Proofs.YtaagjnlkinojcaaGreat
set_option linter.unusedSimpArgs false
set_option linter.unusedVariables false
open Go.Sx
set_option maxRecDepth 10000
set_option maxHeartbeats 4000000 in
theorem ze1 (a b : List Int) (ha : a.length ≤ 1000000) (hb' : b.length ≤ 1000000) : Ct Tryz.prog 184 [I64 a, I64 b] [] (lv (.int .i64 (z0D a b))) [] [] := by
 refine z00 Tryz.func184 rfl rfl rfl rfl rfl (fun E hn hb => ?_)
 repeat (refine nst ?_)
 refine z0a (St.le_of (l := [(0, I64 a), (1, I64 b), (5, lv (.int .i64 0))]) (h := []) (by refine ⟨?_, ?_⟩ <;> (repeat' (first | exact trivial | exact rfl | refine ⟨?_, ?_⟩)) <;> first | exact rfl | (simp; done) | skip)) ?_
 refine z0j (ι := {i : Nat // i ≤ 1000000 ∧ z0D (a.drop i) (b.drop i) = z0D a b}) (fun i => St.of [(0, I64 a), (1, I64 b), (5, lv (.int .i64 (i.1 : Int)))] []) (fun i => 1000001 - i.1) (fun i => ?_) ⟨0, by omega, rfl⟩
 obtain ⟨i, hi, he⟩ := i
 dsimp only
 repeat (refine nst ?_)
 refine z05 rfl (by simp) (fun hc => ?_) (fun hc => ?_)
 · simp at hc
   repeat (refine nst ?_)
   refine z2F 21 (by kernel_rfl) (by kernel_rfl) (by kernel_rfl) (by rw [hn]; rfl) rfl rfl ?_
   repeat (first | refine dp1 ?_ | refine dg1 ?_ | refine z0B ?_)
   repeat (refine nst ?_)
   have key : ∀ x : List Int, i < x.length → x.drop i = x.getD i 0 :: x.drop (i + 1) := fun x h => by
     rw [List.drop_eq_getElem_cons h]; simp [h]
   refine z05 rfl (by simp) (fun hd => ?_) (fun hd => ?_)
   · repeat (refine nst ?_)
     refine rt2 [] ?_ ?_
     · have : z0D a b = -1 := by
         rw [← he]
         by_cases h1 : i < a.length
         · have h2 : i < b.length ∧ a.getD i 0 < b.getD i 0 := by
             have : ¬ a.length ≤ i := by omega
             simpa [this, Bool.cond_eq_ite] using hd
           rw [key a h1, key b h2.1]
           simp only [z0D, h2.2, if_true]
         · rw [List.drop_eq_nil_of_le (by omega), key b (by omega)]; rfl
       rw [this]; rfl
     · trivial
   · repeat (refine nst ?_)
     have hia : i < a.length ∧ (i < b.length → ¬ a.getD i 0 < b.getD i 0) := by
       rcases Nat.lt_or_ge i a.length with h | h
       · have : ¬ a.length ≤ i := by omega
         refine ⟨h, fun hib => ?_⟩
         simpa [this, hib, Bool.cond_eq_ite] using hd
       · simp [h, Bool.cond_eq_ite] at hd
     clear hd
     refine z2F 15 (by kernel_rfl) (by kernel_rfl) (by kernel_rfl) (by rw [hn]; rfl) rfl rfl ?_
     repeat (first | refine dp1 ?_ | refine dg1 ?_ | refine z0B ?_)
     repeat (refine nst ?_)
     refine z05 rfl (by simp) (fun hd => ?_) (fun hd => ?_)
     · repeat (refine nst ?_)
       refine rt2 [] ?_ ?_
       · have : z0D a b = 1 := by
           rw [← he, key a hia.1]
           by_cases h1 : i < b.length
           · have h2 : b.getD i 0 < a.getD i 0 := by
               have : ¬ b.length ≤ i := by omega
               simpa [this, Bool.cond_eq_ite] using hd
             rw [key b h1]
             simp only [z0D, hia.2 h1, h2, if_true, if_false]
           · rw [List.drop_eq_nil_of_le (by omega : b.length ≤ i)]; rfl
         rw [this]; rfl
       · trivial
     · repeat (refine nst ?_)
       have h1 : i < b.length ∧ ¬ b.getD i 0 < a.getD i 0 := by
         rcases Nat.lt_or_ge i b.length with h | h
         · have : ¬ b.length ≤ i := by omega
           refine ⟨h, ?_⟩
           simpa [this, Bool.cond_eq_ite] using hd
         · simp [h, Bool.cond_eq_ite] at hd
       (refine z06 ?i1 ?i2 ?i3; (case i1 => exact ⟨i + 1, by omega, by rw [← he, key a hia.1, key b h1.1]; simp only [z0D, hia.2 h1.1, h1.2, if_false]⟩); (case i2 => (dsimp only; omega)); (case i3 => refine St.le_of ⟨?_, ?_⟩ <;> (repeat' (first | exact trivial | exact rfl | refine ⟨?_, ?_⟩)) <;> first | exact rfl | (simp; done) | skip))
 · repeat (refine nst ?_)
   refine rt2 [] ?_ ?_
   · have : z0D a b = 0 := by
       rw [← he, List.drop_eq_nil_of_le (by simp at hc; omega), List.drop_eq_nil_of_le (by simp at hc; omega)]; rfl
     rw [this]; rfl
   · trivial

theorem zc4 (n : Int) (h : 0 ≤ n ∧ n < 4611686018427387904) : IntKind.i64.wrap (BitVec.ofInt IntKind.i64.bits n &&& BitVec.ofInt IntKind.i64.bits 127).toNat = n % 128 := by
 obtain ⟨n, rfl⟩ : ∃ m : Nat, n = m := ⟨n.toNat, by omega⟩
 have e3 : ((n : Int) % 128) = ((n % 128 : Nat) : Int) := by simp
 rw [e3]
 have hm : n &&& 127 = n % 128 := Nat.and_two_pow_sub_one_eq_mod n 7
 have hlt : n % 128 < 128 := Nat.mod_lt _ (by decide)
 rw [← hm] at hlt ⊢
 have e1 : (BitVec.ofInt IntKind.i64.bits (n : Int)).toNat = n := by
   rw [BitVec.toNat_ofInt]; simp only [IntKind.bits]; omega
 have e2 : (BitVec.ofInt IntKind.i64.bits (127 : Int)).toNat = 127 := by decide
 rw [BitVec.toNat_and, e1, e2]
 generalize n &&& 127 = z at *
 simp only [IntKind.wrap, IntKind.signed, IntKind.bits]
 simp
 omega
theorem znQ : ∀ x : Nat, x < 128 → IntKind.u8.wrap (BitVec.ofInt IntKind.u8.bits (x : Int) ||| BitVec.ofInt IntKind.u8.bits 128).toNat = (x : Int) + 128 := by decide +kernel
def z3S : Nat → Nat → List Int
 | 0, _ => []
 | k + 1, n => if n = 0 then [] else (((n % 128 : Nat) : Int) + 128) :: z3S k (n / 128)
def z1A (n : Nat) : List Int := (((n % 128 : Nat) : Int) :: z3S 5 (n / 128)).reverse
theorem zaN : ∀ (k n : Nat), (z3S k n).length ≤ k
 | 0, n => by simp [z3S]
 | k + 1, n => by
   have := zaN k (n / 128)
   unfold z3S
   split <;> simp <;> omega
theorem z55 (n : Nat) : (z1A n).length ≤ 6 := by
 have := zaN 5 (n / 128)
 simp [z1A]; omega
structure PS where
 n : Nat
 k : Nat
 d : List Int
theorem zlA (acc : List Int) (n : Nat) (hn0 : n < 4294967296) (hl : acc.length ≤ 1000000) :
   CtM Tryz.prog 242 [lv (.int .i64 (n : Int)), .c (.ptr 0 0)] [.cells [.own 1 1 0 acc.length], .row (.ints .u8 acc)] (.tup [])
     [.cells [.own 2 1 0 (acc.length + (z1A n).length)], .gone] [.row (.ints .u8 (acc ++ z1A n))] := by
 have ha := zc4 (n : Int) (by omega)
 obtain ⟨A, hA⟩ : ∃ A, z1A n = A := ⟨_, rfl⟩
 have hAl : A.length ≤ 6 := by rw [← hA]; exact z55 n
 rw [hA]
 refine z71 Tryz.func242 rfl rfl rfl rfl rfl (fun E hn hb => ?_)
 repeat (refine nst ?_)
 have e1 : (n : Int) % 128 = ((n % 128 : Nat) : Int) := by omega
 rw [ha, e1]
 refine z1v rfl rfl rfl (by rw [hn]; rfl) (z0k Tryz.underlying28 rfl rfl) (z2C) (by exact vcs) ⟨by decide, rfl⟩ ?_
 repeat (refine nst ?_)
 have e9 : (n : Int) / 2 ^ min (Int.toNat 7) IntKind.i64.bits = ((n / 128 : Nat) : Int) := by
   have : min (Int.toNat 7) IntKind.i64.bits = 7 := by decide
   rw [this]
   omega
 rw [e9]
 refine z0a (St.le_of (l := [(0, lv (.int .i64 ((n / 128 : Nat) : Int))), (1, .c (.ptr 0 0)), (3, .c (.own 71 1 0 [((n % 128 : Nat) : Int)].length))]) (h := [(0, .cells [.own 1 1 0 acc.length]), (1, .row (.ints .u8 acc)), (71, .row (.ints .u8 [((n % 128 : Nat) : Int)]))]) (by refine ⟨?_, ?_⟩ <;> (repeat' (first | exact trivial | exact rfl | refine ⟨?_, ?_⟩)) <;> first | exact rfl | (simp; done) | skip)) ?_
 refine z0j (ι := {s : PS // (s.d ++ z3S s.k s.n).reverse = A ∧ s.n < 128 ^ s.k ∧ s.n < 4294967296 ∧ s.d.length ≤ 6}) (fun s => St.of [(0, lv (.int .i64 (s.1.n : Int))), (1, .c (.ptr 0 0)), (3, .c (.own 71 1 0 s.1.d.length))] [(0, .cells [.own 1 1 0 acc.length]), (1, .row (.ints .u8 acc)), (71, .row (.ints .u8 s.1.d))]) (fun s => s.1.k) (fun s => ?_) ⟨⟨n / 128, 5, [((n % 128 : Nat) : Int)]⟩, hA, by dsimp only; omega, by dsimp only; omega, by simp⟩
 obtain ⟨⟨n, k, d⟩, h1, h2, h3, h4⟩ := s
 dsimp only at h1 h2 h3 h4 ⊢
 clear ha e1 e9 hn0 hA
 repeat (refine nst ?_)
 refine z05 rfl (by simp) (fun hc => ?_) (fun hc => ?_)
 · have hnp : 0 < n := by simpa using hc
   obtain ⟨k, rfl⟩ : ∃ k', k = k' + 1 := by
     cases k with
     | zero => simp at h2; omega
     | succ k => exact ⟨k, rfl⟩
   unfold z3S at h1
   rw [if_neg (by omega)] at h1
   have ha := zc4 (n : Int) (by omega)
   have e1 : (n : Int) % 128 = ((n % 128 : Nat) : Int) := by omega
   have ho := znQ (n % 128) (Nat.mod_lt _ (by decide))
   repeat (refine nst ?_)
   rw [ha, e1]
   repeat (refine nst ?_)
   rw [ho]
   have h5 : ((d ++ [((n % 128 : Nat) : Int) + 128]) ++ z3S k (n / 128)).reverse = A := by rw [List.append_assoc]; exact h1
   have h6 : (d ++ [((n % 128 : Nat) : Int) + 128]).length ≤ 6 := by
     have := congrArg List.length h5
     simp at this ⊢
     omega
   have h7 : n / 128 < 128 ^ k := by
     rw [Nat.pow_succ] at h2
     exact Nat.div_lt_of_lt_mul (by rw [Nat.mul_comm]; exact h2)
   have e9 : (n : Int) / 2 ^ min (Int.toNat 7) IntKind.i64.bits = ((n / 128 : Nat) : Int) := by
     have : min (Int.toNat 7) IntKind.i64.bits = 7 := by decide
     rw [this]
     omega
   refine z1v rfl rfl rfl (by rw [hn]; rfl) (z0k Tryz.underlying28 rfl rfl) (z2C) (by exact vcs) ⟨by decide, rfl⟩ ?_
   repeat (refine nst ?_)
   refine z2e rfl rfl rfl rfl rfl rfl (by rw [hn]; rfl) (z0k Tryz.underlying28 rfl rfl) rfl rfl rfl rfl (by exact vcs) (by first | rfl | (simp; done) | (simp; omega)) ⟨by first | (simp; done) | (simp; omega) | (simp at *; omega), by decide⟩ ?_
   repeat (refine nst ?_)
   rw [e9]
   (refine z06 ?i1 ?i2 ?i3; (case i1 => exact ⟨⟨n / 128, k, d ++ [((n % 128 : Nat) : Int) + 128]⟩, h5, h7, by dsimp only; omega, h6⟩); (case i2 => (dsimp only; omega)); (case i3 => refine St.le_of ⟨?_, ?_⟩ <;> (repeat' (first | exact trivial | exact rfl | refine ⟨?_, ?_⟩)) <;> first | exact rfl | (simp; done) | skip))
 · have hn0 : n = 0 := by simp at hc; omega
   subst hn0
   have e1 : z3S k 0 = [] := by cases k <;> rfl
   rw [e1, List.append_nil] at h1
   have hrv := z6v d (by omega)
   have hdl : d.length = A.length := by rw [← h1]; simp
   rw [h1, hdl] at hrv
   rw [hdl]
   repeat (refine nst ?_)
   refine z0n [71] hrv rfl rfl (by rw [hn]; rfl) rfl rfl (by trivial) ⟨rfl, rfl, (by simp [z0i]), rfl⟩ ?_
   repeat (refine nst ?_)
   refine z6H 95 rfl rfl rfl rfl rfl (by rw [hn]; rfl) (z0k Tryz.underlying28 rfl rfl) rfl rfl rfl rfl ?_ (by simp) ⟨by simp; omega, by decide⟩ ?_ ?_
   · simp [z03]
   · repeat (refine nst ?_)
     refine z0f rfl rfl rfl rfl rfl (by exact vcs) rfl rfl rfl (by rw [z2L]; rfl) (by rw [z43]; rfl) rfl rfl ?_
     rw [List.take_length, Nat.zero_add acc.length, List.take_length]
     repeat (refine nst ?_)
     exact z5M [1] rfl (by trivial) ⟨rfl, ⟨.inr rfl, .inl rfl⟩, rfl, rfl⟩ hb rfl
   · repeat (refine nst ?_)
     refine z0f rfl rfl rfl rfl rfl (by exact vcs) rfl rfl rfl (by rw [z2L]; rfl) (by rw [z43]; rfl) rfl rfl ?_
     rw [List.take_length, Nat.zero_add acc.length, List.take_length, List.drop_zero]
     repeat (refine nst ?_)
     exact z5M [95] rfl (by trivial) ⟨rfl, ⟨.inr rfl, .inl rfl⟩, rfl, rfl⟩ hb rfl
end Go.Proofs.YtaagjnlkinojcaaGreat

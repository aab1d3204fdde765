/-
  Chapter 04: the document's functions. The conditions: rows of at most a million numbers.
-/
import Derived.Test.YtohfhephkjihfaaGreatB15
import Derived.Test.YtohfhephkjihfaaGreatA12
import Derived.Test.YtohfhephkjihfaaGreatSxI
import Derived.Test.YtohfhephkjihfaaGreatO3
import Derived.Test.YtohfhephkjihfaaGreatSxK
import Derived.Test.YtohfhephkjihfaaGreatW16
import Derived.Test.YtohfhephkjihfaaGreatC4
namespace Go.Proofs.YtohfhephkjihfaaGreat
set_option linter.unusedSimpArgs false
set_option linter.unusedVariables false
open Go.Sx
set_option maxRecDepth 10000
abbrev tabB : Blk := .cells [.map 1]
theorem tnew_ok : Ct Tryz.prog 5 [] [] (.c (.ptr 0 0)) [] [tabB, .map []] := by
 refine Ct_intro Tryz.func5 rfl rfl rfl rfl rfl (fun E hn hb => ?_)
 repeat refine nxm ?_
 exact rt1 [67, 65]
theorem tput_ok (es : MapL) (n s : List Int) (hn1 : 1 ≤ n.length ∧ n.length ≤ 64) (hs : 1 ≤ s.length ∧ s.length ≤ 256) (he : es.length < 10000) (hf : findM es (strOfNums n) = none) :
   Ct Tryz.prog 6 [.c (.ptr 0 0), B8 n, B8 s] [tabB, .map es] (lv (.int .i64 0)) [tabB, .map (setM es (strOfNums n) (.ints .u8 s))] [] := by
 have hcl := clone_ok s (by omega)
 refine Ct_intro Tryz.func6 rfl rfl rfl rfl rfl (fun E hn hb => ?_)
 repeat refine nxm ?_
 exact rt1 []
theorem tget_ok (es : MapL) (n s : List Int) (hn1 : n.length ≤ 64) (hs : s.length ≤ 256) (hf : findM es (strOfNums n) = some (.ints .u8 s)) :
   Ct Tryz.prog 10 [.c (.ptr 0 0), B8 n] [tabB, .map es] (.tup [B8 s, lv (.int .i64 0)]) [tabB, .map es] [] := by
 have hcl := clone_ok s (by omega)
 refine Ct_intro Tryz.func10 rfl rfl rfl rfl rfl (fun E hn hb => ?_)
 repeat refine nxm ?_
 exact rt1 []
end Go.Proofs.YtohfhephkjihfaaGreat

namespace Go.Sx
open Go
set_option linter.unusedVariables false
set_option linter.unusedSimpArgs false
section
variable {P : Program} {E : Env} {ops : Array Oper} {o : Oper} {σ : St}
theorem opt_lit {t e : TypeId} {n by_ sc K : Nat} {parts : Array (Nat × Operand)} {ps : List Prop} {k : IntKind} {l : List Int} (hop : o.op = .buildSlice t n parts) (hg : o.guard = none) (hdst : o.dst = some sc) (hK : K = nk (some sc) 0)
   (hf : ∀ τ, Like ops o τ σ → litI P e n o.dst (fillA (fun i => some (i * 1, 1)) (List.replicate (n * 1) .un) (parts.toList.map fun (i, x) => (i, ox (fresh τ o.dst) x))) = some (some sc, ps, k, l))
   (hd : dstOk E.n (some sc) = true) (hE : Elt P t e 1 by_) (hz : zeroOk P e) (hp : AllP ps) (hn : n ≤ 16777216 ∧ l.length = n) :
   ∀ τ, Like ops o τ σ → kfr K sc τ → (τ.tm sc).kill K = τ.tm sc → τ.hp K = .gone → OpT P E ops o τ ((τ.seth K (.row (.ints k l))).put o.dst (.c (.own K 1 0 l.length))) := by
 intro τ hl hkf hkc hKg
 refine opT_WL fun Q' hQ => s_litI hop hg (hf τ hl) hd hE hz hp hn ?_
 refine WL_nil fun a w hS => hQ a w (hS.weaken ⟨fun s => ?_, fun j => ?_⟩)
 · rw [hdst, hK]
   show Av.le (if s = sc then _ else (τ.tm s).kill (nk (some sc) 0)) (if s = sc then _ else τ.tm s)
   by_cases e : s = sc
   · rw [if_pos e, if_pos e]; exact .inl rfl
   · rw [if_neg e, if_neg e, ← hK, hkf.1 s e]; exact .inl rfl
 · rw [hdst, hK]
   show Blk.le (if j = nk (some sc) 0 then _ else (match decide (j = nk (some sc) 0) with | true => Blk.gone | false => (τ.hp j).kill (nk (some sc) 0))) (if j = nk (some sc) 0 then _ else τ.hp j)
   by_cases e : j = nk (some sc) 0
   · rw [if_pos e, if_pos e]; exact .inl rfl
   · rw [if_neg e, if_neg e]; simp only [e, decide_false]; rw [← hK, hkf.2 j (by rw [hK]; exact e)]; exact .inl rfl
theorem opt_appendN {t e : TypeId} {by_ : Nat} {c : Call} {x y : Operand} {px qs : List Prop} {K sc su n : Nat} {k : IntKind} {l l2 : List Int} (hop : o.op = .call c) (hc : c.callee = .builtin .append) (ha : c.args.toList = [x, y]) (hty : c.argTypes.toList = [t, t])
   (hg : o.guard = none) (hd : dstOk E.n o.dst = true) (hdst : o.dst = some su) (hE : Elt P t e 1 by_) (hx : ox σ x = (px, .c (.own K 1 0 n))) (hb : σ.hp K = .row (.ints k l)) (hj64 : Nat.ble 64 K = true)
   (hy : ox σ y = (qs, .c (.lf (.ints k l2)))) (hp : AllP (px ++ qs)) (hnl : n = l.length) (hlim : l.length + l2.length ≤ 4294967296 ∧ by_ ≤ 4096) (hnb : E.nb = 0) :
   ∀ τ, Like ops o τ σ → kfr K sc τ → OpT P E ops o τ (((τ.set sc (.c .un)).seth K .gone).put o.dst (.c (.lf (.ints k (l ++ l2))))) := by
 intro τ hl hkf
 have e1 : ox τ x = ox σ x := hl.ox x (by rw [hop]; simp [Op.operands, Call.operands, ha, hc])
 have e2 : ox τ y = ox σ y := hl.ox y (by rw [hop]; simp [Op.operands, Call.operands, ha, hc])
 refine opT_WL fun Q' hQ => ?_
 have hyt : ox τ y = (qs, .c (.lf (.ints k l2))) := by rw [e2]; exact hy
 refine s_appI (dd := some su) hop hc ha hty hg (by rw [hdst]; rfl) (by rw [← hdst]; exact hd) hE (by rw [e1]; exact hx) (by rw [hl.hp]; exact hb) hj64 (l2 := l2) (qs := qs) (by rw [hyt]; rfl) hp hnl hlim ?_
 have etm : ((((τ.kill K).seth K (.row (.ints k (l ++ l2)))).put (some su) (.c (.own K 1 0 (l ++ l2).length)))).tm su = .c (.own K 1 0 (l ++ l2).length) := if_pos rfl
 refine WL_freeze K [(su, .c (.lf (.ints k (l ++ l2))))] (d := .ints k (l ++ l2)) (if_pos rfl) hnb ?_ ?_
 · refine ⟨?_, ?_⟩
   · show FrzA _ _ _ _
     rw [etm]
     exact ⟨rfl, rfl, rfl, by simp, by rw [List.drop_zero, List.length_append, ← List.length_append, List.take_length]⟩
   · show ([(su, Av.c (.lf (.ints k (l ++ l2))))].all fun p => notUn (((((τ.kill K).seth K (.row (.ints k (l ++ l2)))).put (some su) (.c (.own K 1 0 (l ++ l2).length)))).tm p.1)) = true
     simp only [List.all_cons, List.all_nil, etm]
     rfl
 · refine WL_nil fun a w hS => hQ a w (hS.weaken ⟨fun s => ?_, fun j => ?_⟩)
   · rw [hdst]
     show Av.le (if s = su then _ else ((if s = su then _ else (τ.tm s).kill K).kill K)) (if s = su then _ else if s = sc then _ else τ.tm s)
     by_cases e : s = su
     · rw [if_pos e, if_pos e]; exact .inl rfl
     · rw [if_neg e, if_neg e, if_neg e]
       by_cases e2 : s = sc
       · rw [if_pos e2]; exact .inr rfl
       · rw [if_neg e2, hkf.1 s e2, hkf.1 s e2]; exact .inl rfl
   · rw [hdst]
     show Blk.le (match decide (j = K) with | true => Blk.gone | false => (if j = K then _ else (match decide (j = K) with | true => Blk.gone | false => (τ.hp j).kill K)).kill K) (if j = K then _ else τ.hp j)
     by_cases e : j = K
     · rw [if_pos e]; simp only [e, decide_true]; exact .inl rfl
     · rw [if_neg e, if_neg e]; simp only [e, decide_false]
       rw [hkf.2 j e, hkf.2 j e]; exact .inl rfl
theorem str_nil {x y : Av} (h : str x = ([], y)) : x = y := by
 cases x <;> simp_all [str]
end
end Go.Sx
namespace Go.Proofs.YtohfhephkjihfaaGreat
open Go.Sx
set_option maxRecDepth 10000
theorem numbers_ok (a b : Int) (t : List Int) (ha : 0 ≤ a ∧ a ≤ 2) (hb0 : 0 ≤ b ∧ b ≤ 2147483647) (hl : t.length ≤ 1000000) : Ct Tryz.prog 118 [I64 (a :: b :: t)] [] (I64 ((40 * a + b) :: t)) [] [] := by
 refine Ct_intro Tryz.func118 rfl rfl rfl rfl rfl (fun E hn hb => ?_)
 repeat (refine nst ?_)
 refine W_weaken (St.le_of (l := [(0, I64 (a :: b :: t)), (2, lv (.slice none 0 0))]) (h := []) (by refine ⟨?_, ?_⟩ <;> (repeat' (first | exact trivial | exact rfl | refine ⟨?_, ?_⟩)) <;> first | exact rfl | (simp; done) | skip)) ?_
 refine W_drawK (BC := .row (.ints .i64 [40 * a + b])) (oc := .own 75 1 0 1) 75 11 14 8 11 (by kernel_rfl) (by kernel_rfl) (by rw [hn]; rfl) rfl rfl rfl rfl (by kernel_rfl) (by kernel_rfl) rfl rfl (by rw [hb]; decide) rfl (look_kill ⟨rfl, rfl⟩) (look_killB trivial) ?_
 repeat (first | refine DrawK_cons rfl rfl rfl (ops_pure true rfl rfl (by exact vcs)) rfl ?_ | refine DrawK_cons rfl rfl rfl (ops_pureG true rfl rfl rfl (by intro hG; first | trivial | (simp; done) | (simp; omega) | (simp at *; done) | (simp at *; omega))) rfl ?_ | refine DrawK_nil ?_)
 refine DrawK_c rfl rfl (opt_lit (by_ := 8) (ps := []) rfl rfl rfl rfl (fun τ hl => ?_) (by rw [hn]; rfl) (elt_mk Tryz.underlying58 rfl rfl) zok3 trivial ⟨by decide, rfl⟩) ?_
 · have h10 := hl.ox (.tmp 10) (by simp [Op.operands])
   have h11 : τ.tm 10 = lv (.int .i64 (40 * a + b)) := str_nil h10
   show litI Tryz.prog 3 1 (some 11) (fillA (fun i => some (i * 1, 1)) [.un] [(0, str ((τ.tm 10).kill 75))]) = _
   rw [h11]
   rfl
 repeat (first | refine DrawK_cons rfl rfl rfl (ops_pure true rfl rfl (by exact vcs)) rfl ?_ | refine DrawK_cons rfl rfl rfl (ops_pureG true rfl rfl rfl (by intro hG; first | trivial | (simp; done) | (simp; omega) | (simp at *; done) | (simp at *; omega))) rfl ?_ | refine DrawK_nil ?_)
 refine DrawK_u rfl rfl rfl (opt_appendN rfl rfl rfl rfl rfl (by rw [hn]; rfl) rfl (elt_mk Tryz.underlying58 rfl rfl) rfl rfl rfl rfl (by trivial) rfl ⟨by simp; omega, by decide⟩ hb) rfl ?_
 repeat (first | refine DrawK_cons rfl rfl rfl (ops_pure true rfl rfl (by exact vcs)) rfl ?_ | refine DrawK_cons rfl rfl rfl (ops_pureG true rfl rfl rfl (by intro hG; first | trivial | (simp; done) | (simp; omega) | (simp at *; done) | (simp at *; omega))) rfl ?_ | refine DrawK_nil ?_)
 refine WL_nil ?_
 repeat (refine nst ?_)
 refine rt2 [] ?_ ?_
 · rfl
 · trivial
end Go.Proofs.YtohfhephkjihfaaGreat

namespace Go.Proofs.YtohfhephkjihfaaGreat
set_option linter.unusedSimpArgs false
set_option linter.unusedVariables false
open Go.Sx
set_option maxRecDepth 10000
set_option maxHeartbeats 4000000 in
theorem refCmp_ok (a b : List Int) (ha : a.length ≤ 1000000) (hb' : b.length ≤ 1000000) : Ct Tryz.prog 54 [I64 a, I64 b] [] (lv (.int .i64 (cmpL a b))) [] [] := by
 refine Ct_intro Tryz.func54 rfl rfl rfl rfl rfl (fun E hn hb => ?_)
 repeat (refine nst ?_)
 refine W_weaken (St.le_of (l := [(0, I64 a), (1, I64 b), (5, lv (.int .i64 0))]) (h := []) (by refine ⟨?_, ?_⟩ <;> (repeat' (first | exact trivial | exact rfl | refine ⟨?_, ?_⟩)) <;> first | exact rfl | (simp; done) | skip)) ?_
 refine W_loop (ι := {i : Nat // i ≤ 1000000 ∧ cmpL (a.drop i) (b.drop i) = cmpL a b}) (fun i => St.of [(0, I64 a), (1, I64 b), (5, lv (.int .i64 (i.1 : Int)))] []) (fun i => 1000001 - i.1) (fun i => ?_) ⟨0, by omega, rfl⟩
 obtain ⟨i, hi, he⟩ := i
 dsimp only
 repeat (refine nst ?_)
 refine W_cond rfl (by simp) (fun hc => ?_) (fun hc => ?_)
 · simp at hc
   repeat (refine nst ?_)
   refine W_drawW 21 (by kernel_rfl) (by kernel_rfl) (by kernel_rfl) (by rw [hn]; rfl) rfl rfl ?_
   repeat (first | refine dp1 ?_ | refine dg1 ?_ | refine DrawW_nil ?_)
   repeat (refine nst ?_)
   have key : ∀ x : List Int, i < x.length → x.drop i = x.getD i 0 :: x.drop (i + 1) := fun x h => by
     rw [List.drop_eq_getElem_cons h]; simp [h]
   refine W_cond rfl (by simp) (fun hd => ?_) (fun hd => ?_)
   · repeat (refine nst ?_)
     refine rt2 [] ?_ ?_
     · have : cmpL a b = -1 := by
         rw [← he]
         by_cases h1 : i < a.length
         · have h2 : i < b.length ∧ a.getD i 0 < b.getD i 0 := by
             have : ¬ a.length ≤ i := by omega
             simpa [this, Bool.cond_eq_ite] using hd
           rw [key a h1, key b h2.1]
           simp only [cmpL, h2.2, if_true]
         · rw [List.drop_eq_nil_of_le (by omega), key b (by omega)]; rfl
       rw [this]; rfl
     · trivial
   · repeat (refine nst ?_)
     have hia : i < a.length ∧ (i < b.length → ¬ a.getD i 0 < b.getD i 0) := by
       rcases Nat.lt_or_ge i a.length with h | h
       · have : ¬ a.length ≤ i := by omega
         refine ⟨h, fun hib => ?_⟩
         simpa [this, hib, Bool.cond_eq_ite] using hd
       · simp [h, Bool.cond_eq_ite] at hd
     clear hd
     refine W_drawW 15 (by kernel_rfl) (by kernel_rfl) (by kernel_rfl) (by rw [hn]; rfl) rfl rfl ?_
     repeat (first | refine dp1 ?_ | refine dg1 ?_ | refine DrawW_nil ?_)
     repeat (refine nst ?_)
     refine W_cond rfl (by simp) (fun hd => ?_) (fun hd => ?_)
     · repeat (refine nst ?_)
       refine rt2 [] ?_ ?_
       · have : cmpL a b = 1 := by
           rw [← he, key a hia.1]
           by_cases h1 : i < b.length
           · have h2 : b.getD i 0 < a.getD i 0 := by
               have : ¬ b.length ≤ i := by omega
               simpa [this, Bool.cond_eq_ite] using hd
             rw [key b h1]
             simp only [cmpL, hia.2 h1, h2, if_true, if_false]
           · rw [List.drop_eq_nil_of_le (by omega : b.length ≤ i)]; rfl
         rw [this]; rfl
       · trivial
     · repeat (refine nst ?_)
       have h1 : i < b.length ∧ ¬ b.getD i 0 < a.getD i 0 := by
         rcases Nat.lt_or_ge i b.length with h | h
         · have : ¬ b.length ≤ i := by omega
           refine ⟨h, ?_⟩
           simpa [this, Bool.cond_eq_ite] using hd
         · simp [h, Bool.cond_eq_ite] at hd
       (refine N_round ?i1 ?i2 ?i3; (case i1 => exact ⟨i + 1, by omega, by rw [← he, key a hia.1, key b h1.1]; simp only [cmpL, hia.2 h1.1, h1.2, if_false]⟩); (case i2 => (dsimp only; omega)); (case i3 => refine St.le_of ⟨?_, ?_⟩ <;> (repeat' (first | exact trivial | exact rfl | refine ⟨?_, ?_⟩)) <;> first | exact rfl | (simp; done) | skip))
 · repeat (refine nst ?_)
   refine rt2 [] ?_ ?_
   · have : cmpL a b = 0 := by
       rw [← he, List.drop_eq_nil_of_le (by simp at hc; omega), List.drop_eq_nil_of_le (by simp at hc; omega)]; rfl
     rw [this]; rfl
   · trivial

theorem andI127 (n : Int) (h : 0 ≤ n ∧ n < 4611686018427387904) : IntKind.i64.wrap (BitVec.ofInt IntKind.i64.bits n &&& BitVec.ofInt IntKind.i64.bits 127).toNat = n % 128 := by
 obtain ⟨n, rfl⟩ : ∃ m : Nat, n = m := ⟨n.toNat, by omega⟩
 have e3 : ((n : Int) % 128) = ((n % 128 : Nat) : Int) := by simp
 rw [e3]
 have hm : n &&& 127 = n % 128 := Nat.and_two_pow_sub_one_eq_mod n 7
 have hlt : n % 128 < 128 := Nat.mod_lt _ (by decide)
 rw [← hm] at hlt ⊢
 have e1 : (BitVec.ofInt IntKind.i64.bits (n : Int)).toNat = n := by
   rw [BitVec.toNat_ofInt]; simp only [IntKind.bits]; omega
 have e2 : (BitVec.ofInt IntKind.i64.bits (127 : Int)).toNat = 127 := by decide
 rw [BitVec.toNat_and, e1, e2]
 generalize n &&& 127 = z at *
 simp only [IntKind.wrap, IntKind.signed, IntKind.bits]
 simp
 omega
theorem or128 : ∀ x : Nat, x < 128 → IntKind.u8.wrap (BitVec.ofInt IntKind.u8.bits (x : Int) ||| BitVec.ofInt IntKind.u8.bits 128).toNat = (x : Int) + 128 := by decide +kernel
def arcT : Nat → Nat → List Int
 | 0, _ => []
 | k + 1, n => if n = 0 then [] else (((n % 128 : Nat) : Int) + 128) :: arcT k (n / 128)
def arcL (n : Nat) : List Int := (((n % 128 : Nat) : Int) :: arcT 5 (n / 128)).reverse
theorem arcT_len : ∀ (k n : Nat), (arcT k n).length ≤ k
 | 0, n => by simp [arcT]
 | k + 1, n => by
   have := arcT_len k (n / 128)
   unfold arcT
   split <;> simp <;> omega
theorem arcL_len (n : Nat) : (arcL n).length ≤ 6 := by
 have := arcT_len 5 (n / 128)
 simp [arcL]; omega
structure PS where
 n : Nat
 k : Nat
 d : List Int
theorem put_ok (acc : List Int) (n : Nat) (hn0 : n < 4294967296) (hl : acc.length ≤ 1000000) :
   CtM Tryz.prog 116 [lv (.int .i64 (n : Int)), .c (.ptr 0 0)] [.cells [.own 1 1 0 acc.length], .row (.ints .u8 acc)] (.tup [])
     [.cells [.own 2 1 0 (acc.length + (arcL n).length)], .gone] [.row (.ints .u8 (acc ++ arcL n))] := by
 have ha := andI127 (n : Int) (by omega)
 obtain ⟨A, hA⟩ : ∃ A, arcL n = A := ⟨_, rfl⟩
 have hAl : A.length ≤ 6 := by rw [← hA]; exact arcL_len n
 rw [hA]
 refine CtM_intro Tryz.func116 rfl rfl rfl rfl rfl (fun E hn hb => ?_)
 repeat (refine nst ?_)
 have e1 : (n : Int) % 128 = ((n % 128 : Nat) : Int) := by omega
 rw [ha, e1]
 refine s_litI rfl rfl rfl (by rw [hn]; rfl) (elt_mk Tryz.underlying29 rfl rfl) (zok5) (by exact vcs) ⟨by decide, rfl⟩ ?_
 repeat (refine nst ?_)
 have e9 : (n : Int) / 2 ^ min (Int.toNat 7) IntKind.i64.bits = ((n / 128 : Nat) : Int) := by
   have : min (Int.toNat 7) IntKind.i64.bits = 7 := by decide
   rw [this]
   omega
 rw [e9]
 refine W_weaken (St.le_of (l := [(0, lv (.int .i64 ((n / 128 : Nat) : Int))), (1, .c (.ptr 0 0)), (3, .c (.own 71 1 0 [((n % 128 : Nat) : Int)].length))]) (h := [(0, .cells [.own 1 1 0 acc.length]), (1, .row (.ints .u8 acc)), (71, .row (.ints .u8 [((n % 128 : Nat) : Int)]))]) (by refine ⟨?_, ?_⟩ <;> (repeat' (first | exact trivial | exact rfl | refine ⟨?_, ?_⟩)) <;> first | exact rfl | (simp; done) | skip)) ?_
 refine W_loop (ι := {s : PS // (s.d ++ arcT s.k s.n).reverse = A ∧ s.n < 128 ^ s.k ∧ s.n < 4294967296 ∧ s.d.length ≤ 6}) (fun s => St.of [(0, lv (.int .i64 (s.1.n : Int))), (1, .c (.ptr 0 0)), (3, .c (.own 71 1 0 s.1.d.length))] [(0, .cells [.own 1 1 0 acc.length]), (1, .row (.ints .u8 acc)), (71, .row (.ints .u8 s.1.d))]) (fun s => s.1.k) (fun s => ?_) ⟨⟨n / 128, 5, [((n % 128 : Nat) : Int)]⟩, hA, by dsimp only; omega, by dsimp only; omega, by simp⟩
 obtain ⟨⟨n, k, d⟩, h1, h2, h3, h4⟩ := s
 dsimp only at h1 h2 h3 h4 ⊢
 clear ha e1 e9 hn0 hA
 repeat (refine nst ?_)
 refine W_cond rfl (by simp) (fun hc => ?_) (fun hc => ?_)
 · have hnp : 0 < n := by simpa using hc
   obtain ⟨k, rfl⟩ : ∃ k', k = k' + 1 := by
     cases k with
     | zero => simp at h2; omega
     | succ k => exact ⟨k, rfl⟩
   unfold arcT at h1
   rw [if_neg (by omega)] at h1
   have ha := andI127 (n : Int) (by omega)
   have e1 : (n : Int) % 128 = ((n % 128 : Nat) : Int) := by omega
   have ho := or128 (n % 128) (Nat.mod_lt _ (by decide))
   repeat (refine nst ?_)
   rw [ha, e1]
   repeat (refine nst ?_)
   rw [ho]
   have h5 : ((d ++ [((n % 128 : Nat) : Int) + 128]) ++ arcT k (n / 128)).reverse = A := by rw [List.append_assoc]; exact h1
   have h6 : (d ++ [((n % 128 : Nat) : Int) + 128]).length ≤ 6 := by
     have := congrArg List.length h5
     simp at this ⊢
     omega
   have h7 : n / 128 < 128 ^ k := by
     rw [Nat.pow_succ] at h2
     exact Nat.div_lt_of_lt_mul (by rw [Nat.mul_comm]; exact h2)
   have e9 : (n : Int) / 2 ^ min (Int.toNat 7) IntKind.i64.bits = ((n / 128 : Nat) : Int) := by
     have : min (Int.toNat 7) IntKind.i64.bits = 7 := by decide
     rw [this]
     omega
   refine s_litI rfl rfl rfl (by rw [hn]; rfl) (elt_mk Tryz.underlying29 rfl rfl) (zok5) (by exact vcs) ⟨by decide, rfl⟩ ?_
   repeat (refine nst ?_)
   refine s_appI rfl rfl rfl rfl rfl rfl (by rw [hn]; rfl) (elt_mk Tryz.underlying29 rfl rfl) rfl rfl rfl rfl (by exact vcs) (by first | rfl | (simp; done) | (simp; omega)) ⟨by first | (simp; done) | (simp; omega) | (simp at *; omega), by decide⟩ ?_
   repeat (refine nst ?_)
   rw [e9]
   (refine N_round ?i1 ?i2 ?i3; (case i1 => exact ⟨⟨n / 128, k, d ++ [((n % 128 : Nat) : Int) + 128]⟩, h5, h7, by dsimp only; omega, h6⟩); (case i2 => (dsimp only; omega)); (case i3 => refine St.le_of ⟨?_, ?_⟩ <;> (repeat' (first | exact trivial | exact rfl | refine ⟨?_, ?_⟩)) <;> first | exact rfl | (simp; done) | skip))
 · have hn0 : n = 0 := by simp at hc; omega
   subst hn0
   have e1 : arcT k 0 = [] := by cases k <;> rfl
   rw [e1, List.append_nil] at h1
   have hrv := reverse_ok d (by omega)
   have hdl : d.length = A.length := by rw [← h1]; simp
   rw [h1, hdl] at hrv
   rw [hdl]
   repeat (refine nst ?_)
   refine s_call [71] hrv rfl rfl (by rw [hn]; rfl) rfl rfl (by trivial) ⟨rfl, rfl, (by simp [ordL]), rfl⟩ ?_
   repeat (refine nst ?_)
   refine s_appendK 95 rfl rfl rfl rfl rfl (by rw [hn]; rfl) (elt_mk Tryz.underlying29 rfl rfl) rfl rfl rfl rfl ?_ (by simp) ⟨by simp; omega, by decide⟩ ?_ ?_
   · simp [AllP]
   · repeat (refine nst ?_)
     refine s_storeN rfl rfl rfl rfl rfl (by exact vcs) rfl rfl rfl (by rw [cellsOf29]; rfl) (by rw [info29]; rfl) rfl rfl ?_
     rw [List.take_length, Nat.zero_add acc.length, List.take_length]
     repeat (refine nst ?_)
     exact N_endM [1] rfl (by trivial) ⟨rfl, ⟨.inr rfl, .inl rfl⟩, rfl, rfl⟩ hb rfl
   · repeat (refine nst ?_)
     refine s_storeN rfl rfl rfl rfl rfl (by exact vcs) rfl rfl rfl (by rw [cellsOf29]; rfl) (by rw [info29]; rfl) rfl rfl ?_
     rw [List.take_length, Nat.zero_add acc.length, List.take_length, List.drop_zero]
     repeat (refine nst ?_)
     exact N_endM [95] rfl (by trivial) ⟨rfl, ⟨.inr rfl, .inl rfl⟩, rfl, rfl⟩ hb rfl

def arcsL (l : List Int) : List Int := l.flatMap fun x => arcL x.toNat
def numsL : List Int → List Int
 | a :: b :: t => (40 * a + b) :: t
 | _ => []
def contO (o : List Int) : Av := if rightO o then .tup [B8 (arcsL (numsL o)), lv (.int .i64 0)] else .tup [B8 [], lv (.int .i64 1)]
theorem arcsL_len : ∀ l : List Int, (arcsL l).length ≤ 6 * l.length
 | [] => by simp [arcsL]
 | x :: l => by
   have := arcsL_len l
   have := arcL_len x.toNat
   simp [arcsL] at *
   omega
theorem arcsL_take {l : List Int} {i : Nat} (h : i < l.length) : arcsL (l.take (i + 1)) = arcsL (l.take i) ++ arcL (l.getD i 0).toNat := by
 rw [List.take_add_one, List.getElem?_eq_getElem h, List.getD_eq_getElem?_getD, List.getElem?_eq_getElem h]
 simp only [arcsL, List.flatMap_append, Option.toList_some, List.flatMap_singleton, Option.getD_some]
theorem right_nums {o : List Int} (h : rightO o = true) : ∃ a b t, o = a :: b :: t ∧ 0 ≤ a ∧ a ≤ 2 ∧ 0 ≤ b ∧ b ≤ 2147483567 ∧ t.length ≤ 30 ∧ (∀ x ∈ t, 0 ≤ x ∧ x ≤ 2147483647) ∧ (a < 2 → b < 40) := by
 match o, h with
 | a :: b :: t, h =>
 rw [rightO_cons] at h
 by_cases h30 : 30 < t.length
 · rw [if_pos h30] at h; cases h
 rw [if_neg h30] at h
 by_cases ha : (a :: b :: t).all inR = false
 · rw [if_pos ha] at h; cases h
 rw [if_neg ha] at h
 have ha : ∀ x ∈ a :: b :: t, inR x = true := List.all_eq_true.1 (by simpa using ha)
 have hx : ∀ x ∈ a :: b :: t, 0 ≤ x ∧ x ≤ 2147483647 := fun x hx => by
   have := ha x hx
   simp [inR] at this
   exact this
 have h1 := hx a (by simp)
 have h2 := hx b (by simp)
 refine ⟨a, b, t, rfl, h1.1, ?_, h2.1, ?_, by omega, fun x hm => hx x (by simp [hm]), ?_⟩
 · by_cases e : a = 0 ∨ a = 1
   · omega
   · rw [if_neg e] at h
     by_cases e2 : a = 2
     · omega
     · rw [if_neg e2] at h; cases h
 · by_cases e : a = 0 ∨ a = 1
   · rw [if_pos e] at h; simp at h; omega
   · rw [if_neg e] at h
     by_cases e2 : a = 2
     · rw [if_pos e2] at h; simpa using h
     · rw [if_neg e2] at h; cases h
 · intro h3
   rw [if_pos (by omega)] at h
   simpa using h
theorem contO_ok (o : List Int) (hl : o.length ≤ 1000000) : Ct Tryz.prog 96 [I64 o] [] (contO o) [] [] := by
 by_cases hr : rightO o = true
 · obtain ⟨a, b, t, rfl, ha0, ha2, hb0, hb1, ht, hx, _⟩ := right_nums hr
   have hR : contO (a :: b :: t) = .tup [B8 (arcsL ((40 * a + b) :: t)), lv (.int .i64 0)] := by rw [contO, if_pos hr]; rfl
   rw [hR]
   have h1 := oright_ok (a :: b :: t) hl
   rw [hr] at h1
   have h2 := numbers_ok a b t ⟨ha0, ha2⟩ ⟨hb0, by omega⟩ (by omega)
   obtain ⟨N, hN⟩ : ∃ N, (40 * a + b) :: t = N := ⟨_, rfl⟩
   have hNl : N.length ≤ 31 := by rw [← hN]; simp; omega
   have hNx : ∀ x ∈ N, 0 ≤ x ∧ x ≤ 2147483647 := by
     rw [← hN]
     intro x hm
     rcases List.mem_cons.1 hm with rfl | hm
     · omega
     · exact hx x hm
   rw [hN] at h2 ⊢
   refine Ct_intro Tryz.func96 rfl rfl rfl rfl rfl (fun E hn hb => ?_)
   repeat (refine nst ?_)
   refine s_call0 h1 rfl rfl rfl (by rw [hn]; rfl) rfl rfl (by exact vcs) rfl rfl rfl ?_
   repeat (refine nst ?_)
   refine W_cond rfl (by simp) (fun hc => ?_) (fun hc => ?_)
   · simp at hc
   repeat (refine nst ?_)
   refine s_allocN rfl rfl rfl (by rw [hn]; rfl) rfl zok29 ?_
   repeat (refine nst ?_)
   refine WL_sr (fun a w h => SR.cell_nil (cs := [.lf (.v (.slice none 0 0))]) (cs' := [.own 900 1 0 0]) 68 0 900 rfl rfl rfl rfl rfl h) ?_
   refine s_call0 h2 rfl rfl rfl (by rw [hn]; rfl) rfl rfl (by exact vcs) rfl rfl rfl ?_
   repeat (refine nst ?_)
   refine W_weaken (St.le_of (l := [(4, .c (.ptr 68 0)), (5, .c (.fn (.func 116) [] [.ptr 68 0])), (13, I64 N), (14, lv (.int .i64 (N.length : Int))), (15, lv (.int .i64 ((0 : Nat) : Int)))]) (h := [(68, .cells [.own 900 1 0 ([] : List Int).length]), (900, .row (.ints .u8 []))]) (by refine ⟨?_, ?_⟩ <;> (repeat' (first | exact trivial | exact rfl | refine ⟨?_, ?_⟩)) <;> first | exact rfl | (simp; done) | skip)) ?_
   refine W_loop (ι := {s : Nat × List Int // s.1 ≤ N.length ∧ s.2 = arcsL (N.take s.1)}) (fun s => St.of [(4, .c (.ptr 68 0)), (5, .c (.fn (.func 116) [] [.ptr 68 0])), (13, I64 N), (14, lv (.int .i64 (N.length : Int))), (15, lv (.int .i64 (s.1.1 : Int)))] [(68, .cells [.own 900 1 0 s.1.2.length]), (900, .row (.ints .u8 s.1.2))]) (fun s => N.length - s.1.1) (fun s => ?_) ⟨(0, []), by dsimp only; omega, rfl⟩
   obtain ⟨⟨i, acc⟩, hi, he⟩ := s
   dsimp only at hi he ⊢
   repeat (refine nst ?_)
   refine W_cond rfl (by simp) (fun hc => ?_) (fun hc => ?_)
   · have hi2 : i < N.length := by simpa using hc
     have hal : acc.length ≤ 1000 := by
       have := arcsL_len (N.take i)
       rw [he]
       simp at this
       omega
     have hxi : N.getD i 0 ∈ N := by rw [List.getD_eq_getElem?_getD, List.getElem?_eq_getElem hi2]; exact List.getElem_mem hi2
     have hxb := hNx _ hxi
     have hnext := arcsL_take hi2
     rw [← he] at hnext
     generalize hX : N.getD i 0 = X at *
     obtain ⟨x, rfl⟩ : ∃ x : Nat, X = x := ⟨X.toNat, by omega⟩
     rw [Int.toNat_natCast] at hnext
     have hput := put_ok acc x (by omega) (by omega)
     have e8 : acc.length + (arcL x).length = (acc ++ arcL x).length := by simp
     rw [e8] at hput
     repeat (refine nst ?_)
     rw [show N.getD (Int.toNat (i : Int)) 0 = (x : Int) from hX]
     repeat (refine nst ?_)
     refine s_callM [68, 900] hput rfl rfl (by rw [hn]; rfl) rfl rfl (by trivial) ⟨rfl, ⟨rfl, rfl⟩, (by simp [ordL]), rfl⟩ ?_
     repeat (refine nst ?_)
     refine N_sr (fun a w h => SR.mv 85 900 rfl rfl rfl rfl rfl h) ?_
     refine N_round ⟨(i + 1, acc ++ arcL x), by dsimp only; omega, hnext.symm⟩ (by dsimp only; omega) (St.le_of ⟨⟨rfl, rfl, rfl, rfl, rfl⟩, ⟨rfl, rfl⟩⟩)
   · have hi2 : i = N.length := by simp at hc; omega
     subst hi2
     rw [List.take_length] at he
     subst he
     repeat (refine nst ?_)
     refine N_freeze 900 [(2, B8 (arcsL N))] rfl hb ⟨⟨rfl, rfl, rfl, by simp, by simp⟩, rfl⟩ ?_
     exact rt1 []
 · have hr' : rightO o = false := by simpa using hr
   have hR : contO o = .tup [B8 [], lv (.int .i64 1)] := by rw [contO, if_neg hr]
   rw [hR]
   have h1 := oright_ok o hl
   rw [hr'] at h1
   refine Ct_intro Tryz.func96 rfl rfl rfl rfl rfl (fun E hn hb => ?_)
   repeat (refine nst ?_)
   refine s_call0 h1 rfl rfl rfl (by rw [hn]; rfl) rfl rfl (by exact vcs) rfl rfl rfl ?_
   repeat (refine nst ?_)
   refine W_cond rfl (by simp) (fun hc => ?_) (fun hc => ?_)
   · repeat (refine nst ?_)
     refine N_retU [] rfl (by simp) (r' := .tup [B8 [], lv (.int .i64 1)]) ⟨.inr ⟨rfl, .inl ⟨_, rfl⟩⟩, .inl rfl, trivial⟩ ⟨rfl, trivial, trivial, rfl⟩ hb rfl trivial
   · simp at hc

theorem refSame_ok (a b : List Int) (ha : a.length ≤ 1000000) (hb' : b.length ≤ 1000000) : Ct Tryz.prog 38 [I64 a, I64 b] [] (lv (.bool (decide (a = b)))) [] [] := by
 refine Ct_intro Tryz.func38 rfl rfl rfl rfl rfl (fun E hn hb => ?_)
 repeat (refine nst ?_)
 refine s_call0 (refCmp_ok a b ha hb') rfl rfl rfl (by rw [hn]; rfl) rfl rfl (by exact vcs) rfl rfl rfl ?_
 repeat (refine nst ?_)
 refine rt2 [] ?_ ?_
 · refine congrArg (fun x => lv (.bool x)) (?_ : (cmpL a b == 0) = decide (a = b))
   rw [Bool.eq_iff_iff]
   simp [cmpL_eq]
 · trivial
end Go.Proofs.YtohfhephkjihfaaGreat

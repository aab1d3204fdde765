/-
  Chapter 04: rows of numbers compared. The conditions: rows of at most a million numbers.
-/
import Derived.Test.YtaagjnlkinojcaaGreatA11
import Derived.Test.YtaagjnlkinojcaaGreatD8
import Derived.Test.YtaagjnlkinojcaaGreatSxQ
import Derived.Test.YtaagjnlkinojcaaGreatO3
import Derived.Test.YtaagjnlkinojcaaGreatSxK
import Derived.Test.YtaagjnlkinojcaaGreatW16
namespace Go.Proofs.YtaagjnlkinojcaaGreat
set_option linter.unusedSimpArgs false
set_option linter.unusedVariables false
open Go.Sx
set_option maxRecDepth 10000
theorem zgh {l : List Int} {p q : Nat} {N : Int} (hw : WfB l) (h : z0R l 3 p 0 = (N, q, 0)) : 31 ≤ N ∧ N < 2097152 ∧ l.drop p = z46 N ++ l.drop q := by
 have w1 := z3M hw p
 have w2 := z3M hw (p + 1)
 have w3 := z3M hw (p + 1 + 1)
 have e1 := z1B l p
 have e2 := z1B l (p + 1)
 have e3 := z1B l (p + 1 + 1)
 rw [z0R] at h
 generalize l.getD p 0 = d1 at *
 by_cases h1 : p < l.length
 · rw [if_pos h1] at h
   by_cases c1 : 2 = 2 ∧ d1 = 128
   · rw [if_pos c1] at h; simp at h
   · rw [if_neg c1] at h
     by_cases c2 : d1 < 128
     · rw [if_pos c2] at h
       by_cases c3 : 128 * 0 + d1 % 128 < 31
       · rw [if_pos c3] at h; simp at h
       · rw [if_neg c3] at h
         simp only [Prod.mk.injEq] at h
         obtain ⟨rfl, rfl, _⟩ := h
         refine ⟨by omega, by omega, ?_⟩
         unfold z46
         rw [if_neg (by omega), if_neg (by omega), e1 h1, show (128 * 0 + d1 % 128) % 128 = d1 by omega]
         rfl
     · rw [if_neg c2] at h
       rw [z0R] at h
       generalize l.getD (p + 1) 0 = d2 at *
       by_cases h2 : p + 1 < l.length
       · rw [if_pos h2, if_neg (by omega)] at h
         by_cases c4 : d2 < 128
         · rw [if_pos c4] at h
           by_cases c5 : 128 * (128 * 0 + d1 % 128) + d2 % 128 < 31
           · rw [if_pos c5] at h; simp at h
           · rw [if_neg c5] at h
             simp only [Prod.mk.injEq] at h
             obtain ⟨rfl, rfl, _⟩ := h
             refine ⟨by omega, by omega, ?_⟩
             have hN : 128 * (128 * 0 + d1 % 128) + d2 % 128 = 128 * (d1 - 128) + d2 := by omega
             rw [hN]
             unfold z46
             rw [if_neg (by omega), if_pos (by omega), e1 h1, e2 h2, show 128 + (128 * (d1 - 128) + d2) / 128 % 128 = d1 by omega, show (128 * (d1 - 128) + d2) % 128 = d2 by omega]
             rfl
         · rw [if_neg c4] at h
           rw [z0R] at h
           generalize l.getD (p + 1 + 1) 0 = d3 at *
           by_cases h3 : p + 1 + 1 < l.length
           · rw [if_pos h3, if_neg (by omega)] at h
             by_cases c6 : d3 < 128
             · rw [if_pos c6] at h
               by_cases c7 : 128 * (128 * (128 * 0 + d1 % 128) + d2 % 128) + d3 % 128 < 31
               · rw [if_pos c7] at h; simp at h
               · rw [if_neg c7] at h
                 simp only [Prod.mk.injEq] at h
                 obtain ⟨rfl, rfl, _⟩ := h
                 refine ⟨by omega, by omega, ?_⟩
                 have hN : 128 * (128 * (128 * 0 + d1 % 128) + d2 % 128) + d3 % 128 = 16384 * (d1 - 128) + 128 * (d2 - 128) + d3 := by omega
                 rw [hN]
                 unfold z46
                 rw [if_pos (by omega), if_pos (by omega), e1 h1, e2 h2, e3 h3, show 128 + (16384 * (d1 - 128) + 128 * (d2 - 128) + d3) / 16384 = d1 by omega, show 128 + (16384 * (d1 - 128) + 128 * (d2 - 128) + d3) / 128 % 128 = d2 by omega, show (16384 * (d1 - 128) + 128 * (d2 - 128) + d3) % 128 = d3 by omega]
                 rfl
             · rw [if_neg c6] at h
               rw [z0R] at h
               split at h <;> simp at h
           · rw [if_neg h3] at h; simp at h
       · rw [if_neg h2] at h; simp at h
 · rw [if_neg h1] at h; simp at h
theorem zgi {l : List Int} {p q : Nat} {t : z0q} (hw : WfB l) (h : z0H l p = (t, q, 0)) : z0z t = true ∧ l.drop p = tgL t ++ l.drop q := by
 have hr : z2l l p = (t, q, 0) := by
   unfold z0H z0S at h
   split at h
   · exact h
   · rename_i h1
     simp only [Prod.mk.injEq] at h
     exact absurd h.2.2 h1
 have w1 := z3M hw p
 have e1 := z1B l p
 unfold z2l at hr
 generalize l.getD p 0 = c at *
 by_cases hp : p < l.length
 · rw [if_pos hp] at hr
   have hfi : ∀ n : Int, z17 (c / 64, n, decide (c / 32 % 2 = 1)) = 64 * (c / 64) + 32 * (c / 32 % 2) := by
     intro n
     unfold z17
     dsimp only
     by_cases hb : c / 32 % 2 = 1
     · rw [decide_eq_true hb, hb]; rfl
     · rw [decide_eq_false hb]
       have : c / 32 % 2 = 0 := by omega
       rw [this]; rfl
   by_cases h31 : c % 32 = 31
   · rw [if_pos h31] at hr
     generalize hn : z0R l 3 (p + 1) 0 = R at *
     obtain ⟨N, q2, e⟩ := R
     simp only [Prod.mk.injEq] at hr
     obtain ⟨rfl, rfl, rfl⟩ := hr
     obtain ⟨n1, n2, n3⟩ := zgh hw hn
     refine ⟨by simp [z0z]; omega, ?_⟩
     have hR := z8R N.toNat (by omega) (by omega)
     rw [show ((N.toNat : Nat) : Int) = N by omega] at hR
     unfold tgL
     dsimp only
     rw [if_neg (by omega), hfi, ← hR, e1 hp, n3]
     have : 64 * (c / 64) + 32 * (c / 32 % 2) + 31 = c := by omega
     rw [this]
     rfl
   · rw [if_neg h31] at hr
     simp only [Prod.mk.injEq] at hr
     obtain ⟨rfl, rfl, _⟩ := hr
     refine ⟨by simp [z0z]; omega, ?_⟩
     unfold tgL
     dsimp only
     rw [if_pos (by omega), hfi, e1 hp]
     have : 64 * (c / 64) + 32 * (c / 32 % 2) + c % 32 = c := by omega
     rw [this]
     rfl
 · rw [if_neg hp] at hr; simp at hr
theorem zgj {l : List Int} {p q : Nat} {n : Int} (hw : WfB l) (h : lenP l p = (n, q, 0)) : 0 ≤ n ∧ n ≤ 16777216 ∧ l.drop p = z10 n.toNat ++ l.drop q := by
 have hr : z2J l p = (n, q, 0) := by
   unfold lenP z0S at h
   split at h
   · exact h
   · rename_i h1
     simp only [Prod.mk.injEq] at h
     exact absurd h.2.2 h1
 have w0 := z3M hw p
 have w1 := z3M hw (p + 1)
 have w2 := z3M hw (p + 1 + 1)
 have w3 := z3M hw (p + 1 + 1 + 1)
 have w4 := z3M hw (p + 1 + 1 + 1 + 1)
 have e0 := z1B l p
 have e1 := z1B l (p + 1)
 have e2 := z1B l (p + 1 + 1)
 have e3 := z1B l (p + 1 + 1 + 1)
 have e4 := z1B l (p + 1 + 1 + 1 + 1)
 unfold z2J at hr
 by_cases hp : p < l.length
 · rw [if_pos hp] at hr
   generalize l.getD p 0 = c at *
   by_cases h1 : c < 128
   · rw [if_pos h1] at hr
     simp only [Prod.mk.injEq] at hr
     obtain ⟨rfl, rfl, _⟩ := hr
     refine ⟨by omega, by omega, ?_⟩
     unfold z10
     rw [if_pos (by omega), e0 hp, show ((c.toNat : Nat) : Int) = c by omega]
     rfl
   · rw [if_neg h1] at hr
     by_cases h2 : c = 128 ∨ 132 < c
     · rw [if_pos h2] at hr; simp at hr
     · rw [if_neg h2] at hr
       unfold z29 at hr
       by_cases h3 : l.length < p + 1 + (c % 128).toNat
       · rw [if_pos h3] at hr; simp at hr
       · rw [if_neg h3] at hr
         generalize l.getD (p + 1) 0 = d1 at *
         generalize l.getD (p + 1 + 1) 0 = d2 at *
         generalize l.getD (p + 1 + 1 + 1) 0 = d3 at *
         generalize l.getD (p + 1 + 1 + 1 + 1) 0 = d4 at *
         have hc : c = 129 ∨ c = 130 ∨ c = 131 ∨ c = 132 := by omega
         have fin : ∀ (k : Nat) (D : List Int), l.drop (p + 1) = D ++ l.drop (p + 1 + k) → D.length = k → (c % 128).toNat = k → (0 ≤ z0x 0 D) → (128 ≤ z0x 0 D → z0x 0 D ≤ 16777216 → d1 ≠ 0 → z20 (z0x 0 D) = c :: D) → 0 ≤ n ∧ n ≤ 16777216 ∧ l.drop p = z10 n.toNat ++ l.drop q := by
           intro k D hD hk hck h0 href
           rw [hck, show (l.drop (p + 1)).take k = D by rw [hD, ← hk, List.take_left]] at hr
           by_cases h4 : d1 = 0 ∨ z0x 0 D < 128
           · rw [if_pos h4] at hr; simp at hr
           · rw [if_neg h4] at hr
             by_cases h5 : 16777216 < z0x 0 D
             · rw [if_pos h5] at hr; simp at hr
             · rw [if_neg h5] at hr
               simp only [Prod.mk.injEq] at hr
               obtain ⟨rfl, rfl, _⟩ := hr
               refine ⟨h0, by omega, ?_⟩
               rw [← z6Q _ (by omega), show (((z0x 0 D).toNat : Nat) : Int) = z0x 0 D by omega, href (by omega) (by omega) (by omega), e0 hp, hD]
               rfl
         rcases hc with rfl | rfl | rfl | rfl
         · have q1 : p + 1 < l.length := by omega
           refine fin 1 [d1] (by rw [e1 q1]; rfl) rfl (by decide) (by simp [z0x]; omega) (fun a1 a2 a3 => ?_)
           simp only [z0x] at a1 a2 ⊢
           unfold z20
           rw [if_neg (by omega), if_pos (by omega)]
           simp
         · have q1 : p + 1 < l.length := by omega
           have q2 : p + 1 + 1 < l.length := by omega
           refine fin 2 [d1, d2] (by rw [e1 q1, e2 q2]; rfl) rfl (by decide) (by simp [z0x]; omega) (fun a1 a2 a3 => ?_)
           simp only [z0x] at a1 a2 ⊢
           unfold z20
           rw [if_neg (by omega), if_neg (by omega), if_pos (by omega)]
           simp; omega
         · have q1 : p + 1 < l.length := by omega
           have q2 : p + 1 + 1 < l.length := by omega
           have q3 : p + 1 + 1 + 1 < l.length := by omega
           refine fin 3 [d1, d2, d3] (by rw [e1 q1, e2 q2, e3 q3]; rfl) rfl (by decide) (by simp [z0x]; omega) (fun a1 a2 a3 => ?_)
           simp only [z0x] at a1 a2 ⊢
           unfold z20
           rw [if_neg (by omega), if_neg (by omega), if_neg (by omega), if_pos (by omega)]
           simp; omega
         · have q1 : p + 1 < l.length := by omega
           have q2 : p + 1 + 1 < l.length := by omega
           have q3 : p + 1 + 1 + 1 < l.length := by omega
           have q4 : p + 1 + 1 + 1 + 1 < l.length := by omega
           refine fin 4 [d1, d2, d3, d4] (by rw [e1 q1, e2 q2, e3 q3, e4 q4]; rfl) rfl (by decide) (by simp [z0x]; omega) (fun a1 a2 a3 => ?_)
           simp only [z0x] at a1 a2 ⊢
           unfold z20
           rw [if_neg (by omega), if_neg (by omega), if_neg (by omega), if_neg (by omega)]
           simp; omega
 · rw [if_neg hp] at hr; simp at hr
theorem z5q {l : List Int} {p q : Nat} {t : z0q} {n : Int} (hw : WfB l) (h : z09 l p = ((t, n), q, 0)) : z0z t = true ∧ 0 ≤ n ∧ n ≤ 16777216 ∧ l.drop p = tgL t ++ (z10 n.toNat ++ l.drop q) := by
 have hr : z2m l p = ((t, n), q, 0) := by
   unfold z09 z0S at h
   split at h
   · exact h
   · rename_i h1
     simp only [Prod.mk.injEq] at h
     exact absurd h.2.2 h1
 unfold z2m at hr
 generalize ht : z0H l p = T at *
 obtain ⟨t1, q1, e1⟩ := T
 dsimp only at hr
 by_cases he : e1 = 0
 · subst he
   rw [if_pos rfl] at hr
   generalize hl : lenP l q1 = L at *
   obtain ⟨n1, q2, e2⟩ := L
   simp only [Prod.mk.injEq] at hr
   obtain ⟨⟨rfl, rfl⟩, rfl, rfl⟩ := hr
   obtain ⟨a1, a2⟩ := zgi hw ht
   obtain ⟨b1, b2, b3⟩ := zgj hw hl
   exact ⟨a1, b1, b2, by rw [a2, b3]⟩
 · rw [if_neg he] at hr
   simp only [Prod.mk.injEq] at hr
   exact absurd hr.2.2 he
theorem z5r {l x : List Int} {p q : Nat} {t : z0q} (hw : WfB l) (h : z0y l p t = (x, q, 0)) : z0z t = true ∧ l.drop p = z0i t x ++ l.drop q := by
 rw [zg4] at h
 generalize hr : z09 l p = R at *
 obtain ⟨⟨t1, n⟩, q1, e⟩ := R
 dsimp only at h
 by_cases he : e = 0
 · subst he
   rw [if_pos rfl] at h
   by_cases h1 : t1 = t
   · rw [if_pos h1] at h
     subst h1
     by_cases h2 : (l.length : Int) - (q1 : Int) < n
     · rw [if_pos h2] at h; simp at h
     · rw [if_neg h2] at h
       simp only [Prod.mk.injEq] at h
       obtain ⟨rfl, rfl, _⟩ := h
       obtain ⟨a1, a2, a3, a4⟩ := z5q hw hr
       refine ⟨a1, ?_⟩
       have hlen : ((l.drop q1).take n.toNat).length = n.toNat := by simp; omega
       unfold z0i
       rw [hlen, a4]
       simp only [List.append_assoc]
       rw [← List.drop_drop, List.take_append_drop]
   · rw [if_neg h1] at h; simp at h
 · rw [if_neg he] at h; simp at h; omega
end Go.Proofs.YtaagjnlkinojcaaGreat

namespace Go.Sx
open Go
set_option linter.unusedVariables false
set_option linter.unusedSimpArgs false
section
variable {P : Program} {E : Env} {ops : Array Oper} {Q : Exit → Act → World → Prop} {rest : List Oper} {o : Oper} {σ : St} {α : Type} {f : α → List Leaf}
theorem wgF {nt : Nat} {dd : Option Nat} {i : Nat} {b : Bool} (x : Av) (hn : E.n = nt) (hk : WL P E ops Q rest (σ.put dd (.cnd false x))) (hg : o.guard = some (i, b) := by exact rfl) (hG : z0X ops σ i b = some false := by exact rfl) (hdf : z0e o.dst some = some dd := by exact rfl) (hd : z08 nt dd = true := by exact rfl) : WL P E ops Q (o :: rest) σ := by
 simp only [z0g, Option.some.injEq] at hdf
 subst hdf
 exact z0W (z38 hg hG fun h => by cases h) (by rw [hn]; exact hd) hk
end

section
variable {P : Program} {E : Env} {ops : Array Oper} {o : Oper} {σ : St}
theorem zhC {t e : TypeId} {n by_ sc K : Nat} {parts : Array (Nat × Operand)} {ps : List Prop} {k : IntKind} {l : List Int} (hop : o.op = .buildSlice t n parts) (hg : o.guard = none) (hdst : o.dst = some sc) (hK : K = nk (some sc) 0)
   (hf : ∀ τ, Like ops o τ σ → zcP P e n o.dst (z18 (fun i => some (i * 1, 1)) (List.replicate (n * 1) .un) (parts.toList.map fun (i, x) => (i, ox (fresh τ o.dst) x))) = some (some sc, ps, k, l))
   (hd : z08 E.n (some sc) = true) (hE : Elt P t e 1 by_) (hz : z01 P e) (hp : z03 ps) (hn : n ≤ 16777216 ∧ l.length = n) :
   ∀ τ, Like ops o τ σ → kfr K sc τ → (τ.tm sc).kill K = τ.tm sc → τ.hp K = .gone → OpT P E ops o τ ((τ.seth K (.row (.ints k l))).put o.dst (.c (.own K 1 0 l.length))) := by
 intro τ hl hkf hkc hKg
 refine zen fun Q' hQ => z1l hop hg (hf τ hl) hd hE hz hp hn ?_
 refine z6r fun a w hS => hQ a w (hS.weaken ⟨fun s => ?_, fun j => ?_⟩)
 · rw [hdst, hK]
   show Av.le (if s = sc then _ else (τ.tm s).kill (nk (some sc) 0)) (if s = sc then _ else τ.tm s)
   by_cases e : s = sc
   · rw [if_pos e, if_pos e]; exact .inl rfl
   · rw [if_neg e, if_neg e, ← hK, hkf.1 s e]; exact .inl rfl
 · rw [hdst, hK]
   show Blk.le (if j = nk (some sc) 0 then _ else (match decide (j = nk (some sc) 0) with | true => Blk.gone | false => (τ.hp j).kill (nk (some sc) 0))) (if j = nk (some sc) 0 then _ else τ.hp j)
   by_cases e : j = nk (some sc) 0
   · rw [if_pos e, if_pos e]; exact .inl rfl
   · rw [if_neg e, if_neg e]; simp only [e, decide_false]; rw [← hK, hkf.2 j (by rw [hK]; exact e)]; exact .inl rfl
theorem zbr {t e : TypeId} {by_ : Nat} {c : Call} {x y : Operand} {px qs : List Prop} {K sc su n : Nat} {k : IntKind} {l l2 : List Int} (hop : o.op = .call c) (hc : c.callee = .builtin .append) (ha : c.args.toList = [x, y]) (hty : c.argTypes.toList = [t, t])
   (hg : o.guard = none) (hd : z08 E.n o.dst = true) (hdst : o.dst = some su) (hE : Elt P t e 1 by_) (hx : ox σ x = (px, .c (.own K 1 0 n))) (hb : σ.hp K = .row (.ints k l)) (hj64 : Nat.ble 64 K = true)
   (hy : ox σ y = (qs, .c (.lf (.ints k l2)))) (hp : z03 (px ++ qs)) (hnl : n = l.length) (hlim : l.length + l2.length ≤ 4294967296 ∧ by_ ≤ 4096) (hnb : E.nb = 0) :
   ∀ τ, Like ops o τ σ → kfr K sc τ → OpT P E ops o τ (((τ.set sc (.c .un)).seth K .gone).put o.dst (.c (.lf (.ints k (l ++ l2))))) := by
 intro τ hl hkf
 have e1 : ox τ x = ox σ x := hl.ox x (by rw [hop]; simp [Op.operands, Call.operands, ha, hc])
 have e2 : ox τ y = ox σ y := hl.ox y (by rw [hop]; simp [Op.operands, Call.operands, ha, hc])
 refine zen fun Q' hQ => ?_
 have hyt : ox τ y = (qs, .c (.lf (.ints k l2))) := by rw [e2]; exact hy
 refine z1U (dd := some su) hop hc ha hty hg (by rw [hdst]; rfl) (by rw [← hdst]; exact hd) hE (by rw [e1]; exact hx) (by rw [hl.hp]; exact hb) hj64 (l2 := l2) (qs := qs) (by rw [hyt]; rfl) hp hnl hlim ?_
 have etm : ((((τ.kill K).seth K (.row (.ints k (l ++ l2)))).put (some su) (.c (.own K 1 0 (l ++ l2).length)))).tm su = .c (.own K 1 0 (l ++ l2).length) := if_pos rfl
 refine z6G K [(su, .c (.lf (.ints k (l ++ l2))))] (d := .ints k (l ++ l2)) (if_pos rfl) hnb ?_ ?_
 · refine ⟨?_, ?_⟩
   · show z7J _ _ _ _
     rw [etm]
     exact ⟨rfl, rfl, rfl, by simp, by rw [List.drop_zero, List.length_append, ← List.length_append, List.take_length]⟩
   · show ([(su, Av.c (.lf (.ints k (l ++ l2))))].all fun p => z8k (((((τ.kill K).seth K (.row (.ints k (l ++ l2)))).put (some su) (.c (.own K 1 0 (l ++ l2).length)))).tm p.1)) = true
     simp only [List.all_cons, List.all_nil, etm]
     rfl
 · refine z6r fun a w hS => hQ a w (hS.weaken ⟨fun s => ?_, fun j => ?_⟩)
   · rw [hdst]
     show Av.le (if s = su then _ else ((if s = su then _ else (τ.tm s).kill K).kill K)) (if s = su then _ else if s = sc then _ else τ.tm s)
     by_cases e : s = su
     · rw [if_pos e, if_pos e]; exact .inl rfl
     · rw [if_neg e, if_neg e, if_neg e]
       by_cases e2 : s = sc
       · rw [if_pos e2]; exact .inr rfl
       · rw [if_neg e2, hkf.1 s e2, hkf.1 s e2]; exact .inl rfl
   · rw [hdst]
     show Blk.le (match decide (j = K) with | true => Blk.gone | false => (if j = K then _ else (match decide (j = K) with | true => Blk.gone | false => (τ.hp j).kill K)).kill K) (if j = K then _ else τ.hp j)
     by_cases e : j = K
     · rw [if_pos e]; simp only [e, decide_true]; exact .inl rfl
     · rw [if_neg e, if_neg e]; simp only [e, decide_false]
       rw [hkf.2 j e, hkf.2 j e]; exact .inl rfl
theorem zhD {x y : Av} (h : str x = ([], y)) : x = y := by
 cases x <;> simp_all [str]
end
end Go.Sx
namespace Go.Proofs.YtaagjnlkinojcaaGreat
open Go.Sx
set_option maxRecDepth 10000
theorem zde (a b : Int) (t : List Int) (ha : 0 ≤ a ∧ a ≤ 2) (hb0 : 0 ≤ b ∧ b ≤ 2147483647) (hl : t.length ≤ 16000000) : Ct Tryz.prog 243 [I64 (a :: b :: t)] [] (I64 ((40 * a + b) :: t)) [] [] := by
 refine z00 Tryz.func243 rfl rfl rfl rfl rfl (fun E hn hb => ?_)
 repeat (refine nst ?_)
 refine z0d (St.le_of (l := [(0, I64 (a :: b :: t)), (2, lv (.slice none 0 0))]) (h := []) (by refine ⟨?_, ?_⟩ <;> (repeat' (first | exact trivial | exact rfl | refine ⟨?_, ?_⟩)) <;> first | exact rfl | (simp; done) | skip)) ?_
 refine zhr (BC := .row (.ints .i64 [40 * a + b])) (oc := .own 75 1 0 1) 75 11 14 8 11 (by kernel_rfl) (by kernel_rfl) (by rw [hn]; rfl) rfl rfl rfl rfl (by kernel_rfl) (by kernel_rfl) rfl rfl (by rw [hb]; decide) rfl (zep ⟨rfl, rfl⟩) (zd6 trivial) ?_
 repeat (first | refine z3e rfl rfl rfl (z1w true rfl rfl (by exact vcs)) rfl ?_ | refine z3e rfl rfl rfl (z3z true rfl rfl rfl (by intro hG; first | trivial | (simp; done) | (simp; omega) | (simp at *; done) | (simp at *; omega))) rfl ?_ | refine z6U ?_)
 refine zhs rfl rfl (zhC (by_ := 8) (ps := []) rfl rfl rfl rfl (fun τ hl => ?_) (by rw [hn]; rfl) (z0j Tryz.underlying22 rfl rfl) zm3 trivial ⟨by decide, rfl⟩) ?_
 · have h10 := hl.ox (.tmp 10) (by simp [Op.operands])
   have h11 : τ.tm 10 = lv (.int .i64 (40 * a + b)) := zhD h10
   show zcP Tryz.prog 3 1 (some 11) (z18 (fun i => some (i * 1, 1)) [.un] [(0, str ((τ.tm 10).kill 75))]) = _
   rw [h11]
   rfl
 repeat (first | refine z3e rfl rfl rfl (z1w true rfl rfl (by exact vcs)) rfl ?_ | refine z3e rfl rfl rfl (z3z true rfl rfl rfl (by intro hG; first | trivial | (simp; done) | (simp; omega) | (simp at *; done) | (simp at *; omega))) rfl ?_ | refine z6U ?_)
 refine zht rfl rfl rfl (zbr rfl rfl rfl rfl rfl (by rw [hn]; rfl) rfl (z0j Tryz.underlying22 rfl rfl) rfl rfl rfl rfl (by trivial) rfl ⟨by simp; omega, by decide⟩ hb) rfl ?_
 repeat (first | refine z3e rfl rfl rfl (z1w true rfl rfl (by exact vcs)) rfl ?_ | refine z3e rfl rfl rfl (z3z true rfl rfl rfl (by intro hG; first | trivial | (simp; done) | (simp; omega) | (simp at *; done) | (simp at *; omega))) rfl ?_ | refine z6U ?_)
 refine z6r ?_
 repeat (refine nst ?_)
 refine rt2 [] ?_ ?_
 · rfl
 · trivial
end Go.Proofs.YtaagjnlkinojcaaGreat

namespace Go.Proofs.YtaagjnlkinojcaaGreat
set_option linter.unusedSimpArgs false
set_option linter.unusedVariables false
open Go.Sx
set_option maxRecDepth 10000
set_option maxHeartbeats 4000000 in
theorem zeF (a b : List Int) (ha : a.length ≤ 16000000) (hb' : b.length ≤ 16000000) : Ct Tryz.prog 184 [I64 a, I64 b] [] (lv (.int .i64 (z0v a b))) [] [] := by
 refine z00 Tryz.func184 rfl rfl rfl rfl rfl (fun E hn hb => ?_)
 repeat (refine nst ?_)
 refine z0d (St.le_of (l := [(0, I64 a), (1, I64 b), (5, lv (.int .i64 0))]) (h := []) (by refine ⟨?_, ?_⟩ <;> (repeat' (first | exact trivial | exact rfl | refine ⟨?_, ?_⟩)) <;> first | exact rfl | (simp; done) | skip)) ?_
 refine z0l (ι := {i : Nat // i ≤ 16000000 ∧ z0v (a.drop i) (b.drop i) = z0v a b}) (fun i => St.of [(0, I64 a), (1, I64 b), (5, lv (.int .i64 (i.1 : Int)))] []) (fun i => 16000001 - i.1) (fun i => ?_) ⟨0, by omega, rfl⟩
 obtain ⟨i, hi, he⟩ := i
 dsimp only
 repeat (refine nst ?_)
 refine z04 rfl (by simp) (fun hc => ?_) (fun hc => ?_)
 · simp at hc
   repeat (refine nst ?_)
   refine z2u 21 (by kernel_rfl) (by kernel_rfl) (by kernel_rfl) (by rw [hn]; rfl) rfl rfl ?_
   repeat (first | refine dp1 ?_ | refine dg1 ?_ | refine z0E ?_)
   repeat (refine nst ?_)
   have key : ∀ x : List Int, i < x.length → x.drop i = x.getD i 0 :: x.drop (i + 1) := fun x h => by
     rw [List.drop_eq_getElem_cons h]; simp [h]
   refine z04 rfl (by simp) (fun hd => ?_) (fun hd => ?_)
   · repeat (refine nst ?_)
     refine rt2 [] ?_ ?_
     · have : z0v a b = -1 := by
         rw [← he]
         by_cases h1 : i < a.length
         · have h2 : i < b.length ∧ a.getD i 0 < b.getD i 0 := by
             have : ¬ a.length ≤ i := by omega
             simpa [this, Bool.cond_eq_ite] using hd
           rw [key a h1, key b h2.1]
           simp only [z0v, h2.2, if_true]
         · rw [List.drop_eq_nil_of_le (by omega), key b (by omega)]; rfl
       rw [this]; rfl
     · trivial
   · repeat (refine nst ?_)
     have hia : i < a.length ∧ (i < b.length → ¬ a.getD i 0 < b.getD i 0) := by
       rcases Nat.lt_or_ge i a.length with h | h
       · have : ¬ a.length ≤ i := by omega
         refine ⟨h, fun hib => ?_⟩
         simpa [this, hib, Bool.cond_eq_ite] using hd
       · simp [h, Bool.cond_eq_ite] at hd
     clear hd
     refine z2u 15 (by kernel_rfl) (by kernel_rfl) (by kernel_rfl) (by rw [hn]; rfl) rfl rfl ?_
     repeat (first | refine dp1 ?_ | refine dg1 ?_ | refine z0E ?_)
     repeat (refine nst ?_)
     refine z04 rfl (by simp) (fun hd => ?_) (fun hd => ?_)
     · repeat (refine nst ?_)
       refine rt2 [] ?_ ?_
       · have : z0v a b = 1 := by
           rw [← he, key a hia.1]
           by_cases h1 : i < b.length
           · have h2 : b.getD i 0 < a.getD i 0 := by
               have : ¬ b.length ≤ i := by omega
               simpa [this, Bool.cond_eq_ite] using hd
             rw [key b h1]
             simp only [z0v, hia.2 h1, h2, if_true, if_false]
           · rw [List.drop_eq_nil_of_le (by omega : b.length ≤ i)]; rfl
         rw [this]; rfl
       · trivial
     · repeat (refine nst ?_)
       have h1 : i < b.length ∧ ¬ b.getD i 0 < a.getD i 0 := by
         rcases Nat.lt_or_ge i b.length with h | h
         · have : ¬ b.length ≤ i := by omega
           refine ⟨h, ?_⟩
           simpa [this, Bool.cond_eq_ite] using hd
         · simp [h, Bool.cond_eq_ite] at hd
       (refine z0a ?i1 ?i2 ?i3; (case i1 => exact ⟨i + 1, by omega, by rw [← he, key a hia.1, key b h1.1]; simp only [z0v, hia.2 h1.1, h1.2, if_false]⟩); (case i2 => (dsimp only; omega)); (case i3 => refine St.le_of ⟨?_, ?_⟩ <;> (repeat' (first | exact trivial | exact rfl | refine ⟨?_, ?_⟩)) <;> first | exact rfl | (simp; done) | skip))
 · repeat (refine nst ?_)
   refine rt2 [] ?_ ?_
   · have : z0v a b = 0 := by
       rw [← he, List.drop_eq_nil_of_le (by simp at hc; omega), List.drop_eq_nil_of_le (by simp at hc; omega)]; rfl
     rw [this]; rfl
   · trivial
end Go.Proofs.YtaagjnlkinojcaaGreat

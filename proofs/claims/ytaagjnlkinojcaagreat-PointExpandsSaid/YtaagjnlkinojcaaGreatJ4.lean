/-
  Chapter 16, plain: how long names, general names, points may be that the laws hand to the program. No condition.
-/
import Derived.Test.YtaagjnlkinojcaaGreatQ27
import Derived.Test.YtaagjnlkinojcaaGreatSxE
import Derived.Test.YtaagjnlkinojcaaGreatQ23
import Derived.Test.YtaagjnlkinojcaaGreatN1
import Derived.Test.YtaagjnlkinojcaaGreatSxR
import Derived.Test.YtaagjnlkinojcaaGreatQ3
import Derived.Test.YtaagjnlkinojcaaGreatO12
namespace Go.Proofs.YtaagjnlkinojcaaGreat
set_option linter.unusedSimpArgs false
set_option linter.unusedVariables false
open Go.Sx
set_option maxRecDepth 10000
abbrev rwA (t : Bool) (w : WhT) : Av := .agg [.lf (.v (.bool t)), .lf (.recs 3 (gnR w.1)), .lf (z3h w.2)]
def whD : Option WhT → WhT
 | none => ([], [])
 | some w => w
set_option maxHeartbeats 4000000 in
theorem zex (t : Bool) (w : WhT) (h : WhB w) : Ct Tryz.prog 74 [rwA t w] [] (lv (.bool (z6u w))) [] [] := by
 obtain ⟨g, s⟩ := w
 have hg := zhj g h.g h.l
 have hs := zaC s h.a h.s
 have hml : (gnR g).length = g.length := List.length_map ..
 have hms : (s.map atL).length = s.length := List.length_map ..
 unfold z6u
 dsimp only
 by_cases h0 : s = []
 · subst h0
   rw [if_neg (by decide)]
   generalize z26 g = G at *
   refine z00 Tryz.func74 rfl rfl rfl rfl rfl (fun E hn hb => ?_)
   repeat refine nx ?_
   exact rt1 []
 · have hpos : 0 < s.length := List.length_pos_iff.2 h0
   rw [if_pos hpos]
   generalize z0B s = S at *
   by_cases hg0 : g = []
   · subst hg0
     refine z00 Tryz.func74 rfl rfl rfl rfl rfl (fun E hn hb => ?_)
     repeat refine nx ?_
     refine rt2 [] (congrArg (fun x => lv (.bool x)) ?_) trivial
     cases S <;> rfl
   · have hgp : 0 < g.length := List.length_pos_iff.2 hg0
     rw [decide_eq_false (by omega : ¬ g.length = 0), Bool.false_and]
     refine z00 Tryz.func74 rfl rfl rfl rfl rfl (fun E hn hb => ?_)
     repeat refine nx ?_
     refine rt2 [] (congrArg (fun x => lv (.bool x)) ?_) trivial
     rw [show (((gnR (g, s).1).length : Int) == 0) = false by rw [hml, beq_eq_false_iff_ne]; omega]
     rfl

theorem zdc (o : Option WhT) (h : ztl o) : Ct Tryz.prog 23 [wpV o] [] (rwA o.isSome (whD o)) [] [] := by
 rcases o with _ | ⟨g, s⟩
 · refine z00 Tryz.func23 rfl rfl rfl rfl rfl (fun E hn hb => ?_)
   repeat refine nx ?_
   refine rtU [] (hu := ?_)
   exact ⟨.inl rfl, .inr ⟨rfl, .inr ⟨_, rfl⟩⟩, .inr ⟨rfl, .inr ⟨_, rfl⟩⟩, trivial⟩
 · have ha := zaL g h.l h.g
   refine z00 Tryz.func23 rfl rfl rfl rfl rfl (fun E hn hb => ?_)
   repeat refine nx ?_
   refine zaa (fun a w h => SR.cell_nilS 2 67 2 901 rfl rfl rfl rfl rfl h) ?_
   refine z0d (St.le_of (l := [(0, wpV (some (g, s))), (3, .c (.ptr 67 0)), (2, .c (.ptr 66 0)), (4, lv (.int .i64 ((0 : Nat) : Int)))]) (h := [(66, .cells [.lf (.v (.bool false)), .lf (.v (.slice none 0 0)), .lf (.v (.slice none 0 0))]), (67, .cells [.lf (.v (.bool true)), .lf (.recs 3 (gnR g)), .own 901 2 0 ((s.take 0).map atL).length]), (901, .row (.recs 2 ((s.take 0).map atL)))]) (by refine ⟨?_, ?_⟩ <;> (repeat' (first | exact trivial | exact rfl | refine ⟨?_, ?_⟩)) <;> first | exact rfl | (simp; done) | skip)) ?_
   refine z0l (ι := {j : Nat // j ≤ s.length}) (fun j => St.of [(0, wpV (some (g, s))), (3, .c (.ptr 67 0)), (2, .c (.ptr 66 0)), (4, lv (.int .i64 (j.1 : Int)))] [(66, .cells [.lf (.v (.bool false)), .lf (.v (.slice none 0 0)), .lf (.v (.slice none 0 0))]), (67, .cells [.lf (.v (.bool true)), .lf (.recs 3 (gnR g)), .own 901 2 0 ((s.take j.1).map atL).length]), (901, .row (.recs 2 ((s.take j.1).map atL)))]) (fun j => s.length - j.1) (fun j => ?_) ⟨0, Nat.zero_le _⟩
   obtain ⟨j, hj⟩ := j
   dsimp only
   have hms : (s.map atL).length = s.length := List.length_map ..
   have hrt : ((s.take j).map atL).length = j := by rw [List.length_map, List.length_take]; omega
   have hsl := h.s
   dsimp only at hsl
   by_cases hj2 : j < s.length
   · have hq2 : s.getD (j : Int).toNat default = s.getD j atD := rfl
     have hsr := z1C (d := atD) hj2
     generalize hB : s.getD j atD = a at *
     obtain ⟨o, v⟩ := a
     repeat (first | refine nxw ?_)
     refine duF [107] [(20, 107), (20, 901), (22, 67)] ?_
     repeat (first | refine nx ?_ | rw [hq2])
     refine z4T (fun a w h => SR.mv 107 901 rfl rfl rfl rfl rfl h) ?_
     refine z0a ⟨j + 1, by omega⟩ (by dsimp only; omega) (St.le_of ⟨⟨rfl, rfl, rfl, rfl⟩, ⟨rfl, ?_, ?_⟩⟩)
     · dsimp only; rw [hsr, z2k]; rfl
     · dsimp only; rw [hsr, z2k]; rfl
   · obtain rfl : j = s.length := by omega
     rw [List.take_length]
     repeat refine nx ?_
     refine zlY 901 66 ?_
     exact rt1 []
end Go.Proofs.YtaagjnlkinojcaaGreat

namespace Go.Sx
open Go
set_option linter.unusedVariables false
set_option linter.unusedSimpArgs false
section
variable {P : Program} {E : Env} {ops : Array Oper} {σ : St}
theorem znN {ns b own : List Nat} {bs : List (List Nat × List Nat)} {o : Oper} {l : List Oper} {K : St → Prop} {t : TypeId} {x : Operand} {ps : List Prop} {y : Av} {d : Nat} {cs : List Cell} (hop : o.op = .box t x) (hg : o.guard = none) (hd : o.dst = some d) (hE : z08 E.n (some d) = true) (hx : ox ⟨σ.tm, fgt b σ.hp⟩ x = (ps, y)) (hp : z03 ps) (hcs : z2P (z1q y) some = some cs) (hu : z2s y = false)
   (hgone : σ.hp (nk (some d) 0) = .gone) (hb : z07 (nk (some d) 0) b = false) (hns : z07 (nk (some d) 0) ns = true) (ho : z07 (nk (some d) 0) own = true)
   (hk : z0b P E ops ns bs l ((σ.seth (nk (some d) 0) (.cells cs)).put (some d) (.c (.ptr (nk (some d) 0) 0))) K) : z0b P E ops ns ((b, own) :: bs) (o :: l) σ K := by
 have eu : ∀ hp : Nat → Blk, z15 hp [(nk (some d) 0, .cells cs)] = fun i => if i = nk (some d) 0 then .cells cs else hp i := fun hp => z5v hp _ _
 refine z5G (x := .c (.ptr (nk (some d) 0) 0)) (u := [(nk (some d) 0, .cells cs)]) ?_ (zfp ho (by simp)) ?_
 · intro τ hl β F a w hS hn K Q hK
   rw [show Region.wanted o (yielded ops a.tmps) = true by simp [Region.wanted, hg], if_pos rfl]
   have hgτ : τ.hp (nk (some d) 0) = .gone := by rw [hl.hp _ hb]; exact hgone
   have hnb : E.nb ≤ nk (some d) 0 := by
     have := hS.nbl
     simp only [nk, Option.getD_some, Nat.mul_zero, Nat.add_zero]
     omega
   have h1 := hn d hd hns
   have hcut : SRb E β F ⟨τ.tm, fgt b σ.hp⟩ a w := hS.cut hl
   have x1 : ox ⟨τ.tm, fgt b σ.hp⟩ x = ox ⟨σ.tm, fgt b σ.hp⟩ x := hl.ox x (by rw [hop]; simp [Op.operands])
   have hv := oxR hcut x
   rw [x1, hx] at hv
   obtain ⟨k1, k2⟩ := z5S (hv hp) (z3O hcs) (by intro h; subst h; simp [z2s] at hu)
   obtain ⟨β2, hS2, h4, h5⟩ := zbz (t := t) hS h1 hnb hgτ k1 k2
   unfold Oper.wp
   have hrun : (execOp a.eval o).run P w = .ok (.value (.pointer (some ⟨w.heap.size, 0, none⟩))) (w.alloc (.cells (a.eval x).cells t)) := by
     simp [execOp, hop, Instr.box, newVar, newRow]
   rw [hrun]
   refine hK _ _ β2 F ?_ fun k hk => h5 k fun e => ?_
   · rw [hd, eu]
     exact hS2.put (.c (.ptr _ _ _ h4)) (z0o hE)
   · rw [e] at hk
     simp [z0J] at hk
 · rw [eu, hd]
   exact hk
variable {nt : Nat} {ns b own : List Nat} {bs : List (List Nat × List Nat)} {o : Oper} {l : List Oper} {K : St → Prop}
theorem ztH {t : TypeId} {x : Operand} {ps : List Prop} {y : Av} {d : Nat} {cs : List Cell} (hn : E.n = nt) (hk : z0b P E ops ns bs l ((σ.seth (nk (some d) 0) (.cells cs)).put (some d) (.c (.ptr (nk (some d) 0) 0))) K) (hop : o.op = .box t x := by exact rfl) (hg : o.guard = none := by exact rfl) (hd : o.dst = some d := by exact rfl) (hd0 : z08 nt (some d) = true := by exact rfl) (hx : ox ⟨σ.tm, fgt b σ.hp⟩ x = (ps, y) := by exact rfl) (hcs : z2P (z1q y) some = some cs := by exact rfl) (hu : z2s y = false := by exact rfl)
   (hgone : σ.hp (nk (some d) 0) = .gone := by exact rfl) (hb : z07 (nk (some d) 0) b = false := by exact rfl) (hns : z07 (nk (some d) 0) ns = true := by exact rfl) (ho : z07 (nk (some d) 0) own = true := by exact rfl) (hp : z03 ps := by first | trivial | (simp; done)) : z0b P E ops ns ((b, own) :: bs) (o :: l) σ K :=
 znN hop hg hd (by rw [hn]; exact hd0) hx hp hcs hu hgone hb hns ho hk
end
section
variable {P : Program} {E : Env} {ops : Array Oper} {Q : Exit → Act → World → Prop} {rest : List Oper} {o : Oper} {σ : St}
theorem zhx {t tn e : TypeId} {by_ : Nat} {c : Call} {x y : Operand} {px py : List Prop} {kn kv : IntKind} {n : Nat} {dd : Option Nat} (hop : o.op = .call c) (hc : c.callee = .builtin .append) (ha : c.args.toList = [x, y]) (hty : c.argTypes.toList = [t, tn]) (hg : o.guard = none)
   (hdf : z0e o.dst some = some dd) (hd : z08 E.n dd = true)
   (hE : Elt P t e 1 by_) (hz0 : (P.info? e).bind (·.zero) = some (.slice none 0 0)) (htn : P.underlying tn = some (.int kn)) (hx : ox (σ.kill (nk dd 0)) x = (px, lv (.slice none 0 0))) (hy : ox (σ.kill (nk dd 0)) y = (py, lv (.int kv (n : Int)))) (hp : z03 (px ++ py))
   (hlim : 0 < n ∧ n ≤ 4294967296 ∧ by_ ≤ 4096)
   (hk : WL P E ops Q rest (((σ.kill (nk dd 0)).seth (nk dd 0) (.row (.recs 1 []))).put dd (.c (.own (nk dd 0) 1 0 n)))) : WL P E ops Q (o :: rest) σ := by
 simp only [z0g, Option.some.injEq] at hdf
 subst hdf
 obtain ⟨hl0, hl1, hl2⟩ := hlim
 have hca : c.args = #[x, y] := by apply Array.toList_inj.1; simpa using ha
 have hct : c.argTypes = #[t, tn] := by apply Array.toList_inj.1; simpa using hty
 refine z2t hg _ (fun a w hS => ?_) hk
 obtain ⟨β, F, hS⟩ := hS
 obtain ⟨β', hS', h1, h2, h3⟩ := hS.fresh o.dst
 have hv1 := oxR hS' x
 rw [show fresh σ o.dst = σ.kill (nk o.dst 0) from rfl, hx] at hv1
 have hv1 := (hv1 hp.left).val
 have hv2 := oxR hS' y
 rw [show fresh σ o.dst = σ.kill (nk o.dst 0) from rfl, hy] at hv2
 have hv2 := (hv2 hp.right).val
 obtain ⟨ht, i, z, hi, hz, hsz, hby, hzs⟩ := hE
 have : z = .slice none 0 0 := by simpa [hi, hz] using hz0
 subst this
 have hb1 : n * by_ ≤ 140737488355328 := by
   have : n * by_ ≤ 4294967296 * 4096 := Nat.mul_le_mul (by omega) hl2
   omega
 have hold : (Builtin.firstCells i.size 0 (.slice none 0 0)).run P w.drew = .ok ([] : List Value).toArray w.drew := by
   simp [Builtin.firstCells]
 have hrun := Lib.run_append_grow_zeros (P := P) w t tn o.type e i (.slice none 0 0) kv kn ht htn hi hz none 0 0 [] hold n hl0 (by omega) (by omega) (by omega) (by rw [hby]; omega) (by rw [hby]; exact growslice_fits (by omega) (by rw [Nat.zero_add]; exact hb1))
 rw [Nat.zero_add] at hrun
 have hcap2 : n ≤ grownCap w n 0 e := grownCap_ge w n 0 e
 have hcm : grownCap w n 0 e ≤ maxLen := grownCap_le_maxLen w n 0 e (by simp only [maxLen]; omega)
 have hsize : (([] : List Value).toArray ++ Builtin.zeroCells (Value.slice none 0 0).cells n ++ Builtin.zeroCells (Value.slice none 0 0).cells (grownCap w n 0 e - n)).size = grownCap w n 0 e := by
   simp only [Array.size_append, List.size_toArray, List.length_nil, size_zeroCells]
   have : (Value.slice none 0 0).cells.size = 1 := rfl
   rw [this]
   omega
 have hdr := hS'.drawn (w.drawn + 1)
 obtain ⟨β2, hS2, h4⟩ := z8G (t := e) (d := .recs 1 []) (vs := []) (cur := ([] : List Value).toArray ++ Builtin.zeroCells (Value.slice none 0 0).cells n ++ Builtin.zeroCells (Value.slice none 0 0).cells (grownCap w n 0 e - n)) hdr h1 h2 h3 (by simp [RC]) (fun i v hv => by simp at hv)
 refine ⟨_, _, z0O hop hc hca hct (by rw [hv1, hv2]; exact hrun), β2, F, hS2.put (.c ?_) (z0o hd)⟩
 exact .own _ _ _ _ _ _ hcap2 hcm (.inr ⟨_, h4, rfl, _, z2i _ _, by rw [hsize]; omega⟩)
theorem zg6 {x : Operand} {t : TypeId} {c : Call} {a : Act} {w : World} {v : Value} {w' : World} (hop : o.op = .call c) (hc : c.callee = .builtin .cap) (ha : c.args = #[x]) (ht : c.argTypes = #[t])
   (h : (Builtin.cap_ #[t] o.type #[a.eval x]).run P w = .ok v w') : (execOp a.eval o).run P w = .ok (.value v) w' := by
 simp only [execOp, hop, resolve, hc, ha, ht, Sem.run_bind, Sem.run_pure, Result.andThen_ok, invoke, builtin]
 simp only [List.map_toArray, List.map_cons, List.map_nil, h, Result.andThen_ok]
theorem zb7 {t e : TypeId} {c : Call} {x : Operand} {ps : List Prop} {dd : Option Nat} (hop : o.op = .call c) (hc : c.callee = .builtin .cap) (ha : c.args.toList = [x]) (hty : c.argTypes.toList = [t]) (hg : o.guard = none) (hdf : z0e o.dst some = some dd) (hd : z08 E.n dd = true)
   (ht : P.underlying t = some (.slice e)) (hx : ox σ x = (ps, lv (.slice none 0 0))) (hp : z03 ps) (hk : WL P E ops Q rest (σ.put dd (lv (.int .i64 0)))) : WL P E ops Q (o :: rest) σ := by
 simp only [z0g, Option.some.injEq] at hdf
 subst hdf
 have hca : c.args = #[x] := by apply Array.toList_inj.1; simpa using ha
 have hct : c.argTypes = #[t] := by apply Array.toList_inj.1; simpa using hty
 refine z2t hg _ (fun a w hS => ?_) hk
 obtain ⟨β, F, hS⟩ := hS
 have hv := oxR hS x
 rw [hx] at hv
 have hv := (hv hp).val
 exact ⟨.int .i64 0, w, zg6 hop hc hca hct (by rw [hv]; simp [Builtin.cap_, run_underlying ht, goInt]), β, F, hS.put (.c (.lf (.v _ rfl))) (z0o hd)⟩
theorem znO {t e : TypeId} {x y : Operand} {ps qs : List Prop} {k : IntKind} {dd : Option Nat} (hop : o.op = .slice t x none (some y) none) (hg : o.guard = none) (hdf : z0e o.dst some = some dd) (hd : z08 E.n dd = true)
   (ht : P.underlying t = some (.slice e)) (hi : (P.info? e).isSome = true) (hx : ox σ x = (ps, lv (.slice none 0 0))) (hy : ox σ y = (qs, lv (.int k 0))) (hp : z03 (ps ++ qs)) (hk : WL P E ops Q rest (σ.put dd (lv (.slice none 0 0)))) : WL P E ops Q (o :: rest) σ := by
 simp only [z0g, Option.some.injEq] at hdf
 subst hdf
 refine z2t hg _ (fun a w hS => ?_) hk
 obtain ⟨β, F, hS⟩ := hS
 have hv := oxR hS x
 rw [hx] at hv
 have hv := (hv hp.left).val
 have hw := oxR hS y
 rw [hy] at hw
 have hw := (hw hp.right).val
 have hrun := z3D (P := P) (w := w) (t := t) (e := e) (a := none) (len := 0) (cap := 0) (l := 0) (h := 0) (m := 0) (lo := none) (hi := some (.int k 0)) (mx := none) ht hi (.inl ⟨rfl, rfl⟩) (Nat.le_refl _) (.inr ⟨k, 0, rfl, by omega, rfl⟩) (Nat.le_refl _) (.inl ⟨rfl, rfl⟩) (Nat.le_refl _) (by simp)
 refine ⟨.slice none 0 0, w, ?_, β, F, hS.put (.c (.lf (.v _ rfl))) (z0o hd)⟩
 simp only [execOp, hop, Option.map_none, Option.map_some, hv, hw, hrun, Sem.run_bind, Result.andThen_ok]
 simp
end
end Go.Sx

namespace Go.Proofs.YtaagjnlkinojcaaGreat
set_option linter.unusedSimpArgs false
set_option linter.unusedVariables false
open Go.Sx
set_option maxRecDepth 10000
abbrev big : Nat := 9223372036854775807
abbrev z8X (n : Int) (l : List Int) : List Int := l.take (min (l.length : Int) n).toNat
abbrev atT (a : AtT) : AtT := (z8X 40 a.1, z8X 200 a.2)
def stT (r : List AtT) : List AtT := (r.take 20).map atT
def nmT (n : List (List AtT)) : List (List AtT) := (n.take 70).map stT
def zb8 (n : List (List AtT)) : List (List AtT) := n.take (min (n.length : Int) 5).toNat
abbrev z6g (g : GnT) : GnT := (g.1, z8X 300 g.2.1, nmT (zb8 g.2.2))
def z7P (l : List GnT) : List GnT := (l.take 20).map z6g
def zm0 (t : Bool) (w : WhT) : Option WhT := if t = true then some (z7P w.1, stT w.2) else none
structure AtI (a : AtT) : Prop where
 o : a.1.length ≤ big
 l : a.2.length ≤ big
 w : WfB a.2
def StI (r : List AtT) : Prop := r.length ≤ big ∧ ∀ a ∈ r, AtI a
def NmI (n : List (List AtT)) : Prop := n.length ≤ big ∧ ∀ r ∈ n, StI r
structure GnI (g : GnT) : Prop where
 l : g.2.1.length ≤ big
 w : WfB g.2.1
 n : NmI g.2.2
def zg7 (l : List GnT) : Prop := l.length ≤ big ∧ ∀ g ∈ l, GnI g
theorem z4L {α β : Type} (f : α → β) (l : List α) (a : α) : (l ++ [a]).map f = l.map f ++ [f a] := List.map_append
set_option maxHeartbeats 8000000 in
theorem z9D (r : List AtT) (h : StI r) : Ct Tryz.prog 69 [z2Q r] [] (z2Q (stT r)) [] [] := by
 have hms : (r.map atL).length = r.length := List.length_map ..
 have hrl := h.1
 refine z00 Tryz.func69 rfl rfl rfl rfl rfl (fun E hn hb => ?_)
 repeat refine nx ?_
 refine z1a 3 900 2 (.recs 2 []) rfl rfl (.inr (.inr ⟨_, rfl⟩)) ?_
 refine z0d (St.le_of (l := [(0, z2Q r), (3, .c (.own 900 2 0 (((r.take 0).map atT).map atL).length)), (4, lv (.int .i64 ((0 : Nat) : Int)))]) (h := [(900, .row (.recs 2 (((r.take 0).map atT).map atL)))]) (by refine ⟨?_, ?_⟩ <;> (repeat' (first | exact trivial | exact rfl | refine ⟨?_, ?_⟩)) <;> first | exact rfl | (simp; done) | skip)) ?_
 refine z0l (ι := {i : Nat // i ≤ r.length ∧ i ≤ 20}) (fun i => St.of [(0, z2Q r), (3, .c (.own 900 2 0 (((r.take i.1).map atT).map atL).length)), (4, lv (.int .i64 (i.1 : Int)))] [(900, .row (.recs 2 (((r.take i.1).map atT).map atL)))]) (fun i => 20 - i.1) (fun i => ?_) ⟨0, Nat.zero_le _, Nat.zero_le _⟩
 obtain ⟨i, hi, hi20⟩ := i
 dsimp only
 have hmt : (((r.take i).map atT).map atL).length = i := by rw [List.length_map, List.length_map, List.length_take]; omega
 by_cases hc : i < r.length ∧ i < 20
 · obtain ⟨hc1, hc2⟩ := hc
   have hq : r.getD (i : Int).toNat default = r.getD i atD := rfl
   have hab := h.2 _ (z1s (d := atD) hc1)
   have hsn := z1C (d := atD) hc1
   generalize r.getD i atD = a at *
   obtain ⟨o, v⟩ := a
   have ho := hab.o
   have hv := hab.l
   dsimp only at ho hv
   repeat (first | refine nxw ?_ | rw [hq])
   refine duF [101] [(17, 101), (17, 900)] ?_
   repeat (first | refine nx ?_ | rw [hq])
   refine z4T (fun a w h => SR.mv 101 900 rfl rfl rfl rfl rfl h) ?_
   refine z0a ⟨i + 1, by omega, by omega⟩ (by dsimp only; omega) (St.le_of ⟨⟨rfl, ?_, rfl⟩, ?_⟩)
   · dsimp only; rw [hsn, z4L, z2k]; rfl
   · dsimp only; rw [hsn, z4L, z2k]; rfl
 · have e : r.take i = r.take 20 := by
     rcases Nat.lt_or_ge i r.length with h1 | h1
     · obtain rfl : i = 20 := by omega
       rfl
     · rw [List.take_of_length_le h1, List.take_of_length_le (by omega)]
   rw [e]
   by_cases h1 : i < r.length
   · repeat refine nx ?_
     refine z2C 2 ?_
     exact rt1 []
   · repeat refine nx ?_
     refine z2C 2 ?_
     exact rt1 []
set_option maxHeartbeats 8000000 in
theorem z9E (n : List (List AtT)) (h : NmI n) : Ct Tryz.prog 22 [nmV n] [] (nmV (nmT n)) [] [] := by
 have hms : (nmR n).length = n.length := List.length_map ..
 have hrl := h.1
 refine z00 Tryz.func22 rfl rfl rfl rfl rfl (fun E hn hb => ?_)
 repeat refine nx ?_
 refine z1a 3 900 1 (.recs 1 []) rfl rfl (.inr (.inr ⟨_, rfl⟩)) ?_
 refine z0d (St.le_of (l := [(0, nmV n), (3, .c (.own 900 1 0 (nmR ((n.take 0).map stT)).length)), (4, lv (.int .i64 ((0 : Nat) : Int)))]) (h := [(900, .row (.recs 1 (nmR ((n.take 0).map stT))))]) (by refine ⟨?_, ?_⟩ <;> (repeat' (first | exact trivial | exact rfl | refine ⟨?_, ?_⟩)) <;> first | exact rfl | (simp; done) | skip)) ?_
 refine z0l (ι := {i : Nat // i ≤ n.length ∧ i ≤ 70}) (fun i => St.of [(0, nmV n), (3, .c (.own 900 1 0 (nmR ((n.take i.1).map stT)).length)), (4, lv (.int .i64 (i.1 : Int)))] [(900, .row (.recs 1 (nmR ((n.take i.1).map stT))))]) (fun i => 70 - i.1) (fun i => ?_) ⟨0, Nat.zero_le _, Nat.zero_le _⟩
 obtain ⟨i, hi, hi70⟩ := i
 dsimp only
 have hmt : (nmR ((n.take i).map stT)).length = i := by rw [List.length_map, List.length_map, List.length_take]; omega
 by_cases hc : i < n.length ∧ i < 70
 · obtain ⟨hc1, hc2⟩ := hc
   have hq : n.getD (i : Int).toNat [] = n.getD i [] := rfl
   have hof := z9D _ (h.2 _ (z1s (d := []) hc1))
   have hsn := z1C (d := []) hc1
   generalize n.getD i [] = r at *
   repeat (first | refine nx ?_ | rw [hq])
   refine z0a ⟨i + 1, by omega, by omega⟩ (by dsimp only; omega) (St.le_of ⟨⟨rfl, ?_, rfl⟩, ?_⟩)
   · dsimp only; rw [hsn, z4L, z2j]; rfl
   · dsimp only; rw [hsn, z4L, z2j]; rfl
 · have e : n.take i = n.take 70 := by
     rcases Nat.lt_or_ge i n.length with h1 | h1
     · obtain rfl : i = 70 := by omega
       rfl
     · rw [List.take_of_length_le h1, List.take_of_length_le (by omega)]
   rw [e]
   by_cases h1 : i < n.length
   · repeat refine nx ?_
     refine z2C 2 ?_
     exact rt1 []
   · repeat refine nx ?_
     refine z2C 2 ?_
     exact rt1 []
theorem zey {n : List (List AtT)} (h : NmI n) : NmI (zb8 n) :=
 ⟨Nat.le_trans (List.length_take_le' ..) h.1, fun r hr => h.2 r (List.mem_of_mem_take hr)⟩
set_option maxHeartbeats 8000000 in
theorem zg8 (g : GnT) (h : GnI g) : Ct Tryz.prog 131 [gnA g] [] (gnA (z6g g)) [] [] := by
 have hof := z9E _ (zey h.n)
 have hbl := h.l
 have hnl := h.n.1
 obtain ⟨k, b, n⟩ := g
 dsimp only at hof hbl hnl
 have hms : (nmR n).length = n.length := List.length_map ..
 have e : .recs 1 ((nmR n).take (min ((nmR n).length : Int) 5).toNat) = nmL (zb8 n) := by rw [hms, ← List.map_take]; rfl
 rw [nmV, ← e] at hof
 refine z00 Tryz.func131 rfl rfl rfl rfl rfl (fun E hn hb => ?_)
 repeat refine nx ?_
 exact rt1 []
theorem zg9 (l : List GnT) (h : zg7 l) : Ct Tryz.prog 68 [gnV l] [] (gnV (z7P l)) [] [] := by
 have hml : (gnR l).length = l.length := List.length_map ..
 have hll := h.1
 refine z00 Tryz.func68 rfl rfl rfl rfl rfl (fun E hn hb => ?_)
 repeat refine nx ?_
 refine z1a 3 900 3 (.recs 3 []) rfl rfl (.inr (.inr ⟨_, rfl⟩)) ?_
 refine z0d (St.le_of (l := [(0, gnV l), (3, .c (.own 900 3 0 (gnR ((l.take 0).map z6g)).length)), (4, lv (.int .i64 ((0 : Nat) : Int)))]) (h := [(900, .row (.recs 3 (gnR ((l.take 0).map z6g))))]) (by refine ⟨?_, ?_⟩ <;> (repeat' (first | exact trivial | exact rfl | refine ⟨?_, ?_⟩)) <;> first | exact rfl | (simp; done) | skip)) ?_
 refine z0l (ι := {i : Nat // i ≤ l.length ∧ i ≤ 20}) (fun i => St.of [(0, gnV l), (3, .c (.own 900 3 0 (gnR ((l.take i.1).map z6g)).length)), (4, lv (.int .i64 (i.1 : Int)))] [(900, .row (.recs 3 (gnR ((l.take i.1).map z6g))))]) (fun i => 20 - i.1) (fun i => ?_) ⟨0, Nat.zero_le _, Nat.zero_le _⟩
 obtain ⟨i, hi, hi20⟩ := i
 dsimp only
 have hmt : (gnR ((l.take i).map z6g)).length = i := by rw [List.length_map, List.length_map, List.length_take]; omega
 by_cases hc : i < l.length ∧ i < 20
 · obtain ⟨hc1, hc2⟩ := hc
   have hq : l.getD (i : Int).toNat default = l.getD i gn0 := rfl
   have hof := zg8 _ (h.2 _ (z1s (d := gn0) hc1))
   have hsn := z1C (d := gn0) hc1
   generalize l.getD i gn0 = g at *
   obtain ⟨k, b, n⟩ := g
   repeat (first | refine nx ?_ | rw [hq])
   refine z0a ⟨i + 1, by omega, by omega⟩ (by dsimp only; omega) (St.le_of ⟨⟨rfl, ?_, rfl⟩, ?_⟩)
   · dsimp only; rw [hsn, z4L, z48]; rfl
   · dsimp only; rw [hsn, z4L, z48]; rfl
 · have e : l.take i = l.take 20 := by
     rcases Nat.lt_or_ge i l.length with h1 | h1
     · obtain rfl : i = 20 := by omega
       rfl
     · rw [List.take_of_length_le h1, List.take_of_length_le (by omega)]
   rw [e]
   by_cases h1 : i < l.length
   · repeat refine nx ?_
     refine z2C 2 ?_
     exact rt1 []
   · repeat refine nx ?_
     refine z2C 2 ?_
     exact rt1 []
structure WhI (w : WhT) : Prop where
 g : zg7 w.1
 s : StI w.2
theorem zdd (t : Bool) (w : WhT) (h : WhI w) : Ct Tryz.prog 21 [rwA t w] [] (wpV (zm0 t w)) [] [] := by
 have h1 := zg9 _ h.g
 have h2 := z9D _ h.s
 obtain ⟨g, s⟩ := w
 dsimp only at h1 h2
 cases t
 · refine z00 Tryz.func21 rfl rfl rfl rfl rfl (fun E hn hb => ?_)
   repeat refine nx ?_
   exact rt1 []
 · refine z00 Tryz.func21 rfl rfl rfl rfl rfl (fun E hn hb => ?_)
   repeat (first | refine nxw ?_ | refine duF [77] [(7, 77)] ?_)
   repeat (first | refine nx ?_ | refine ztH hn ?_)
   refine z4T (fun a w h => SR.frp 2 (ls := [.recs 3 (gnR (z7P g)), z3h (stT s)]) rfl rfl hb rfl rfl h) ?_
   exact rt1 []
end Go.Proofs.YtaagjnlkinojcaaGreat

namespace Go.Proofs.YtaagjnlkinojcaaGreat
set_option linter.unusedSimpArgs false
set_option linter.unusedVariables false
open Go Go.Sx
set_option maxRecDepth 10000
theorem z8x {α : Type} (f : α → List Int) (B : Nat) : ∀ l : List α, (∀ x ∈ l, (f x).length ≤ B) → (l.flatMap f).length ≤ l.length * B
 | [], _ => by simp
 | a :: l, h => by
   have h1 := h a (List.mem_cons_self ..)
   have h2 := z8x f B l fun x hx => h x (List.mem_cons_of_mem _ hx)
   rw [List.flatMap_cons, List.length_append, List.length_cons, Nat.add_mul]
   omega
theorem zm1 {a : AtT} (h : z1h a = true) (hl : a.2.length ≤ 200) : (atW a).length ≤ 450 := by
 unfold z1h at h
 rw [Bool.and_eq_true] at h
 have h1 := z33 h.1
 have h2 := z1p (ofT 6) (z0p (z0P a.1))
 have h3 := z1p (ofT 16) ((z16 a.1).1 ++ a.2)
 have e : (z16 a.1).1 = z0i (ofT 6) (z0p (z0P a.1)) := by unfold z16; rw [if_pos h.1]
 unfold atW
 rw [e] at h3 ⊢
 rw [List.length_append] at h3
 omega
theorem zga {r : List AtT} (h : z0B r = true) (hl : ∀ a ∈ r, a.2.length ≤ 200) : (z0m r).length ≤ 7300 := by
 unfold z0B at h
 simp only [Bool.and_eq_true, decide_eq_true_iff, List.all_eq_true] at h
 obtain ⟨⟨⟨h1, h2⟩, h3⟩, h4⟩ := h
 have h5 := z8x atW 450 r fun a ha => zm1 (h3 a ha) (hl a ha)
 have h6 := z1p (ofT 17) (r.flatMap atW)
 have h7 : r.length * 450 ≤ 16 * 450 := Nat.mul_le_mul_right _ h2
 unfold z0m
 omega
theorem zgb {n : List (List AtT)} {m : Nat} (hm : n.length ≤ m) (h : ∀ r ∈ n, z0B r = true) (hl : ∀ r ∈ n, ∀ a ∈ r, a.2.length ≤ 200) : (n.flatMap z0m).length ≤ m * 7300 := by
 have h5 := z8x z0m 7300 n fun r hr => zga (h r hr) (hl r hr)
 exact Nat.le_trans h5 (Nat.mul_le_mul_right _ hm)
theorem z8y {n : List (List AtT)} (h : z0F n = true) : n.length ≤ 64 ∧ ∀ r ∈ n, z0B r = true := by
 unfold z0F at h
 rwa [Bool.and_eq_true, decide_eq_true_iff, List.all_eq_true] at h
structure GnS (g : GnT) : Prop where
 b : g.2.1.length ≤ 300
 n : g.2.2.length ≤ 5
 a : ∀ r ∈ g.2.2, ∀ a ∈ r, a.2.length ≤ 200
theorem zc1 {g : GnT} (h : z0Q g = true) (hs : GnS g) : (g.2.2.flatMap z0m).length ≤ 36500 := by
 obtain ⟨h1, h2, h3, h4⟩ := z3Z h
 by_cases hk : g.1 = 4
 · have hno : z0F g.2.2 = true := by
     unfold z0Q at h
     rw [if_pos hk, Bool.and_eq_true] at h
     exact h.2
   exact zgb hs.n (z8y hno).2 hs.a
 · rw [h4 hk]
   exact Nat.zero_le _
theorem zhy {g : GnT} (h : z0Q g = true) (hs : GnS g) : (z0Y g).length ≤ 36600 := by
 have h1 := zc1 h hs
 have h2 := z1p (ofT 16) (g.2.2.flatMap z0m)
 have h3 := z1p (2, g.1, z1G g.1) (if g.1 = 4 then z1u g.2.2 else g.2.1)
 have h4 := hs.b
 unfold z0Y
 split at h3
 · rw [if_pos ‹_›]
   unfold z1u at *
   omega
 · rw [if_neg ‹_›]
   omega
theorem zgc {l : List GnT} (h : ∀ g ∈ l, z0Q g = true) (hl : l.length ≤ 20) (hs : ∀ g ∈ l, GnS g) : (l.flatMap z0Y).length ≤ 732000 := by
 have h5 := z8x z0Y 36600 l fun g hg => zhy (h g hg) (hs g hg)
 have h7 : l.length * 36600 ≤ 20 * 36600 := Nat.mul_le_mul_right _ hl
 omega
end Go.Proofs.YtaagjnlkinojcaaGreat

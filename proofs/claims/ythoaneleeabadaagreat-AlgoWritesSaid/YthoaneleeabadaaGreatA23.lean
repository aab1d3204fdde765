/-
  What is written is read as it was: arcs, oids, algorithms, bit strings, keys. Plain.
-/
import Derived.Test.YthoaneleeabadaaGreatA14
import Derived.Test.YthoaneleeabadaaGreatA16
import Derived.Test.YthoaneleeabadaaGreatA13
import Derived.Test.YthoaneleeabadaaGreatA12
import Derived.Test.YthoaneleeabadaaGreatM1
import Derived.Test.YthoaneleeabadaaGreatD8
namespace Go.Proofs.YthoaneleeabadaaGreat
set_option linter.unusedSimpArgs false
set_option linter.unusedVariables false
open Go.Sx
set_option maxRecDepth 10000
theorem dlg1 {P : Program} {E : Env} {ops : Array Oper} {o : Oper} {σ : St} {ns b own : List Nat} {bs : List (List Nat × List Nat)} {l : List Oper} {K : St → Prop} {t e : TypeId} {sz by_ n s nt : Nat} {parts : Array (Nat × Operand)} {ps : List Prop} {out : List Cell} {d : Leaf} {dd : Option Nat} {i : Nat} {g G : Bool} (hn : E.n = nt) (hk : DrawU P E ops ns bs l (σ.put dd (.cnd G (.c (.lf d)))) K) (hop : o.op = .buildSlice t n parts := by exact rfl) (hg : o.guard = some (i, g) := by exact rfl) (hG : guardC ops ⟨σ.tm, fgt b σ.hp⟩ i g = some G := by exact rfl) (hdf : forceO o.dst some = some dd := by exact rfl) (hd : dstOk nt dd = true := by exact rfl)
    (hE : Elt P t e sz by_ := by exact elt_mk rfl rfl rfl) (hs : forceSz sz some = some s := by exact rfl) (hf : fillA (fun i => some (i * s, s)) (List.replicate (n * s) .un) (parts.toList.map fun (i, x) => (i, ox ⟨σ.tm, fgt b σ.hp⟩ x)) = some (ps, out) := by exact rfl) (hdd : forceDat (dataOf P e s n out) some = some d := by exact rfl) (hnn : n * s ≤ 16777216 ∧ n ≤ 16777216 ∧ lenD d = n ∧ szD d = s := by exact ⟨by decide, by decide, rfl, rfl⟩)
    (hz : zeroOk P e := by first | (simp; done) | fail) (hp : AllP ps := by first | trivial | (simp; done)) : DrawU P E ops ns ((b, own) :: bs) (o :: l) σ K := by
  obtain rfl := forceSz_some hs
  exact DU_op hdf (by rw [hn]; exact hd) (ops_ofG hg hG fun _ => opys_lit hop hE hz hf hp (forceDat_some hdd) hnn) hk
def exB : List Int := [48, 13, 6, 9, 96, 134, 72, 1, 101, 3, 4, 2, 1, 5, 0]
def exT : List Int := [51, 48, 48, 100, 48, 54, 48, 57, 54, 48, 56, 54, 52, 56, 48, 49, 54, 53, 48, 51, 48, 52, 48, 50, 48, 49, 48, 53, 48, 48]
theorem exT_s : strOfNums exT = ByteArray.mk #[51, 48, 48, 100, 48, 54, 48, 57, 54, 48, 56, 54, 52, 56, 48, 49, 54, 53, 48, 51, 48, 52, 48, 50, 48, 49, 48, 53, 48, 48] := by decide +kernel
theorem exT_u : unhL exT 15 = exB := by decide +kernel
theorem exT_x : ∀ i, i < exT.length → hexV (exT.getD i 0) ≤ 15 ∧ 0 ≤ hexV (exT.getD i 0) := by decide +kernel
theorem ex_a : algR exB 0 = ([2, 16, 840, 1, 101, 3, 4, 2, 1], [5, 0], 0, 15) := by decide +kernel
theorem ex_x : algR [48, 3, 6, 1, 42] 0 = ([1, 2], [], 0, 5) := by decide +kernel
theorem ex_r1 : rightG [2, 16, 840, 1, 101, 3, 4, 2, 1] [5, 0] = true := by decide +kernel
theorem ex_r2 : rightG [1, 2, 840, 113549, 2, 9] [5, 0] = true := by decide +kernel
theorem ex_ne : ¬ (wrG [2, 16, 840, 1, 101, 3, 4, 2, 1] [5, 0]).1 = (wrG [1, 2, 840, 113549, 2, 9] [5, 0]).1 := by decide +kernel
theorem wf18 {l : List Int} (h : (l.all fun x => decide (0 ≤ x) && decide (x < 256)) = true) : WfB l := fun x hx => by
  have := List.all_eq_true.1 h x hx
  simpa using this
set_option maxHeartbeats 8000000 in
theorem known18_ok : Ct Tryz.prog 13 [] [] (lv (.bool true)) [] [] := by
  have hun := unhex_ok exT 15 (by decide) (by decide) (wf18 (by decide +kernel)) exT_x
  rw [exT_s, exT_u] at hun
  have hc1 := curnew_ok exB (by decide)
  have hr1 := readalg_ok exB 0 (Nat.zero_le _) (by decide) (wf18 (by decide +kernel))
  rw [ex_a] at hr1
  have hc2 := curnew_ok [48, 3, 6, 1, 42] (by decide)
  have hr2 := readalg_ok [48, 3, 6, 1, 42] 0 (Nat.zero_le _) (by decide) (wf18 (by decide +kernel))
  rw [ex_x] at hr2
  dsimp only at hr1 hr2
  have hw5 : WfB [5, 0] := wf18 (by decide +kernel)
  have hsa := samealg_ok [2, 16, 840, 1, 101, 3, 4, 2, 1] [5, 0] [2, 16, 840, 1, 101, 3, 4, 2, 1] [5, 0] (by decide) (by decide) hw5 (by decide) (by decide) hw5 ex_r1 ex_r1
  rw [decide_eq_true rfl] at hsa
  have hsb := samealg_ok [2, 16, 840, 1, 101, 3, 4, 2, 1] [5, 0] [1, 2, 840, 113549, 2, 9] [5, 0] (by decide) (by decide) hw5 (by decide) (by decide) hw5 ex_r1 ex_r2
  rw [decide_eq_false ex_ne] at hsb
  have hs1 := sha256_ok
  have hs2 := hmac_ok
  have hro := refSame_ok [1, 2] [1, 2] (by decide) (by decide)
  rw [decide_eq_true rfl] at hro
  have htn := tnew_ok
  have hf0 : findM [] (strOfNums [110]) = none := rfl
  have htp := tput_ok [] [110] [115] (by decide) (by decide) (by decide) hf0
  have hf1 : findM (setM [] (strOfNums [110]) (.ints .u8 [115])) (strOfNums [110]) = some (.ints .u8 [115]) := by simp [setM, findM]
  have htg := tget_ok (setM [] (strOfNums [110]) (.ints .u8 [115])) [110] [115] (by decide) (by decide) hf1
  refine Ct_intro Tryz.func13 rfl rfl rfl rfl rfl (fun E hn hb => ?_)
  repeat refine nxm ?_
  refine s_call [81] hr1 rfl rfl (by rw [hn]; rfl) rfl rfl (by trivial) ⟨rfl, rfl, (by simp [ordL]), rfl⟩ ?_
  repeat (first | refine s_litC rfl rfl rfl (by rw [hn]; rfl) rfl rfl (by rw [hn]; rfl) (elt_mk Tryz.underlying23 rfl rfl) Tryz.underlying5 zok5 rfl (by first | trivial | (simp; done) | (simp; omega) | (simp at *; done) | (simp at *; omega)) rfl ⟨by decide, by decide, rfl⟩ ?_ | refine nxm ?_ | refine dlg1 hn ?_)
  refine rt2 [] (congrArg (fun x => lv (.bool x)) ?_) trivial
  decide +kernel
end Go.Proofs.YthoaneleeabadaaGreat

namespace Go.Proofs.YthoaneleeabadaaGreat
set_option linter.unusedSimpArgs false
set_option linter.unusedVariables false
open Go.Sx
set_option maxRecDepth 10000
theorem ofalg_ok (o m : List Int) : Ct Tryz.prog 19 [algA o m] [] (algA o m) [] [] := by
  refine Ct_intro Tryz.func19 rfl rfl rfl rfl rfl (fun E hn hb => ?_)
  repeat refine nx ?_
  exact rt1 []
theorem ofpub_ok (o m n : List Int) : Ct Tryz.prog 10 [pubA o m n] [] (pubA o m n) [] [] := by
  have h := ofalg_ok o m
  refine Ct_intro Tryz.func10 rfl rfl rfl rfl rfl (fun E hn hb => ?_)
  repeat refine nx ?_
  exact rt1 []
theorem likealg_ok (o m : List Int) (ho : o.length ≤ 1000000) (hm : m.length ≤ 1000000) : Ct Tryz.prog 18 [algA o m, algA o m] [] (lv (.bool true)) [] [] := by
  have h1 := refSame_ok o o ho ho
  rw [decide_eq_true rfl] at h1
  have h2 := same_ok m m hm hm
  rw [decide_eq_true rfl] at h2
  refine Ct_intro Tryz.func18 rfl rfl rfl rfl rfl (fun E hn hb => ?_)
  repeat refine nx ?_
  refine rt2 [] (congrArg (fun x => lv (.bool x)) ?_) trivial; (simp [eqCs, Cell.kill, Cell.kill1])
theorem likepub_ok (o m n : List Int) (ho : o.length ≤ 1000000) (hm : m.length ≤ 1000000) (hn2 : n.length ≤ 1000000) : Ct Tryz.prog 32 [pubA o m n, pubA o m n] [] (lv (.bool true)) [] [] := by
  have h1 := likealg_ok o m ho hm
  have h2 := same_ok n n hn2 hn2
  rw [decide_eq_true rfl] at h2
  refine Ct_intro Tryz.func32 rfl rfl rfl rfl rfl (fun E hn hb => ?_)
  repeat refine nx ?_
  refine rt2 [] (congrArg (fun x => lv (.bool x)) ?_) trivial; (simp [eqCs, Cell.kill, Cell.kill1])
end Go.Proofs.YthoaneleeabadaaGreat

namespace Go.Proofs.YthoaneleeabadaaGreat
set_option linter.unusedSimpArgs false
set_option linter.unusedVariables false
open Go.Sx
set_option maxRecDepth 10000
theorem snoc_inj {a b : List Int} {x y : Int} (h : a ++ [x] = b ++ [y]) : a = b ∧ x = y := by
  have := List.append_inj' h rfl
  exact ⟨this.1, by simpa using this.2⟩
end Go.Proofs.YthoaneleeabadaaGreat

namespace Go.Proofs.YthoaneleeabadaaGreat
set_option linter.unusedSimpArgs false
set_option linter.unusedVariables false
open Go.Sx
set_option maxRecDepth 10000
theorem rightS_u {u : Int} {l : List Int} (h : rightS u l = true) : 0 ≤ u ∧ u ≤ 7 := by
  unfold rightS at h
  by_cases h0 : l = []
  · rw [if_pos h0] at h; simp at h; omega
  · rw [if_neg h0] at h; simp at h; omega
theorem bcont_ok (u : Int) (l : List Int) (hl : l.length ≤ 1000000) (hw : WfB l) : Ct Tryz.prog 110 [bitA u l] [] (.tup [B8 (if rightS u l = true then u :: l else []), lv (.int .i64 (if rightS u l = true then 0 else 1))]) [] [] := by
  have hr := bright_ok u l hl hw
  cases hg : rightS u l with
  | false =>
    rw [hg] at hr
    rw [if_neg (by simp), if_neg (by simp)]
    refine Ct_intro Tryz.func110 rfl rfl rfl rfl rfl (fun E hn hb => ?_)
    repeat refine nx ?_
    exact rtU []
  | true =>
    rw [hg] at hr
    have hu := rightS_u hg
    rw [if_pos rfl, if_pos rfl]
    refine Ct_intro Tryz.func110 rfl rfl rfl rfl rfl (fun E hn hb => ?_)
    repeat (first | refine lo1 ?_ | refine nx ?_)
    refine frzN 2 ?_
    exact rt1 []
def wrS (u : Int) (l : List Int) : List Int × Int := if rightS u l = true then (wrapL (ofT 3) (u :: l), 0) else ([], 1)
theorem bwrite_ok (u : Int) (l : List Int) (hl : l.length ≤ 100000) (hw : WfB l) : Ct Tryz.prog 61 [bitA u l] [] (.tup [B8 (wrS u l).1, lv (.int .i64 (wrS u l).2)]) [] [] := by
  have hc := bcont_ok u l (by omega) hw
  have h1 := headof_ok 3
  unfold wrS
  cases hg : rightS u l with
  | false =>
    rw [hg, if_neg (by simp), if_neg (by simp)] at hc
    rw [if_neg (by simp)]
    refine Ct_intro Tryz.func61 rfl rfl rfl rfl rfl (fun E hn hb => ?_)
    repeat refine nx ?_
    exact rtU []
  | true =>
    rw [hg, if_pos rfl, if_pos rfl] at hc
    rw [if_pos rfl]
    have h2 := wrap_ok (ofT 3) [u :: l] (by decide) (by simp) (by simp; omega)
    rw [show [u :: l].flatten = u :: l by simp] at h2
    refine Ct_intro Tryz.func61 rfl rfl rfl rfl rfl (fun E hn hb => ?_)
    repeat refine nx ?_
    exact rt1 []
theorem rightS_zero (l : List Int) : rightS 0 l = true := by
  unfold rightS
  split
  · simp
  · simp
def wrK (o m n : List Int) : List Int × Int := if rightK o m n = true then (wrapL (ofT 16) (wrapL (ofT 16) (wrapL (ofT 6) (arcsL (numsL o)) ++ m) ++ wrapL (ofT 3) (0 :: n)), 0) else ([], 1)
theorem wrpub_ok (o m n : List Int) (ho : o.length ≤ 1000000) (hm : m.length ≤ 100000) (hn2 : n.length ≤ 1000000) (hw : WfB m) (hw2 : WfB n) : Ct Tryz.prog 12 [pubA o m n] [] (.tup [B8 (wrK o m n).1, lv (.int .i64 (wrK o m n).2)]) [] [] := by
  have hr := rightpub_ok o m n ho hm hn2 hw
  unfold wrK
  cases hg : rightK o m n with
  | false =>
    rw [hg] at hr
    rw [if_neg (by simp)]
    refine Ct_intro Tryz.func12 rfl rfl rfl rfl rfl (fun E hn hb => ?_)
    repeat refine nx ?_
    exact rtU []
  | true =>
    rw [hg] at hr
    rw [if_pos rfl]
    have h1 := hg
    unfold rightK at h1
    simp only [Bool.and_eq_true, decide_eq_true_eq] at h1
    have ha := wralg_ok o m ho hm hw
    have hs := bwrite_ok 0 n (by omega) hw2
    unfold wrG at ha
    unfold wrS at hs
    rw [if_pos h1.1] at ha
    rw [if_pos (rightS_zero n)] at hs
    have l1 := whole_len (rightG_o h1.1)
    have l2 := wrap_len (ofT 16) (wrapL (ofT 6) (arcsL (numsL o)) ++ m)
    have l3 := wrap_len (ofT 3) (0 :: n)
    simp only [List.length_append, List.length_cons] at l2 l3
    have hsq := sequence_ok [wrapL (ofT 16) (wrapL (ofT 6) (arcsL (numsL o)) ++ m), wrapL (ofT 3) (0 :: n)] (by simp) (by simp; omega)
    rw [show [wrapL (ofT 16) (wrapL (ofT 6) (arcsL (numsL o)) ++ m), wrapL (ofT 3) (0 :: n)].flatten = wrapL (ofT 16) (wrapL (ofT 6) (arcsL (numsL o)) ++ m) ++ wrapL (ofT 3) (0 :: n) by simp] at hsq
    generalize wrapL (ofT 16) (wrapL (ofT 6) (arcsL (numsL o)) ++ m) = W at *
    generalize wrapL (ofT 3) (0 :: n) = V at *
    refine Ct_intro Tryz.func12 rfl rfl rfl rfl rfl (fun E hn hb => ?_)
    repeat refine nx ?_
    exact rt1 []
end Go.Proofs.YthoaneleeabadaaGreat

namespace Go.Proofs.YthoaneleeabadaaGreat
set_option linter.unusedSimpArgs false
set_option linter.unusedVariables false
open Go.Sx
set_option maxRecDepth 10000
theorem nxA_more : ∀ (k N : Nat) (L : List Int), N < k → 0 < N → N ≤ 16777215 → arcL N = L ++ [((N % 128 : Nat) : Int)] → ∀ (r : List Int) (p : Nat), nxA (L ++ ([((N % 128 : Nat) : Int) + 128] ++ r)) p 0 true = nxA r (p + L.length + 1) N false
  | 0, _, _, h, _, _, _ => by omega
  | k + 1, N, L, h, h0, hm, hL => by
    intro r p
    by_cases c : N < 128
    · rw [arcL_small c] at hL
      have : L = [] := by
        have := congrArg List.length hL
        simp at this
        exact this
      subst this
      have e : N % 128 = N := Nat.mod_eq_of_lt c
      rw [e]
      show nxA (((N : Int) + 128) :: r) p 0 true = _
      rw [nxA, if_neg (by simp; omega), if_neg (by omega), if_neg (by omega)]
      have e2 : (128 : Int) * 0 + ((N : Int) + 128) % 128 = N := by omega
      rw [e2]
      rfl
    · obtain ⟨L', k1, k2⟩ := arcL_big c (by omega)
      rw [k2] at hL
      obtain ⟨rfl, _⟩ := snoc_inj hL
      have ih := nxA_more k (N / 128) L' (by omega) (by omega) (by omega) k1 ([((N % 128 : Nat) : Int) + 128] ++ r) p
      rw [List.append_assoc]
      rw [ih]
      show nxA ((((N % 128 : Nat) : Int) + 128) :: r) _ _ false = _
      rw [nxA, if_neg (by simp), if_neg (by omega), if_neg (by omega)]
      have e2 : (128 : Int) * ((N / 128 : Nat) : Int) + (((N % 128 : Nat) : Int) + 128) % 128 = N := by omega
      rw [e2]
      simp
      rfl
theorem nxA_fwd {N : Nat} (hm : N ≤ 2147483647) (r : List Int) (p : Nat) : nxA (arcL N ++ r) p 0 true = ((N : Int), 0, p + (arcL N).length) := by
  by_cases c : N < 128
  · rw [arcL_small c]
    show nxA ((N : Int) :: r) p 0 true = _
    rw [nxA, if_neg (by simp; omega), if_neg (by omega), if_pos (by omega)]
    have e2 : (128 : Int) * 0 + (N : Int) % 128 = N := by omega
    rw [e2]
    rfl
  · obtain ⟨L', k1, k2⟩ := arcL_big c (by omega)
    have := nxA_more (N / 128 + 1) (N / 128) L' (by omega) (by omega) (by omega) k1 ([((N % 128 : Nat) : Int)] ++ r) p
    rw [k2, List.append_assoc, List.append_assoc, this]
    show nxA (((N % 128 : Nat) : Int) :: r) _ _ false = _
    rw [nxA, if_neg (by simp), if_neg (by omega), if_pos (by omega)]
    have e2 : (128 : Int) * ((N / 128 : Nat) : Int) + ((N % 128 : Nat) : Int) % 128 = N := by omega
    rw [e2]
    simp
    omega
theorem arcL_pos (N : Nat) : 0 < (arcL N).length := by simp [arcL]
theorem prA_fwd (l : List Int) : ∀ (ns : List Int) (k p : Nat) (o : List Int), (∀ x ∈ ns, 0 ≤ x ∧ x ≤ 2147483647) → l.drop p = arcsL ns → p ≤ l.length → l.length - p < k → 2 ≤ o.length → o.length + ns.length ≤ 32 → prA k l p o = (o ++ ns, 0)
  | [], k + 1, p, o, hx, hd, hp, hk, ho, hs => by
    have : l.length ≤ p := by simpa [arcsL] using hd
    rw [prA, if_neg (by omega), List.append_nil]
  | x :: ns, k + 1, p, o, hx, hd, hp, hk, ho, hs => by
    have hd' : l.drop p = arcL x.toNat ++ arcsL ns := hd
    have hlen := congrArg List.length hd'
    have hpos := arcL_pos x.toNat
    have hx0 := hx x (List.mem_cons_self ..)
    rw [List.length_drop, List.length_append] at hlen
    simp only [List.length_cons] at hs
    have hnx := nxA_fwd (N := x.toNat) (by omega) (arcsL ns) p
    have e0 : ((x.toNat : Nat) : Int) = x := by omega
    rw [prA, if_pos (by omega), hd', hnx]
    dsimp only
    rw [if_pos rfl, if_neg (by omega), if_neg (by omega), e0]
    have ih := prA_fwd l ns k (p + (arcL x.toNat).length) (o ++ [x]) (fun y hy => hx y (List.mem_cons_of_mem _ hy)) (by rw [← List.drop_drop, hd', List.drop_left]) (by omega) (by omega) (by simp; omega) (by simp; omega)
    rw [ih, List.append_assoc]
    rfl
theorem oidP_fwd {o : List Int} (h : rightO o = true) : oidP (arcsL (numsL o)) = (o, 0) := by
  obtain ⟨a, b, t, rfl, h1, h2, h3, h4, h5, h6, h7⟩ := right_nums h
  have hd : arcsL (numsL (a :: b :: t)) = arcL (40 * a + b).toNat ++ arcsL t := rfl
  have hpos := arcL_pos (40 * a + b).toNat
  rw [hd]
  have hne : arcL (40 * a + b).toNat ++ arcsL t ≠ [] := by
    intro hh
    have := congrArg List.length hh
    simp at this
    rw [this.1] at hpos
    simp at hpos
  unfold oidP
  rw [if_neg hne]
  have hnx := nxA_fwd (N := (40 * a + b).toNat) (by omega) (arcsL t) 0
  have e0 : (((40 * a + b).toNat : Nat) : Int) = 40 * a + b := by omega
  have hsp : splA (40 * a + b) = [a, b] := by
    unfold splA
    by_cases c : 40 * a + b < 80
    · rw [if_pos c]
      rw [show (40 * a + b) / 40 = a by omega, show (40 * a + b) % 40 = b by omega]
    · rw [if_neg c]
      have : a = 2 := by omega
      subst this
      rw [show (40 : Int) * 2 + b - 80 = b by omega]
  rw [prA, if_pos (by simp; omega), List.drop_zero, hnx]
  dsimp only
  rw [if_pos rfl, if_neg (by simp), if_pos (by rfl), e0, hsp, List.nil_append]
  have := prA_fwd (arcL (40 * a + b).toNat ++ arcsL t) t ((arcL (40 * a + b).toNat ++ arcsL t).length) (0 + (arcL (40 * a + b).toNat).length) [a, b] h6 (by rw [Nat.zero_add, List.drop_left]) (by simp) (by simp; omega) (by simp) (by simp; omega)
  rw [this]
  rfl
theorem oidR_fwd (A C : List Int) {o : List Int} (h : rightO o = true) : oidR (A ++ (wrapL (ofT 6) (arcsL (numsL o)) ++ C)) A.length = (o, A.length + (wrapL (ofT 6) (arcsL (numsL o))).length, 0) := by
  have hl := conO_len h
  unfold oidR
  rw [openP_at A (arcsL (numsL o)) C (ofT 6) (by decide) (by omega)]
  dsimp only
  rw [if_pos rfl, oidP_fwd h]
  rfl
theorem wholesA_mono (l : List Int) : ∀ (n p : Nat) (acc : List (List Int)), (wholesA l n p acc).2 = 0 → acc.length ≤ (wholesA l n p acc).1.length
  | 0, p, acc, _ => by simp [wholesA]
  | n + 1, p, acc, h => by
    rw [wholesA] at h ⊢
    by_cases c : l.length ≤ p
    · rw [if_pos c]; exact Nat.le_refl _
    · rw [if_neg c] at h ⊢
      by_cases e : ¬ (oneP l p).2.2.2.1 = 0
      · rw [if_pos e] at h; exact absurd h e
      · rw [if_neg e] at h ⊢
        have := wholesA_mono l n _ _ h
        simp at this
        omega
theorem wholesA_two (l : List Int) (n p : Nat) (acc : List (List Int)) (h : (wholesA l n p acc).2 = 0) (hp : p < l.length) (hn : 0 < n) : acc.length + 1 ≤ (wholesA l n p acc).1.length := by
  obtain ⟨k, rfl⟩ : ∃ k, n = k + 1 := ⟨n - 1, by omega⟩
  rw [wholesA, if_neg (by omega)] at h ⊢
  by_cases e : ¬ (oneP l p).2.2.2.1 = 0
  · rw [if_pos e] at h; exact absurd h e
  · rw [if_neg e] at h ⊢
    have := wholesA_mono l k _ _ h
    simpa using this
theorem wholes_read {m : List Int} (hw : WfB m) (h0 : (wholesP m 0).2 = 0) (h1 : (wholesP m 0).1.length < 2) (hm : m ≠ []) : (readP m 0).2.2 = 0 ∧ (readP m 0).1.2 = (m.length : Int) - ((readP m 0).2.1 : Int) := by
  have hpos : 0 < m.length := by cases m with | nil => exact absurd rfl hm | cons _ _ => simp
  have hle := readP_le m 0 (Nat.zero_le _)
  have hn0 := (readP_pos m 0 hw).1
  unfold wholesP at h0 h1
  rw [wholesA, if_neg (by omega)] at h0 h1
  by_cases e : ¬ (oneP m 0).2.2.2.1 = 0
  · rw [if_pos e] at h0; exact absurd h0 e
  · rw [if_neg e] at h0 h1
    have h2 : ¬ (oneP m 0).2.2.2.2 < m.length := by
      intro hq
      have := wholesA_two m m.length _ _ h0 hq hpos
      simp at this
      simp at h1
      omega
    unfold oneP at e h2
    by_cases c1 : ¬ (readP m 0).2.2 = 0
    · rw [if_pos c1] at e; exact absurd c1 e
    · rw [if_neg c1] at e h2
      by_cases c2 : (m.length : Int) - (readP m 0).2.1 < (readP m 0).1.2
      · rw [if_pos c2] at e; simp at e
      · rw [if_neg c2] at e h2
        dsimp only at h2
        refine ⟨by simpa using c1, ?_⟩
        omega
theorem parP_fwd {x m : List Int} {p : Nat} (hw : WfB m) (hd : x.drop p = m) (hp : p ≤ x.length) (h0 : (wholesP m 0).2 = 0) (h1 : (wholesP m 0).1.length < 2) : (parP x p).1 = m ∧ (parP x p).2.1 = 0 := by
  unfold parP
  by_cases c : p = x.length
  · rw [if_pos c]
    rw [c, List.drop_length] at hd
    exact ⟨hd, rfl⟩
  · rw [if_neg c]
    have hl : m.length = x.length - p := by rw [← hd]; simp
    have hne : m ≠ [] := by intro h; rw [h] at hl; simp at hl; omega
    have hr := wholes_read hw h0 h1 hne
    have hle := readP_le m 0 (Nat.zero_le _)
    have hs := readP_sh x p 0 hp
    rw [Nat.add_zero, hd] at hs
    rw [hs]
    generalize readP m 0 = R at *
    obtain ⟨⟨t, n⟩, q, e⟩ := R
    unfold shP
    dsimp only at *
    rw [if_pos hr.1, if_neg (by omega), if_neg (by omega)]
    exact ⟨hd, rfl⟩
theorem rightG_m {o m : List Int} (h : rightG o m = true) : (wholesP m 0).2 = 0 ∧ (wholesP m 0).1.length < 2 := by
  unfold rightG at h
  simp at h
  exact ⟨h.2.1, h.2.2⟩
theorem algP_fwd {o m : List Int} (hw : WfB m) (h : rightG o m = true) : (algP (wrapL (ofT 6) (arcsL (numsL o)) ++ m) 0).1 = o ∧ (algP (wrapL (ofT 6) (arcsL (numsL o)) ++ m) 0).2.1 = m ∧ (algP (wrapL (ofT 6) (arcsL (numsL o)) ++ m) 0).2.2.1 = 0 := by
  have ho := oidR_fwd [] m (rightG_o h)
  have hm := rightG_m h
  rw [List.nil_append, List.length_nil, Nat.zero_add] at ho
  have hp := parP_fwd (x := wrapL (ofT 6) (arcsL (numsL o)) ++ m) (p := (wrapL (ofT 6) (arcsL (numsL o))).length) hw List.drop_left (by simp) hm.1 hm.2
  unfold algP
  rw [ho]
  dsimp only
  rw [if_pos rfl, if_pos hp.2]
  exact ⟨rfl, hp.1, rfl⟩
theorem algR_fwd (A C : List Int) {o m : List Int} (hw : WfB m) (h : rightG o m = true) (hm : m.length ≤ 100000) : algR (A ++ (wrapL (ofT 16) (wrapL (ofT 6) (arcsL (numsL o)) ++ m) ++ C)) A.length = (o, m, 0, A.length + (wrapL (ofT 16) (wrapL (ofT 6) (arcsL (numsL o)) ++ m)).length) := by
  have hl := whole_len (rightG_o h)
  have hp := algP_fwd hw h
  unfold algR
  rw [openP_at A _ C (ofT 16) (by decide) (by rw [List.length_append]; omega)]
  dsimp only
  rw [if_pos rfl, if_pos hp.2.2, hp.1, hp.2.1]
theorem bitR_fwd (A C : List Int) {u : Int} {n : List Int} (h : rightS u n = true) (hn : n.length ≤ 100000) : bitR (A ++ (wrapL (ofT 3) (u :: n) ++ C)) A.length = (u, n, A.length + (wrapL (ofT 3) (u :: n)).length, 0) := by
  unfold bitR
  rw [openP_at A _ C (ofT 3) (by decide) (by simp; omega)]
  dsimp only
  rw [if_pos rfl]
  have hs : parS (u :: n) = (u, n, true) := by
    show (if rightS u n = true then (u, n, true) else (0, [], false)) = _
    rw [if_pos h]
  rw [hs]
  rfl
theorem rightK_m {o m n : List Int} (h : rightK o m n = true) : rightG o m = true ∧ 1 ≤ n.length ∧ n.length ≤ 64 := by
  unfold rightK at h
  simp only [Bool.and_eq_true, decide_eq_true_eq] at h
  exact ⟨h.1, h.2.1, h.2.2⟩
theorem pubP_fwd {o m n : List Int} (hw : WfB m) (h : rightK o m n = true) (hm : m.length ≤ 100000) : (pubP (wrapL (ofT 16) (wrapL (ofT 6) (arcsL (numsL o)) ++ m) ++ wrapL (ofT 3) (0 :: n))).1 = (o, m, n) ∧ (pubP (wrapL (ofT 16) (wrapL (ofT 6) (arcsL (numsL o)) ++ m) ++ wrapL (ofT 3) (0 :: n))).2.1 = 0 := by
  have hk := rightK_m h
  have ha := algR_fwd [] (wrapL (ofT 3) (0 :: n)) hw hk.1 hm
  have hb := bitR_fwd (wrapL (ofT 16) (wrapL (ofT 6) (arcsL (numsL o)) ++ m)) [] (rightS_zero n) (by omega)
  rw [List.nil_append, List.length_nil, Nat.zero_add] at ha
  rw [List.append_nil] at hb
  unfold pubP
  rw [ha]
  dsimp only
  rw [if_pos rfl, hb]
  dsimp only
  rw [if_pos rfl, if_neg (by rw [List.length_append]; omega), if_pos ⟨rfl, hk.2.1, hk.2.2⟩]
  exact ⟨rfl, rfl⟩
theorem pubR_fwd (A C : List Int) {o m n : List Int} (hw : WfB m) (h : rightK o m n = true) (hm : m.length ≤ 100000) : pubR (A ++ (wrapL (ofT 16) (wrapL (ofT 16) (wrapL (ofT 6) (arcsL (numsL o)) ++ m) ++ wrapL (ofT 3) (0 :: n)) ++ C)) A.length = ((o, m, n), 0, A.length + (wrapL (ofT 16) (wrapL (ofT 16) (wrapL (ofT 6) (arcsL (numsL o)) ++ m) ++ wrapL (ofT 3) (0 :: n))).length) := by
  have hk := rightK_m h
  have hl := whole_len (rightG_o hk.1)
  have l2 := wrap_len (ofT 16) (wrapL (ofT 6) (arcsL (numsL o)) ++ m)
  have l3 := wrap_len (ofT 3) (0 :: n)
  simp only [List.length_append, List.length_cons] at l2 l3
  have hp := pubP_fwd hw h hm
  unfold pubR
  rw [openP_at A _ C (ofT 16) (by decide) (by rw [List.length_append]; omega)]
  dsimp only
  rw [if_pos rfl, if_pos hp.2, hp.1]
end Go.Proofs.YthoaneleeabadaaGreat

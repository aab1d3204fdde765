/-
  Chapter 18: the chapter's examples. The conditions: none.
-/
import Derived.Test.YtohfhephkjihfaaGreatO11
import Derived.Test.YtohfhephkjihfaaGreatD8
import Derived.Test.YtohfhephkjihfaaGreatA12
import Derived.Test.YtohfhephkjihfaaGreatB15
import Derived.Test.YtohfhephkjihfaaGreatSxI
namespace Go.Proofs.YtohfhephkjihfaaGreat
set_option linter.unusedSimpArgs false
set_option linter.unusedVariables false
open Go.Sx
set_option maxRecDepth 10000
def conP (o : List Int) : List Int × Int := if rightO o then (arcsL (numsL o), 0) else ([], 1)
def whoP (o : List Int) : List Int × Int := if rightO o then (wrapL (ofT 6) (arcsL (numsL o)), 0) else ([], 1)
theorem conO_len {o : List Int} (hr : rightO o = true) : (arcsL (numsL o)).length ≤ 186 := by
 obtain ⟨a, b, t, rfl, _, _, _, _, ht, _⟩ := right_nums hr
 have := arcsL_len (numsL (a :: b :: t))
 simp [numsL] at *
 omega
theorem conP_ok (o : List Int) (hl : o.length ≤ 1000000) : Ct Tryz.prog 96 [I64 o] [] (.tup [B8 (conP o).1, lv (.int .i64 (conP o).2)]) [] [] := by
 have h := contO_ok o hl
 unfold contO at h
 unfold conP
 split at h
 · rename_i hr; rw [if_pos hr]; exact h
 · rename_i hr; rw [if_neg hr]; exact h
theorem owrite_ok (o : List Int) (hl : o.length ≤ 1000000) : Ct Tryz.prog 69 [I64 o] [] (.tup [B8 (whoP o).1, lv (.int .i64 (whoP o).2)]) [] [] := by
 have hc := conP_ok o hl
 by_cases hr : rightO o = true
 · have e1 : conP o = (arcsL (numsL o), 0) := if_pos hr
   have e2 : whoP o = (wrapL (ofT 6) (arcsL (numsL o)), 0) := if_pos hr
   have hlen := conO_len hr
   rw [e1] at hc
   rw [e2]
   generalize arcsL (numsL o) = X at *
   have hwr := wrap_ok (ofT 6) [X] (by decide) (by simp) (by simp; omega)
   rw [show [X].flatten = X by simp] at hwr
   have hof := headof_ok 6
   generalize ofT 6 = t at *
   generalize wrapL t X = Y at *
   refine Ct_intro Tryz.func69 rfl rfl rfl rfl rfl (fun E hn hb => ?_)
   repeat (refine nst ?_)
   refine s_call0 (hc) rfl rfl rfl (by rw [hn]; rfl) rfl rfl (by exact vcs) rfl rfl rfl ?_
   repeat (refine nst ?_)
   refine W_cond rfl (by simp) (fun h1 => ?_) (fun h1 => ?_)
   · simp at h1
   repeat (refine nst ?_)
   refine s_call0 (hof) rfl rfl rfl (by rw [hn]; rfl) rfl rfl (by exact vcs) rfl rfl rfl ?_
   repeat (refine nst ?_)
   refine WL_q (opq_of (opy_lit (d := (.recs 1 [[.ints .u8 X]])) rfl (elt_mk Tryz.underlying45 rfl rfl) zok29 rfl (by exact vcs) rfl ⟨by decide, by decide, rfl, rfl⟩) rfl) (by rw [hn]; rfl) ?_
   refine s_call0 (hwr) rfl rfl rfl (by rw [hn]; rfl) rfl rfl (by exact vcs) rfl rfl rfl ?_
   repeat (refine nst ?_)
   exact rt1 []
 · have e1 : conP o = ([], 1) := if_neg hr
   have e2 : whoP o = ([], 1) := if_neg hr
   rw [e1] at hc
   rw [e2]
   refine Ct_intro Tryz.func69 rfl rfl rfl rfl rfl (fun E hn hb => ?_)
   repeat (refine nst ?_)
   refine s_call0 (hc) rfl rfl rfl (by rw [hn]; rfl) rfl rfl (by exact vcs) rfl rfl rfl ?_
   repeat (refine nst ?_)
   refine W_cond rfl (by simp) (fun h1 => ?_) (fun h1 => ?_)
   · repeat (refine nst ?_)
     refine N_retU [] rfl (by simp) (r' := .tup [B8 [], lv (.int .i64 1)]) ⟨.inr ⟨rfl, .inl ⟨_, rfl⟩⟩, .inl rfl, trivial⟩ ⟨rfl, trivial, trivial, rfl⟩ hb rfl trivial
   · simp at h1

theorem part_eq : ∀ {a b : List Int}, a.length = b.length → (partL a b = a.length ↔ a = b)
 | [], [], _ => by simp [partL]
 | [], _ :: _, h => by simp at h
 | _ :: _, [], h => by simp at h
 | x :: a, y :: b, h => by
   have ih := part_eq (a := a) (b := b) (by simpa using h)
   unfold partL
   by_cases e : x = y
   · subst e
     rw [if_pos rfl]
     simp [ih]
   · rw [if_neg e]
     simp [e]
theorem equal_ok (a b : List Int) (ha : a.length ≤ 1000000) (hb' : b.length ≤ 1000000) : Ct Tryz.prog 29 [B8 a, B8 b] [] (lv (.bool (decide (a = b)))) [] [] := by
 have hp := parted_ok a b ha hb'
 by_cases hl : a.length = b.length
 · have he := part_eq hl
   refine Ct_intro Tryz.func29 rfl rfl rfl rfl rfl (fun E hn hb => ?_)
   repeat refine nx ?_
   refine rt2 [] (congrArg (fun x => lv (.bool x)) ?_) trivial
   by_cases e : a = b
   · have h2 := he.2 e
     subst e
     simp [h2]
   · have h2 : ¬ partL a b = a.length := fun h => e (he.1 h)
     simp [e, hl]
     rw [hl] at h2
     omega
 · have hne : a ≠ b := fun e => hl (by rw [e])
   rw [decide_eq_false hne]
   refine Ct_intro Tryz.func29 rfl rfl rfl rfl rfl (fun E hn hb => ?_)
   repeat refine nx ?_
   refine rt2 [] (congrArg (fun x => lv (.bool x)) ?_) trivial
   have : ¬ ((a.length : Int) = b.length) := by omega
   simp
   intro h
   exact absurd h this
def wrG (o m : List Int) : List Int × Int := if rightG o m = true then (wrapL (ofT 16) (wrapL (ofT 6) (arcsL (numsL o)) ++ m), 0) else ([], 1)
theorem rightG_o {o m : List Int} (h : rightG o m = true) : rightO o = true := by unfold rightG at h; simp at h; exact h.1
theorem whole_len {o : List Int} (hr : rightO o = true) : (wrapL (ofT 6) (arcsL (numsL o))).length ≤ 206 := by
 have h1 := conO_len hr
 have h2 := wrap_len (ofT 6) (arcsL (numsL o))
 omega
theorem wralg_ok (o m : List Int) (ho : o.length ≤ 1000000) (hm : m.length ≤ 100000) (hw : WfB m) : Ct Tryz.prog 52 [algA o m] [] (.tup [B8 (wrG o m).1, lv (.int .i64 (wrG o m).2)]) [] [] := by
 have hra := rightalg_ok o m ho hm hw
 unfold wrG
 cases hg : rightG o m with
 | false =>
   rw [hg] at hra
   rw [if_neg (by simp)]
   refine Ct_intro Tryz.func52 rfl rfl rfl rfl rfl (fun E hn hb => ?_)
   repeat refine nx ?_
   exact rtU []
 | true =>
   rw [hg] at hra
   rw [if_pos rfl]
   have hro := rightG_o hg
   have how := owrite_ok o ho
   unfold whoP at how
   rw [if_pos hro] at how
   have hwl := whole_len hro
   have hsq := sequence_ok [wrapL (ofT 6) (arcsL (numsL o)), m] (by simp) (by simp; omega)
   rw [show [wrapL (ofT 6) (arcsL (numsL o)), m].flatten = wrapL (ofT 6) (arcsL (numsL o)) ++ m by simp] at hsq
   generalize wrapL (ofT 6) (arcsL (numsL o)) = W at *
   refine Ct_intro Tryz.func52 rfl rfl rfl rfl rfl (fun E hn hb => ?_)
   repeat refine nx ?_
   exact rt1 []
theorem samealg_ok (o m o' m' : List Int) (ho : o.length ≤ 1000000) (hm : m.length ≤ 100000) (hw : WfB m) (ho' : o'.length ≤ 1000000) (hm' : m'.length ≤ 100000) (hw' : WfB m') (hr : rightG o m = true) (hr' : rightG o' m' = true) :
   Ct Tryz.prog 35 [algA o m, algA o' m'] [] (lv (.bool (decide ((wrG o m).1 = (wrG o' m').1)))) [] [] := by
 have h1 := wralg_ok o m ho hm hw
 have h2 := wralg_ok o' m' ho' hm' hw'
 have w1 := whole_len (rightG_o hr)
 have w2 := whole_len (rightG_o hr')
 unfold wrG at *
 rw [if_pos hr] at *
 rw [if_pos hr'] at *
 have l1 := wrap_len (ofT 16) (wrapL (ofT 6) (arcsL (numsL o)) ++ m)
 have l2 := wrap_len (ofT 16) (wrapL (ofT 6) (arcsL (numsL o')) ++ m')
 rw [List.length_append] at l1 l2
 dsimp only at *
 generalize wrapL (ofT 16) (wrapL (ofT 6) (arcsL (numsL o)) ++ m) = X at *
 generalize wrapL (ofT 16) (wrapL (ofT 6) (arcsL (numsL o')) ++ m') = Y at *
 have heq := equal_ok X Y (by omega) (by omega)
 refine Ct_intro Tryz.func35 rfl rfl rfl rfl rfl (fun E hn hb => ?_)
 repeat refine nx ?_
 refine rt2 [] (congrArg (fun x => lv (.bool x)) ?_) trivial
 rfl
theorem wrnull_ok : Ct Tryz.prog 53 [] [] (B8 [5, 0]) [] [] := by
 refine Ct_intro Tryz.func53 rfl rfl rfl rfl rfl (fun E hn hb => ?_)
 repeat refine nx ?_
 exact rt1 []
theorem sha256_ok : Ct Tryz.prog 36 [] [] (algA [2, 16, 840, 1, 101, 3, 4, 2, 1] [5, 0]) [] [] := by
 have h := wrnull_ok
 refine Ct_intro Tryz.func36 rfl rfl rfl rfl rfl (fun E hn hb => ?_)
 repeat refine nx ?_
 exact rt1 []
theorem hmac_ok : Ct Tryz.prog 37 [] [] (algA [1, 2, 840, 113549, 2, 9] [5, 0]) [] [] := by
 have h := wrnull_ok
 refine Ct_intro Tryz.func37 rfl rfl rfl rfl rfl (fun E hn hb => ?_)
 repeat refine nx ?_
 exact rt1 []

def hexV (c : Int) : Int := if 48 ≤ c ∧ c ≤ 57 then c - 48 else if 97 ≤ c ∧ c ≤ 102 then c - 97 + 10 else 16
theorem value_ok (c : Int) (hc : 0 ≤ c ∧ c < 256) : Ct Tryz.prog 47 [lv (.int .u8 c)] [] (lv (.int .u8 (hexV c))) [] [] := by
 unfold hexV
 by_cases h1 : 48 ≤ c ∧ c ≤ 57
 · rw [if_pos h1]
   refine Ct_intro Tryz.func47 rfl rfl rfl rfl rfl (fun E hn hb => ?_)
   repeat refine nx ?_
   exact rt1 []
 · rw [if_neg h1]
   by_cases h2 : 97 ≤ c ∧ c ≤ 102
   · rw [if_pos h2]
     refine Ct_intro Tryz.func47 rfl rfl rfl rfl rfl (fun E hn hb => ?_)
     repeat refine nx ?_
     exact rt1 []
   · rw [if_neg h2]
     refine Ct_intro Tryz.func47 rfl rfl rfl rfl rfl (fun E hn hb => ?_)
     repeat refine nx ?_
     exact rt1 []
def unhL (l : List Int) (k : Nat) : List Int := (List.range k).map fun j => 16 * hexV (l.getD (2 * j) 0) + hexV (l.getD (2 * j + 1) 0)
theorem unh_next (l : List Int) (k : Nat) : unhL l (k + 1) = unhL l k ++ [16 * hexV (l.getD (2 * k) 0) + hexV (l.getD (2 * k + 1) 0)] := by
 unfold unhL
 rw [List.range_succ, List.map_append]
 rfl
theorem orHx : ∀ x : Fin 16, ∀ y : Fin 16, IntKind.u8.wrap (BitVec.ofInt IntKind.u8.bits (((x.val : Nat) : Int) * 2 ^ min (Int.toNat 4) IntKind.u8.bits) ||| BitVec.ofInt IntKind.u8.bits ((y.val : Nat) : Int)).toNat = 16 * ((x.val : Nat) : Int) + ((y.val : Nat) : Int) := by decide +kernel
theorem orH {X Y : Int} (hx : X ≤ 15 ∧ 0 ≤ X) (hy : Y ≤ 15 ∧ 0 ≤ Y) : IntKind.u8.wrap (BitVec.ofInt IntKind.u8.bits (X * 2 ^ min (Int.toNat 4) IntKind.u8.bits) ||| BitVec.ofInt IntKind.u8.bits Y).toNat = 16 * X + Y := by
 obtain ⟨x, rfl⟩ : ∃ x : Nat, X = x := ⟨X.toNat, by omega⟩
 obtain ⟨y, rfl⟩ : ∃ y : Nat, Y = y := ⟨Y.toNat, by omega⟩
 exact orHx ⟨x, by omega⟩ ⟨y, by omega⟩
theorem unhex_ok (l : List Int) (n : Nat) (hn2 : l.length = 2 * n) (hl : l.length ≤ 1000) (hw : ∀ x ∈ l, 0 ≤ x ∧ x < 256) (hx : ∀ i, i < l.length → hexV (l.getD i 0) ≤ 15 ∧ 0 ≤ hexV (l.getD i 0)) :
   Ct Tryz.prog 32 [lv (.string (strOfNums l))] [] (.tup [B8 (unhL l n), lv (.int .i64 0)]) [] [] := by
 have hs : (strOfNums l).size = l.length := strOfNums_size l
 refine Ct_intro Tryz.func32 rfl rfl rfl rfl rfl (fun E hn hb => ?_)
 repeat refine nx ?_
 refine s_makeI (by_ := 1) rfl rfl rfl (by rw [hn]; rfl) (elt_mk Tryz.underlying29 rfl rfl) rfl rfl rfl (by exact vcs) 0 (by first | rfl | (simp; done) | omega) (by first | (simp; done) | omega | (simp at *; omega)) ?_
 repeat refine nx ?_
 refine W_weaken (St.le_of (l := [(0, lv (.string (strOfNums l))), (4, .c (.own 79 1 0 (unhL l 0).length)), (5, lv (.int .i64 ((2 * 0 : Nat) : Int)))]) (h := [(79, .row (.ints .u8 (unhL l 0)))]) (by refine ⟨?_, ?_⟩ <;> (repeat' (first | exact trivial | exact rfl | refine ⟨?_, ?_⟩)) <;> first | exact rfl | (simp; done) | skip)) ?_
 refine W_loop (ι := {k : Nat // k ≤ n}) (fun k => St.of [(0, lv (.string (strOfNums l))), (4, .c (.own 79 1 0 (unhL l k.1).length)), (5, lv (.int .i64 ((2 * k.1 : Nat) : Int)))] [(79, .row (.ints .u8 (unhL l k.1)))]) (fun k => n - k.1) (fun k => ?_) ⟨0, Nat.zero_le _⟩
 obtain ⟨k, hk⟩ := k
 dsimp only
 by_cases hk2 : k < n
 · have h1 := hx (2 * k) (by omega)
   have h2 := hx (2 * k + 1) (by omega)
   have ul : (unhL l k).length = k := by simp [unhL]
   repeat refine nx ?_
   have e1 : (bs (strOfNums l)).getD ((2 * k : Nat) : Int).toNat 0 = l.getD (2 * k) 0 := by rw [bsN hw, Int.toNat_natCast]
   have e2 : (bs (strOfNums l)).getD (((2 * k : Nat) : Int) + 1).toNat 0 = l.getD (2 * k + 1) 0 := by rw [bsN hw, show (((2 * k : Nat) : Int) + 1).toNat = 2 * k + 1 by omega]
   have b1 : 0 ≤ l.getD (2 * k) 0 ∧ l.getD (2 * k) 0 < 256 := wf_at hw _
   have b2 : 0 ≤ l.getD (2 * k + 1) 0 ∧ l.getD (2 * k + 1) 0 < 256 := wf_at hw _
   refine duc1 (hF := value_ok _ ?c1) ?k1
   case c1 => rw [e1]; exact b1
   repeat refine nx ?_
   refine duc1 (hF := value_ok _ ?c2) ?k2
   case c2 => rw [e2]; exact b2
   repeat refine nx ?_
   rw [e1, e2]
   have hnx := unh_next l k
   generalize hexV (l.getD (2 * k) 0) = X at *
   generalize hexV (l.getD (2 * k + 1) 0) = Y at *
   repeat refine nx ?_
   rw [orH h1 h2, ← hnx]
   have e3 : ((2 * k : Nat) : Int) + 2 = ((2 * (k + 1) : Nat) : Int) := by omega
   rw [e3]
   refine N_round ⟨k + 1, by omega⟩ (by dsimp only; omega) (St.le_of ⟨⟨rfl, rfl, rfl⟩, rfl⟩)
 · obtain rfl : k = n := by omega
   repeat refine nx ?_
   refine frzN 2 ?_
   exact rt1 []

theorem dlg1 {P : Program} {E : Env} {ops : Array Oper} {o : Oper} {σ : St} {ns b own : List Nat} {bs : List (List Nat × List Nat)} {l : List Oper} {K : St → Prop} {t e : TypeId} {sz by_ n s nt : Nat} {parts : Array (Nat × Operand)} {ps : List Prop} {out : List Cell} {d : Leaf} {dd : Option Nat} {i : Nat} {g G : Bool} (hn : E.n = nt) (hk : DrawU P E ops ns bs l (σ.put dd (.cnd G (.c (.lf d)))) K) (hop : o.op = .buildSlice t n parts := by exact rfl) (hg : o.guard = some (i, g) := by exact rfl) (hG : guardC ops ⟨σ.tm, fgt b σ.hp⟩ i g = some G := by exact rfl) (hdf : forceO o.dst some = some dd := by exact rfl) (hd : dstOk nt dd = true := by exact rfl)
   (hE : Elt P t e sz by_ := by exact elt_mk rfl rfl rfl) (hs : forceSz sz some = some s := by exact rfl) (hf : fillA (fun i => some (i * s, s)) (List.replicate (n * s) .un) (parts.toList.map fun (i, x) => (i, ox ⟨σ.tm, fgt b σ.hp⟩ x)) = some (ps, out) := by exact rfl) (hdd : forceDat (dataOf P e s n out) some = some d := by exact rfl) (hnn : n * s ≤ 16777216 ∧ n ≤ 16777216 ∧ lenD d = n ∧ szD d = s := by exact ⟨by decide, by decide, rfl, rfl⟩)
   (hz : zeroOk P e := by first | (simp; done) | fail) (hp : AllP ps := by first | trivial | (simp; done)) : DrawU P E ops ns ((b, own) :: bs) (o :: l) σ K := by
 obtain rfl := forceSz_some hs
 exact DU_op hdf (by rw [hn]; exact hd) (ops_ofG hg hG fun _ => opys_lit hop hE hz hf hp (forceDat_some hdd) hnn) hk
def exB : List Int := [48, 13, 6, 9, 96, 134, 72, 1, 101, 3, 4, 2, 1, 5, 0]
def exT : List Int := [51, 48, 48, 100, 48, 54, 48, 57, 54, 48, 56, 54, 52, 56, 48, 49, 54, 53, 48, 51, 48, 52, 48, 50, 48, 49, 48, 53, 48, 48]
theorem exT_s : strOfNums exT = ByteArray.mk #[51, 48, 48, 100, 48, 54, 48, 57, 54, 48, 56, 54, 52, 56, 48, 49, 54, 53, 48, 51, 48, 52, 48, 50, 48, 49, 48, 53, 48, 48] := by decide +kernel
theorem exT_u : unhL exT 15 = exB := by decide +kernel
theorem exT_x : ∀ i, i < exT.length → hexV (exT.getD i 0) ≤ 15 ∧ 0 ≤ hexV (exT.getD i 0) := by decide +kernel
theorem ex_a : algR exB 0 = ([2, 16, 840, 1, 101, 3, 4, 2, 1], [5, 0], 0, 15) := by decide +kernel
theorem ex_x : algR [48, 3, 6, 1, 42] 0 = ([1, 2], [], 0, 5) := by decide +kernel
theorem ex_r1 : rightG [2, 16, 840, 1, 101, 3, 4, 2, 1] [5, 0] = true := by decide +kernel
theorem ex_r2 : rightG [1, 2, 840, 113549, 2, 9] [5, 0] = true := by decide +kernel
theorem ex_ne : ¬ (wrG [2, 16, 840, 1, 101, 3, 4, 2, 1] [5, 0]).1 = (wrG [1, 2, 840, 113549, 2, 9] [5, 0]).1 := by decide +kernel
theorem wf18 {l : List Int} (h : (l.all fun x => decide (0 ≤ x) && decide (x < 256)) = true) : WfB l := fun x hx => by
 have := List.all_eq_true.1 h x hx
 simpa using this
set_option maxHeartbeats 8000000 in
theorem known18_ok : Ct Tryz.prog 18 [] [] (lv (.bool true)) [] [] := by
 have hun := unhex_ok exT 15 (by decide) (by decide) (wf18 (by decide +kernel)) exT_x
 rw [exT_s, exT_u] at hun
 have hc1 := curnew_ok exB (by decide)
 have hr1 := readalg_ok exB 0 (Nat.zero_le _) (by decide) (wf18 (by decide +kernel))
 rw [ex_a] at hr1
 have hc2 := curnew_ok [48, 3, 6, 1, 42] (by decide)
 have hr2 := readalg_ok [48, 3, 6, 1, 42] 0 (Nat.zero_le _) (by decide) (wf18 (by decide +kernel))
 rw [ex_x] at hr2
 dsimp only at hr1 hr2
 have hw5 : WfB [5, 0] := wf18 (by decide +kernel)
 have hsa := samealg_ok [2, 16, 840, 1, 101, 3, 4, 2, 1] [5, 0] [2, 16, 840, 1, 101, 3, 4, 2, 1] [5, 0] (by decide) (by decide) hw5 (by decide) (by decide) hw5 ex_r1 ex_r1
 rw [decide_eq_true rfl] at hsa
 have hsb := samealg_ok [2, 16, 840, 1, 101, 3, 4, 2, 1] [5, 0] [1, 2, 840, 113549, 2, 9] [5, 0] (by decide) (by decide) hw5 (by decide) (by decide) hw5 ex_r1 ex_r2
 rw [decide_eq_false ex_ne] at hsb
 have hs1 := sha256_ok
 have hs2 := hmac_ok
 have hro := refSame_ok [1, 2] [1, 2] (by decide) (by decide)
 rw [decide_eq_true rfl] at hro
 have htn := tnew_ok
 have hf0 : findM [] (strOfNums [110]) = none := rfl
 have htp := tput_ok [] [110] [115] (by decide) (by decide) (by decide) hf0
 have hf1 : findM (setM [] (strOfNums [110]) (.ints .u8 [115])) (strOfNums [110]) = some (.ints .u8 [115]) := by simp [setM, findM]
 have htg := tget_ok (setM [] (strOfNums [110]) (.ints .u8 [115])) [110] [115] (by decide) (by decide) hf1
 refine Ct_intro Tryz.func18 rfl rfl rfl rfl rfl (fun E hn hb => ?_)
 repeat refine nxm ?_
 refine s_call [81] hr1 rfl rfl (by rw [hn]; rfl) rfl rfl (by trivial) ⟨rfl, rfl, (by simp [ordL]), rfl⟩ ?_
 repeat (first | refine s_litC rfl rfl rfl (by rw [hn]; rfl) rfl rfl (by rw [hn]; rfl) (elt_mk Tryz.underlying29 rfl rfl) Tryz.underlying5 zok5 rfl (by exact vcs) rfl ⟨by decide, by decide, rfl⟩ ?_ | refine nxm ?_ | refine dlg1 hn ?_)
 refine rt2 [] (congrArg (fun x => lv (.bool x)) ?_) trivial
 decide +kernel
end Go.Proofs.YtohfhephkjihfaaGreat

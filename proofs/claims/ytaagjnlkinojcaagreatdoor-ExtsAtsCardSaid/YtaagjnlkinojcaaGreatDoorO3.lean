/-
  Chapter 04, its smaller functions. The conditions: rows of at most a million numbers.
-/
import Derived.Test.YtaagjnlkinojcaaGreatDoorTy
import Derived.Test.YtaagjnlkinojcaaGreatDoorSxT
namespace Go.Proofs.YtaagjnlkinojcaaGreatDoor
set_option linter.unusedSimpArgs false
set_option linter.unusedVariables false
open Go.Sx
set_option maxRecDepth 10000
theorem opys_lenT {P : Program} {E : Env} {ops : Array Oper} {o : Oper} {σ : St} {c : Call} {x : Operand} {ps : List Prop} {K off len : Nat} {t e u : TypeId} (hop : o.op = .call c) (hc : c.callee = .builtin .len) (ha : c.args = #[x]) (ht : c.argTypes = #[t]) (hu : P.underlying t = some (.slice u)) (hx : ox σ x = (ps, .c (.town K off len e))) (hp : AllP ps) :
   OpYS P E ops o σ (lv (.int .i64 (len : Int))) := by
 intro τ hlk
 have e1 : ox τ x = ox σ x := hlk.ox x (by rw [hop]; simp [Op.operands, Call.operands, hc, ha])
 refine opy_run fun β F a w hS => ?_
 have h1 := oxR hS x
 rw [e1, hx] at h1
 have h1 := h1 hp
 generalize he : a.eval x = v at h1
 dsimp only at h1
 cases h1 with | c h1 => cases h1 with | town _ _ _ _ ad cp hcc hm h =>
 refine ⟨.int .i64 (len : Int), ?_, .c (.lf (.v _ rfl))⟩
 simp only [execOp, hop, resolve, hc, ha, ht, Sem.run_bind, Sem.run_pure, Result.andThen_ok, invoke, builtin]
 simp only [List.map_toArray, List.map_cons, List.map_nil, he]
 simp [Builtin.len_, run_underlying hu, goInt]
abbrev bldB (p : Cell) (n : Nat) : Blk := .cells [p, .town 1 0 n 5]
abbrev nilC : Cell := .lf (.v (.pointer none))
def addrOk (p : Cell) : Prop := p = nilC ∨ p = .ptr 0 0
theorem check_fresh (n : Nat) (l : List Int) : Ct Tryz.prog 140 [.c (.tptr 0 174)] [bldB nilC n, .row (.ints .u8 l)] (.tup []) [bldB (.ptr 0 0) n, .row (.ints .u8 l)] [] := by
 refine Ct_intro Tryz.func140 rfl rfl rfl rfl rfl (fun E hn hb => ?_)
 repeat (refine nst ?_)
 refine WL_sr (fun a w h => h.untag 2 rfl) ?_
 repeat (refine nst ?_)
 refine W_cond rfl (by simp) (fun h1 => ?_) (fun h1 => ?_)
 · repeat (refine nst ?_)
   refine WL_q (opq_of (opy_toU rfl Tryz.underlying172 Tryz.underlying202 (by kernel_rfl) rfl (by trivial) rfl rfl) rfl) (by rw [hn]; rfl) ?_
   refine WL_q (opq_of (opy_noEsc rfl rfl rfl Tryz.func150 (by kernel_rfl) (by kernel_rfl) (by kernel_rfl) (by kernel_rfl) rfl (by trivial)) rfl) (by rw [hn]; rfl) ?_
   refine WL_q (opq_of (opy_fromU rfl Tryz.underlying202 Tryz.underlying172 (by kernel_rfl) (by kernel_rfl) rfl (by trivial) rfl) rfl) (by rw [hn]; rfl) ?_
   refine WL_sr (fun a w h => h.untag 7 rfl) ?_
   repeat (refine nst ?_)
   refine s_storeN rfl rfl rfl rfl rfl (by exact vcs) rfl rfl rfl (by rw [cellsOf172]; rfl) (by rw [info172]; rfl) rfl rfl ?_
   repeat (refine nst ?_)
   exact N_endN [] rfl trivial ⟨rfl, ⟨rfl, rfl⟩, trivial, rfl⟩ hb rfl (by simp [ordL])
 · simp at h1
theorem check_used (n : Nat) (l : List Int) : Ct Tryz.prog 140 [.c (.tptr 0 174)] [bldB (.ptr 0 0) n, .row (.ints .u8 l)] (.tup []) [bldB (.ptr 0 0) n, .row (.ints .u8 l)] [] := by
 refine Ct_intro Tryz.func140 rfl rfl rfl rfl rfl (fun E hn hb => ?_)
 repeat (refine nst ?_)
 refine WL_sr (fun a w h => h.untag 2 rfl) ?_
 repeat (refine nst ?_)
 refine WL_q (opq_of (opy_nilP (neg := false) rfl rfl rfl rfl (by exact vcs)) rfl) (by rw [hn]; rfl) ?_
 repeat (refine nst ?_)
 refine W_cond rfl (by simp) (fun h1 => ?_) (fun h1 => ?_)
 · simp at h1
 · repeat (refine nst ?_)
   refine WL_sr (fun a w h => h.untag 14 rfl) ?_
   repeat (refine nst ?_)
   refine WL_q (opq_of (opy_samePtr rfl Tryz.underlying172 rfl rfl rfl (by trivial)) rfl) (by rw [hn]; rfl) ?_
   repeat (refine nst ?_)
   refine W_cond rfl (by simp) (fun h2 => ?_) (fun h2 => ?_)
   · simp at h2
   · repeat (refine nst ?_)
     exact N_endN [] rfl trivial ⟨rfl, ⟨rfl, rfl⟩, trivial, rfl⟩ hb rfl (by simp [ordL])
theorem check_ok {p : Cell} (hp : addrOk p) (n : Nat) (l : List Int) : Ct Tryz.prog 140 [.c (.tptr 0 174)] [bldB p n, .row (.ints .u8 l)] (.tup []) [bldB (.ptr 0 0) n, .row (.ints .u8 l)] [] := by
 rcases hp with rfl | rfl
 · exact check_fresh n l
 · exact check_used n l
abbrev nilE : Av := lv .nilIface
theorem writeByte_ok {p : Cell} (hp : addrOk p) (l : List Int) (hl : l.length ≤ 1000000) (c : Int) (hc : 0 ≤ c ∧ c < 256) :
   CtM Tryz.prog 116 [.c (.tptr 0 174), lv (.int .u8 c)] [bldB p l.length, .row (.ints .u8 l)] nilE
     [.cells [.ptr 0 0, .town 2 0 (l.length + 1) 5], .gone] [.row (.ints .u8 (l ++ [c]))] := by
 have h1 := check_ok hp l.length l
 have h0 : addrOk p := hp
 rcases hp with rfl | rfl
 all_goals
   refine CtM_intro Tryz.func116 rfl rfl rfl rfl rfl (fun E hn hb => ?_)
   repeat (refine nst ?_)
   refine s_call [0, 1] h1 rfl rfl (by rw [hn]; rfl) rfl rfl (by trivial) ⟨rfl, ⟨rfl, rfl⟩, (by simp [ordL]), rfl⟩ ?_
   repeat (refine nst ?_)
   refine WL_sr (fun a w h => h.untag 8 rfl) ?_
   repeat (refine nst ?_)
   refine WL_sr (fun a w h => h.untag 7 rfl) ?_
   refine s_litI rfl rfl rfl (by rw [hn]; rfl) (elt_mk Tryz.underlying22 rfl rfl) (zok5) (by exact vcs) ⟨by decide, rfl⟩ ?_
   repeat (refine nst ?_)
   refine s_appendKT (by_ := 1) 95 rfl rfl rfl rfl rfl (by rw [hn]; rfl) (elt_mk Tryz.underlying22 rfl rfl) rfl rfl rfl rfl ?_ (by simp) ⟨by simp; omega, by decide⟩ ?_ ?_
   · simp [AllP]
   · repeat (refine nst ?_)
     refine s_storeN rfl rfl rfl rfl rfl (by exact vcs) rfl rfl rfl (by rw [cellsOf22]; rfl) (by rw [info22]; rfl) rfl rfl ?_
     rw [Nat.zero_add l.length, List.take_length]
     repeat (refine nst ?_)
     exact N_retM [1] rfl (by trivial) ⟨rfl, ⟨.inr rfl, .inl rfl⟩, rfl, rfl⟩ hb rfl
   · repeat (refine nst ?_)
     refine s_storeN rfl rfl rfl rfl rfl (by exact vcs) rfl rfl rfl (by rw [cellsOf22]; rfl) (by rw [info22]; rfl) rfl rfl ?_
     rw [Nat.zero_add l.length, List.take_length, List.drop_zero]
     repeat (refine nst ?_)
     exact N_retM [95] rfl (by trivial) ⟨rfl, ⟨.inr rfl, .inl rfl⟩, rfl, rfl⟩ hb rfl
theorem writeString_ok {p : Cell} (hp : addrOk p) (l : List Int) (s : ByteArray) (hl : l.length ≤ 1000000) (hs : s.size ≤ 1000000) :
   CtM Tryz.prog 117 [.c (.tptr 0 174), lv (.string s)] [bldB p l.length, .row (.ints .u8 l)] (.tup [lv (.int .i64 (s.size : Int)), nilE])
     [.cells [.ptr 0 0, .town 2 0 (l.length + s.size) 5], .gone] [.row (.ints .u8 (l ++ strL s))] := by
 have h1 := check_ok hp l.length l
 have h0 : addrOk p := hp
 rcases hp with rfl | rfl
 all_goals
   refine CtM_intro Tryz.func117 rfl rfl rfl rfl rfl (fun E hn hb => ?_)
   repeat (refine nst ?_)
   refine s_call [0, 1] h1 rfl rfl (by rw [hn]; rfl) rfl rfl (by trivial) ⟨rfl, ⟨rfl, rfl⟩, (by simp [ordL]), rfl⟩ ?_
   repeat (refine nst ?_)
   refine WL_sr (fun a w h => h.untag 9 rfl) ?_
   repeat (refine nst ?_)
   refine WL_sr (fun a w h => h.untag 8 rfl) ?_
   refine s_appendKST 95 rfl rfl rfl rfl rfl (by rw [hn]; rfl) Tryz.underlying22 Tryz.underlying9 rfl rfl rfl rfl rfl ?_ (by simp) (by omega) ?_ ?_
   · simp [AllP]
   · repeat (refine nst ?_)
     refine s_storeN rfl rfl rfl rfl rfl (by exact vcs) rfl rfl rfl (by rw [cellsOf22]; rfl) (by rw [info22]; rfl) rfl rfl ?_
     rw [List.take_length]
     repeat (refine nst ?_)
     exact N_retM [1] rfl (by trivial) ⟨rfl, ⟨.inr rfl, .inl rfl⟩, rfl, rfl⟩ hb rfl
   · repeat (refine nst ?_)
     refine s_storeN rfl rfl rfl rfl rfl (by exact vcs) rfl rfl rfl (by rw [cellsOf22]; rfl) (by rw [info22]; rfl) rfl rfl ?_
     rw [List.take_length]
     repeat (refine nst ?_)
     exact N_retM [95] rfl (by trivial) ⟨rfl, ⟨.inr rfl, .inl rfl⟩, rfl, rfl⟩ hb rfl
theorem string_ok (l : List Int) (hl : l.length ≤ 1000000) (h0 : l ≠ []) (hw : ∀ x ∈ l, 0 ≤ x ∧ x < 256) :
   CtX Tryz.prog 119 [.c (.tptr 0 174)] [bldB (.ptr 0 0) l.length, .row (.ints .u8 l)] (lv (.string (strOfNums l))) := by
 refine CtX_intro Tryz.func119 rfl rfl rfl rfl (fun E hn hb hx => ?_)
 have h1 : Nat.ble 1 l.length = true := by cases l with | nil => exact absurd rfl h0 | cons a l => simp
 repeat (refine nst ?_)
 refine W_sr (fun a w h => h.untag 0 rfl) ?_
 refine W_drawW 10 (by kernel_rfl) (by kernel_rfl) (by kernel_rfl) (by rw [hn]; rfl) rfl rfl ?_
 repeat (first | refine dp1 ?_ | refine dg1 ?_ | refine DrawW_nil ?_)
 refine DrawW_cons rfl (ops_of (opys_sliceData rfl rfl rfl rfl (by trivial) h1) rfl) ?_
 repeat (first | refine dp1 ?_ | refine dg1 ?_ | refine DrawW_nil ?_)
 refine DrawW_cons rfl (ops_of (opys_lenT rfl rfl rfl rfl Tryz.underlying22 rfl (by trivial)) rfl) ?_
 repeat (first | refine dp1 ?_ | refine dg1 ?_ | refine DrawW_nil ?_)
 repeat (refine nst ?_)
 refine s_unsafeStr (l := l) hx rfl rfl rfl rfl rfl rfl (by rw [hn]; rfl) Tryz.underlying196 cellsOf5 rfl rfl (by trivial) rfl h0 hw (by omega) ?_
 repeat (refine nst ?_)
 exact N_retX rfl trivial rfl

abbrev I64 (l : List Int) : Av := .c (.lf (.ints .i64 l))
def inR (x : Int) : Bool := !(decide (x < 0) || decide (2147483647 < x))
def rightO : List Int → Bool
 | a :: b :: t => if 30 < t.length then false else if (a :: b :: t).all inR = false then false else
     if a = 0 ∨ a = 1 then decide (b < 40) else if a = 2 then decide (b ≤ 2147483567) else false
 | _ => false
theorem rightO_cons (a b : Int) (t : List Int) : rightO (a :: b :: t) = if 30 < t.length then false else if (a :: b :: t).all inR = false then false else
     if a = 0 ∨ a = 1 then decide (b < 40) else if a = 2 then decide (b ≤ 2147483567) else false := rfl
theorem all_get {l : List Int} {i : Nat} (h : i < l.length) (h1 : inR (l.getD i 0) = false) : l.all inR = false := by
 rw [List.all_eq_false]
 refine ⟨l[i], List.getElem_mem h, ?_⟩
 rw [List.getD_eq_getElem?_getD, List.getElem?_eq_getElem h] at h1
 simpa using h1
theorem all_take {l : List Int} {i : Nat} (h : i < l.length) (h0 : (l.take i).all inR = true) (h1 : inR (l.getD i 0) = true) : (l.take (i + 1)).all inR = true := by
 rw [List.take_add_one, List.all_append, h0, List.getElem?_eq_getElem h]
 rw [List.getD_eq_getElem?_getD, List.getElem?_eq_getElem h] at h1
 simpa using h1
theorem oright_ok (o : List Int) (hl : o.length ≤ 1000000) : Ct Tryz.prog 57 [I64 o] [] (lv (.bool (rightO o))) [] [] := by
 obtain ⟨R, hR⟩ : ∃ R, rightO o = R := ⟨_, rfl⟩
 rw [hR]
 refine Ct_intro Tryz.func57 rfl rfl rfl rfl rfl (fun E hn hb => ?_)
 repeat (refine nst ?_)
 refine W_cond rfl (by simp) (fun hc => ?_) (fun hc => ?_)
 · have : R = false := by
     rw [← hR]
     simp at hc
     match o, hc with
     | [], _ => rfl
     | [_], _ => rfl
     | a :: b :: t, hc => simp at hc; rw [rightO_cons, if_pos (by omega)]
   subst this
   repeat (refine nst ?_)
   exact rt1 []
 · have hlen : 2 ≤ o.length ∧ o.length ≤ 32 := by simp at hc; omega
   repeat (refine nst ?_)
   refine W_weaken (St.le_of (l := [(0, I64 o), (13, I64 o), (14, lv (.int .i64 (o.length : Int))), (15, lv (.int .i64 ((0 : Nat) : Int)))]) (h := []) (by refine ⟨?_, ?_⟩ <;> (repeat' (first | exact trivial | exact rfl | refine ⟨?_, ?_⟩)) <;> first | exact rfl | (simp; done) | skip)) ?_
   refine W_loop (ι := {i : Nat // i ≤ o.length ∧ (o.take i).all inR = true}) (fun i => St.of [(0, I64 o), (13, I64 o), (14, lv (.int .i64 (o.length : Int))), (15, lv (.int .i64 (i.1 : Int)))] []) (fun i => o.length - i.1) (fun i => ?_) ⟨0, by omega, by simp⟩
   obtain ⟨i, hi, ha⟩ := i
   dsimp only
   repeat (refine nst ?_)
   refine W_cond rfl (by simp) (fun hc => ?_) (fun hc => ?_)
   · have hi2 : i < o.length := by simpa using hc
     repeat (refine nst ?_)
     refine W_cond rfl (by simp) (fun h2 => ?_) (fun h2 => ?_)
     · have : R = false := by
         rw [← hR]
         have hg := all_get hi2 (by simp [Bool.cond_eq_ite] at h2; simp only [inR, Bool.not_eq_false', Bool.or_eq_true, decide_eq_true_eq]; rw [List.getD_eq_getElem?_getD]; omega)
         match o, hlen, hg with
         | a :: b :: t, hlen, hg => rw [rightO_cons, hg]; simp
       subst this
       repeat (refine nst ?_)
       exact rt1 []
     · repeat (refine nst ?_)
       (refine N_round ?i1 ?i2 ?i3; (case i1 => exact ⟨i + 1, by omega, all_take hi2 ha (by simp [Bool.cond_eq_ite] at h2; simp only [inR, Bool.not_eq_true', Bool.or_eq_false_iff, decide_eq_false_iff_not]; rw [List.getD_eq_getElem?_getD]; omega)⟩); (case i2 => (dsimp only; omega)); (case i3 => refine St.le_of ⟨?_, ?_⟩ <;> (repeat' (first | exact trivial | exact rfl | refine ⟨?_, ?_⟩)) <;> first | exact rfl | (simp; done) | skip))
   · have : i = o.length := by simp at hc; omega
     subst this
     rw [List.take_length] at ha
     clear hi
     match o, hlen, ha, hR with
     | a :: b :: t, hlen, ha, hR =>
     have h30 : ¬ 30 < t.length := by simp at hlen; omega
     rw [rightO_cons, if_neg h30, ha, if_neg (by simp)] at hR
     repeat (refine nst ?_)
     refine W_cond rfl (by simp) (fun h0 => ?_) (fun h0 => ?_)
     · have h0' : a = 0 := by simpa using h0
       rw [if_pos (.inl h0')] at hR
       subst hR
       repeat (refine nst ?_)
       refine W_cond rfl (by simp) (fun h1 => ?_) (fun h1 => ?_)
       · repeat (refine nst ?_)
         exact rt1 []
       · rw [h0] at h1; simp at h1
     · have h0' : a ≠ 0 := by simpa using h0
       repeat (refine nst ?_)
       refine W_cond rfl (by simp) (fun h1 => ?_) (fun h1 => ?_)
       · have h1' : a = 1 := by simpa using h1
         rw [if_pos (.inr h1')] at hR
         subst hR
         repeat (refine nst ?_)
         exact rt1 []
       · have h1' : a ≠ 1 := by simpa using h1
         rw [if_neg (by omega)] at hR
         repeat (refine nst ?_)
         refine W_cond rfl (by simp) (fun h2 => ?_) (fun h2 => ?_)
         · have h2' : a = 2 := by simpa using h2
           rw [if_pos h2'] at hR
           subst hR
           repeat (refine nst ?_)
           exact rt1 []
         · have h2' : a ≠ 2 := by simpa using h2
           rw [if_neg h2'] at hR
           subst hR
           repeat (refine nst ?_)
           exact rt1 []
end Go.Proofs.YtaagjnlkinojcaaGreatDoor

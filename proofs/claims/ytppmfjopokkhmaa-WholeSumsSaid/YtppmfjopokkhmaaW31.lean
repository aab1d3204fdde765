/-
  Chapter 03: the document's sums. The conditions: rows of at most ten thousand bytes.
-/
import Derived.Test.YtppmfjopokkhmaaW30
namespace Go.Proofs.Ytppmfjopokkhmaa
set_option linter.unusedSimpArgs false
set_option linter.unusedVariables false
open Go.Sx

set_option maxRecDepth 10000

theorem W_joinB {P : Program} {E : Env} {Q : Exit → Act → World → Prop} {σ : St} {c : Code} {k : Nat} (τ : St) (h : W P E c (Exit.inBlock k (Exit.then (SR E τ) Q)) σ) (hk : N E Q .normal τ) : W P E c (Exit.inBlock k Q) σ := by
  intro a w hS
  refine wp_mono (h a w hS) (fun e a w q => ?_)
  cases e with
  | exit j =>
    simp only [Exit.inBlock] at q ⊢
    split at q
    · rename_i hj; rw [if_pos hj]; exact hk a w q
    · rename_i hj; rw [if_neg hj]; exact q
  | normal => exact hk a w q
  | _ => exact q

/-! The document's sums: digits with signs. -/
def sgnE : List Int → Bool
  | [] => false
  | x :: l => if x = 0 then sgnE l else decide (x < 0)
def nrmC : List Int → List Int × Int
  | [] => ([], 0)
  | x :: l => ((x + (nrmC l).2) % 256 :: (nrmC l).1, (x + (nrmC l).2) / 256)
theorem nrm_len : ∀ l : List Int, (nrmC l).1.length = l.length
  | [] => rfl
  | x :: l => by simp [nrmC, nrm_len l]
theorem nrm_wf : ∀ l : List Int, WfB (nrmC l).1
  | [] => fun x hx => by cases hx
  | x :: l => by
    intro y hy
    simp only [nrmC] at hy
    cases hy with
    | head => omega
    | tail _ hy => exact nrm_wf l y hy
theorem nrm_val : ∀ (l : List Int) (q : Int), valA (q + (nrmC l).2) (nrmC l).1 = valA q l
  | [], q => by simp [nrmC, valA]
  | x :: l, q => by
    have := nrm_val l (256 * q + x)
    simp only [nrmC, valA]
    rw [← this]
    congr 1
    omega
theorem nrm_low : ∀ l : List Int, (∀ x ∈ l, -510 ≤ x ∧ x ≤ 510) → -2 ≤ (nrmC l).2 ∧ (nrmC l).2 ≤ 1
  | [], _ => by simp [nrmC]
  | x :: l, h => by
    have hx := h x (List.mem_cons_self ..)
    have := nrm_low l fun y hy => h y (List.mem_cons_of_mem _ hy)
    simp only [nrmC]
    omega
theorem sgn_small : ∀ (l : List Int), (∀ x ∈ l, -255 ≤ x ∧ x ≤ 255) → sgnE l = decide (valA 0 l < 0) := by
  have pos : ∀ (l : List Int) (c : Int), (∀ x ∈ l, -255 ≤ x ∧ x ≤ 255) → 1 ≤ c → 1 ≤ valA c l := by
    intro l
    induction l with
    | nil => intro c _ h; exact h
    | cons x l ih =>
      intro c h hc
      have hx := h x (List.mem_cons_self ..)
      exact ih _ (fun y hy => h y (List.mem_cons_of_mem _ hy)) (by omega)
  have neg : ∀ (l : List Int) (c : Int), (∀ x ∈ l, -255 ≤ x ∧ x ≤ 255) → c ≤ -1 → valA c l ≤ -1 := by
    intro l
    induction l with
    | nil => intro c _ h; exact h
    | cons x l ih =>
      intro c h hc
      have hx := h x (List.mem_cons_self ..)
      exact ih _ (fun y hy => h y (List.mem_cons_of_mem _ hy)) (by omega)
  intro l
  induction l with
  | nil => intro _; rfl
  | cons x l ih =>
    intro h
    have hl : ∀ y ∈ l, -255 ≤ y ∧ y ≤ 255 := fun y hy => h y (List.mem_cons_of_mem _ hy)
    have e : valA 0 (x :: l) = valA (256 * 0 + x) l := rfl
    rw [e]
    simp only [sgnE]
    by_cases hx : x = 0
    · subst hx
      rw [if_pos rfl]
      exact ih hl
    · rw [if_neg hx]
      rw [decide_eq_decide]
      rcases (by omega : x < 0 ∨ 0 ≤ x) with h0 | h0
      · have := neg l (256 * 0 + x) hl (by omega)
        omega
      · have := pos l (256 * 0 + x) hl (by omega)
        omega
theorem sgn_up : ∀ (l : List Int), (∀ x ∈ l, 0 ≤ x) → sgnE l = decide (valA 0 l < 0) := by
  intro l h
  have ge : ∀ (l : List Int) (c : Int), (∀ x ∈ l, 0 ≤ x) → 0 ≤ c → 0 ≤ valA c l := by
    intro l
    induction l with
    | nil => intro c _ h; exact h
    | cons x l ih =>
      intro c h hc
      have hx := h x (List.mem_cons_self ..)
      exact ih _ (fun y hy => h y (List.mem_cons_of_mem _ hy)) (by omega)
  have h1 := ge l 0 h (by decide)
  have h2 : sgnE l = false := by
    clear h1 ge
    induction l with
    | nil => rfl
    | cons x l ih =>
      have hx := h x (List.mem_cons_self ..)
      simp only [sgnE]
      split
      · exact ih fun y hy => h y (List.mem_cons_of_mem _ hy)
      · simp; omega
  rw [h2]
  have : ¬ valA 0 l < 0 := by omega
  simp [this]
theorem sgn_down : ∀ (l : List Int), (∀ x ∈ l, x ≤ 0) → sgnE l = decide (valA 0 l < 0) := by
  have le : ∀ (l : List Int) (c : Int), (∀ x ∈ l, x ≤ 0) → c ≤ 0 → valA c l ≤ c := by
    intro l
    induction l with
    | nil => intro c _ _; exact Int.le_refl _
    | cons x l ih =>
      intro c h hc
      have hx := h x (List.mem_cons_self ..)
      have := ih (256 * c + x) (fun y hy => h y (List.mem_cons_of_mem _ hy)) (by omega)
      simp only [valA]
      omega
  intro l
  induction l with
  | nil => intro _; rfl
  | cons x l ih =>
    intro h
    have hx := h x (List.mem_cons_self ..)
    have hl : ∀ y ∈ l, y ≤ 0 := fun y hy => h y (List.mem_cons_of_mem _ hy)
    have e : valA 0 (x :: l) = valA (256 * 0 + x) l := rfl
    rw [e]
    simp only [sgnE]
    by_cases hx0 : x = 0
    · subst hx0
      rw [if_pos rfl]
      exact ih hl
    · rw [if_neg hx0, decide_eq_decide]
      have := le l (256 * 0 + x) hl (by omega)
      omega
def sg (b : Bool) (x : Int) : Int := cond b (-x) x
/-- Digits of both, with their signs. -/
def zipE (ba bb : Bool) : List Int → List Int → List Int
  | x :: a, y :: b => (sg ba x + sg bb y) :: zipE ba bb a b
  | _, _ => []
theorem zip_len (ba bb : Bool) : ∀ (a b : List Int), a.length = b.length → (zipE ba bb a b).length = a.length
  | [], [], _ => rfl
  | x :: a, y :: b, h => by simp [zipE, zip_len ba bb a b (by simpa using h)]
  | [], _ :: _, h => by simp at h
  | _ :: _, [], h => by simp at h
theorem zip_val (ba bb : Bool) : ∀ (a b : List Int) (p q : Int), a.length = b.length → valA (sg ba p + sg bb q) (zipE ba bb a b) = sg ba (valA p a) + sg bb (valA q b)
  | [], [], p, q, _ => rfl
  | x :: a, y :: b, p, q, h => by
    have := zip_val ba bb a b (256 * p + x) (256 * q + y) (by simpa using h)
    simp only [zipE, valA]
    rw [← this]
    congr 1
    cases ba <;> cases bb <;> simp only [sg, cond_true, cond_false] <;> omega
  | [], _ :: _, _, _, h => by simp at h
  | _ :: _, [], _, _, h => by simp at h
theorem zip_get (ba bb : Bool) : ∀ (a b : List Int) (i : Nat), a.length = b.length → i < a.length → (zipE ba bb a b).getD i 0 = sg ba (a.getD i 0) + sg bb (b.getD i 0)
  | [], _, _, _, h => by simp at h
  | x :: a, [], _, h, _ => by simp at h
  | x :: a, y :: b, 0, _, _ => rfl
  | x :: a, y :: b, i + 1, h, hi => by
    have := zip_get ba bb a b i (by simpa using h) (by simpa using hi)
    simpa [zipE] using this
theorem zip_sgn (ba bb : Bool) (a b : List Int) (ha : WfB a) (hb : WfB b) (hl : a.length = b.length) : sgnE (zipE ba bb a b) = decide (valA 0 (zipE ba bb a b) < 0) := by
  have mem : ∀ (a b : List Int), WfB a → WfB b → ∀ z ∈ zipE ba bb a b, ∃ x y, z = sg ba x + sg bb y ∧ 0 ≤ x ∧ x < 256 ∧ 0 ≤ y ∧ y < 256 := by
    intro a
    induction a with
    | nil => intro b _ _ z hz; simp [zipE] at hz
    | cons x a ih =>
      intro b ha hb z hz
      cases b with
      | nil => simp [zipE] at hz
      | cons y b =>
        have hx := ha x (List.mem_cons_self ..)
        have hy := hb y (List.mem_cons_self ..)
        simp only [zipE] at hz
        cases hz with
        | head => exact ⟨x, y, rfl, hx.1, hx.2, hy.1, hy.2⟩
        | tail _ hz => exact ih b (wf_tail ha) (wf_tail hb) z hz
  have hm := mem a b ha hb
  cases ba <;> cases bb
  · exact sgn_up _ fun z hz => by
      obtain ⟨x, y, rfl, h⟩ := hm z hz
      simp only [sg, cond_false]; omega
  · exact sgn_small _ fun z hz => by
      obtain ⟨x, y, rfl, h⟩ := hm z hz
      simp only [sg, cond_false, cond_true]; omega
  · exact sgn_small _ fun z hz => by
      obtain ⟨x, y, rfl, h⟩ := hm z hz
      simp only [sg, cond_false, cond_true]; omega
  · exact sgn_down _ fun z hz => by
      obtain ⟨x, y, rfl, h⟩ := hm z hz
      simp only [sg, cond_true]; omega
theorem zip_rng (ba bb : Bool) : ∀ (a b : List Int), WfB a → WfB b → ∀ z ∈ zipE ba bb a b, -510 ≤ z ∧ z ≤ 510
  | [], _, _, _ => fun z hz => by simp [zipE] at hz
  | x :: a, [], _, _ => fun z hz => by simp [zipE] at hz
  | x :: a, y :: b, ha, hb => by
    intro z hz
    have hx := ha x (List.mem_cons_self ..)
    have hy := hb y (List.mem_cons_self ..)
    simp only [zipE] at hz
    cases hz with
    | head => cases ba <;> cases bb <;> simp only [sg, cond_true, cond_false] <;> omega
    | tail _ hz => exact zip_rng ba bb a b (wf_tail ha) (wf_tail hb) z hz
theorem val_map_neg : ∀ (l : List Int) (c : Int), valA (-c) (l.map fun x => -x) = -(valA c l)
  | [], c => rfl
  | x :: l, c => by
    simp only [List.map_cons, valA]
    rw [← val_map_neg l (256 * c + x)]
    congr 1
    omega

/-- A size's digit of so many places from behind. -/
def digR (s : List Int) (i : Nat) : Int := if i < s.length then s.getD (s.length - 1 - i) 0 else 0
theorem pad_digR (s : List Int) (n i : Nat) (hn : s.length ≤ n) (hi : i < n) : (padL s n).getD (n - 1 - i) 0 = digR s i := by
  unfold padL digR
  rw [List.getD_eq_getElem?_getD]
  by_cases h : i < s.length
  · rw [if_pos h, List.getElem?_append_right (by simp; omega), List.length_replicate, List.getD_eq_getElem?_getD]
    congr 2
    omega
  · rw [if_neg h, List.getElem?_append_left (by simp; omega), List.getElem?_replicate]
    split <;> rfl
theorem digR_low (s : List Int) (i : Nat) (hw : WfB s) : 0 ≤ digR s i ∧ digR s i < 256 := by
  unfold digR
  split
  · rename_i h
    have : s.getD (s.length - 1 - i) 0 = s[s.length - 1 - i]'(by omega) := by simp [show s.length - 1 - i < s.length by omega]
    rw [this]
    exact hw _ (List.getElem_mem _)
  · omega
theorem sg_low (b : Bool) (x : Int) (h : 0 ≤ x ∧ x < 256) : -255 ≤ sg b x ∧ sg b x ≤ 255 := by cases b <;> simp only [sg, cond_true, cond_false] <;> omega

theorem fill_zero (A : List Int) (i : Nat) (hi : i < A.length) : (fillUp A i).getD i 0 = 0 ∧ (fillUp A i).set i 0 = fillUp A i := by
  have h1 : (fillUp A i)[i]? = some 0 := by
    unfold fillUp
    rw [List.getElem?_append_right (by simp; omega), List.getElem?_replicate, if_pos (by simp; omega)]
  refine ⟨by rw [List.getD_eq_getElem?_getD, h1]; rfl, ?_⟩
  apply List.ext_getElem?
  intro k
  rw [List.getElem?_set]
  by_cases h : i = k
  · subst h
    rw [if_pos rfl, h1, if_pos (by rw [fillUp_length]; exact hi)]
  · rw [if_neg h]
theorem sum_end (be ce bw : Bool) (s t EE : List Int) (n : Nat) (hn : max s.length t.length + 1 = n) (hws : WfB s) (hwt : WfB t) (hE : zipE be ce (padL s n) (padL t n) = EE) (hb : bw = sgnE EE) (hl : EE.length = n) :
    zOf bw (nrmC (cond bw (EE.map fun x => -x) EE)).1 = zOf be s + zOf ce t := by
  have hls := pad_len s n (by omega)
  have hlt := pad_len t n (by omega)
  have hv := zip_val be ce (padL s n) (padL t n) 0 0 (by omega)
  have hsg := zip_sgn be ce (padL s n) (padL t n) (pad_wf n hws) (pad_wf n hwt) (by omega)
  rw [pad_val, pad_val, hE] at hv
  rw [hE, ← hb] at hsg
  have e0 : sg be 0 + sg ce 0 = 0 := by cases be <;> cases ce <;> rfl
  rw [e0] at hv
  have es : sg be (valA 0 s) = zOf be s := rfl
  have et : sg ce (valA 0 t) = zOf ce t := rfl
  rw [es, et] at hv
  have hmn := val_map_neg EE 0
  have b1 := val_bound s 0 hws
  have b2 := val_bound t 0 hwt
  have n1 := val_nonneg s 0 (by decide) hws
  have n2 := val_nonneg t 0 (by decide) hwt
  have p1 := pow_le s.length (n - 1) (by omega)
  have p2 := pow_le t.length (n - 1) (by omega)
  have p3 : (256 : Int) ^ n = 256 * 256 ^ (n - 1) := by
    rw [show n = (n - 1) + 1 by omega, Int.pow_succ, Int.mul_comm]; simp
  have hz1 : zOf be s = valA 0 s ∨ zOf be s = -(valA 0 s) := by cases be <;> simp [zOf]
  have hz2 : zOf ce t = valA 0 t ∨ zOf ce t = -(valA 0 t) := by cases ce <;> simp [zOf]
  have key : ∀ (Z : List Int), Z.length = n → 0 ≤ valA 0 Z → valA 0 Z < 256 ^ n → valA 0 (nrmC Z).1 = valA 0 Z := by
    intro Z hZl hZ0 hZ1
    have hnv := nrm_val Z 0
    have hnw := nrm_wf Z
    have hnl := nrm_len Z
    rw [Int.zero_add] at hnv
    have hc : (nrmC Z).2 = 0 := by
      rcases (by omega : (nrmC Z).2 < 0 ∨ (nrmC Z).2 = 0 ∨ 1 ≤ (nrmC Z).2) with h | h | h
      · have := val_neg (nrmC Z).1 (nrmC Z).2 h hnw
        omega
      · exact h
      · have h1 := val_ge (nrmC Z).1 (nrmC Z).2 (by omega) hnw
        rw [hnl, hZl] at h1
        have h2 : (1 : Int) * 256 ^ n ≤ (nrmC Z).2 * 256 ^ n := Int.mul_le_mul_of_nonneg_right h (Int.pow_nonneg (by decide))
        omega
    rw [hc] at hnv
    exact hnv
  cases bw with
  | true =>
    have hneg : valA 0 EE < 0 := by simpa using hsg.symm
    have hm0 : valA 0 (EE.map fun x => -x) = -(valA 0 EE) := hmn
    have := key (EE.map fun x => -x) (by simpa using hl) (by omega) (by omega)
    rw [zOf_t]
    simp only [cond_true]
    rw [this, hm0]
    omega
  | false =>
    have hneg : ¬ valA 0 EE < 0 := by simpa using hsg.symm
    have := key EE hl (by omega) (by omega)
    rw [zOf_f]
    simp only [cond_false]
    rw [this]
    omega
set_option maxHeartbeats 4000000 in
theorem refadd_ok (b c : Bool) (l m : List Int) (hl : l.length ≤ 9000) (hm : m.length ≤ 9000) (hwl : WfB l) (hwm : WfB m) : Ct Try.prog 54 [numA b l, numA c m] [] (numZ (zOf b l + zOf c m)) [] [] := by
  have hz1 := zOf_made b l hwl
  have hz2 := zOf_made c m hwm
  have hws := wf_trim hwl
  have hwt := wf_trim hwm
  have hls := len_trim l
  have hlt := len_trim m
  rw [← hz1, ← hz2]
  refine Ct_intro Try.func54 rfl rfl rfl rfl rfl (fun E hn hb => ?_)
  repeat (first | refine W_seq ?_ | refine W_region ?_ | refine W_block ?_ | refine W_skip ?_ | refine W_ret ?_ | refine W_exit ?_ | refine WL_nil ?_ | refine N_then ?_ | refine N_then_exit ?_ | refine N_then_ret ?_ | refine N_block ?_ | refine N_block_ret ?_ | refine N_block_exit ?_ | refine N_block_pass rfl ?_ | refine sp true rfl rfl (by rw [hn]; rfl) (by first | trivial | (simp; done) | (simp; omega) | (simp at *; done) | (simp at *; omega)) ?_ | refine sg true rfl rfl rfl (by rw [hn]; rfl) (by intro hG; first | trivial | (simp; done) | (simp; omega) | (simp at *; done) | (simp at *; omega)) ?_)
  refine s_boxN rfl rfl rfl (by rw [hn]; rfl) rfl (by first | trivial | (simp; done) | (simp; omega) | (simp at *; done) | (simp at *; omega)) rfl rfl ?_
  refine s_boxN rfl rfl rfl (by rw [hn]; rfl) rfl (by first | trivial | (simp; done) | (simp; omega) | (simp at *; done) | (simp at *; omega)) rfl rfl ?_
  refine s_allocN rfl rfl rfl (by rw [hn]; rfl) rfl zok24 ?_
  repeat (first | refine W_seq ?_ | refine W_region ?_ | refine W_block ?_ | refine W_skip ?_ | refine W_ret ?_ | refine W_exit ?_ | refine WL_nil ?_ | refine N_then ?_ | refine N_then_exit ?_ | refine N_then_ret ?_ | refine N_block ?_ | refine N_block_ret ?_ | refine N_block_exit ?_ | refine N_block_pass rfl ?_ | refine sp true rfl rfl (by rw [hn]; rfl) (by first | trivial | (simp; done) | (simp; omega) | (simp at *; done) | (simp at *; omega)) ?_ | refine sg true rfl rfl rfl (by rw [hn]; rfl) (by intro hG; first | trivial | (simp; done) | (simp; omega) | (simp at *; done) | (simp at *; omega)) ?_)
  refine W_drawW 4 (by kernel_rfl) (by kernel_rfl) (by kernel_rfl) (by rw [hn]; rfl) rfl rfl ?_
  repeat (first | refine DrawW_cons rfl (ops_pure true rfl rfl (by first | trivial | (simp; done) | (simp; omega) | (simp at *; done) | (simp at *; omega))) ?_ | refine DrawW_cons rfl (ops_pureG true rfl rfl rfl (by intro hG; first | trivial | (simp; done) | (simp; omega) | (simp at *; done) | (simp at *; omega))) ?_ | refine DrawW_nil ?_)
  refine DrawW_cons rfl (ops_of (opys_call (refmade_ok b l (by omega)) rfl rfl rfl (by first | trivial | (simp; done) | (simp; omega) | (simp at *; done) | (simp at *; omega)) rfl rfl rfl) rfl) ?_
  repeat (first | refine DrawW_cons rfl (ops_pure true rfl rfl (by first | trivial | (simp; done) | (simp; omega) | (simp at *; done) | (simp at *; omega))) ?_ | refine DrawW_cons rfl (ops_pureG true rfl rfl rfl (by intro hG; first | trivial | (simp; done) | (simp; omega) | (simp at *; done) | (simp at *; omega))) ?_ | refine DrawW_nil ?_)
  refine DrawW_cons rfl (ops_of (opys_call (refmade_ok c m (by omega)) rfl rfl rfl (by first | trivial | (simp; done) | (simp; omega) | (simp at *; done) | (simp at *; omega)) rfl rfl rfl) rfl) ?_
  repeat (first | refine DrawW_cons rfl (ops_pure true rfl rfl (by first | trivial | (simp; done) | (simp; omega) | (simp at *; done) | (simp at *; omega))) ?_ | refine DrawW_cons rfl (ops_pureG true rfl rfl rfl (by intro hG; first | trivial | (simp; done) | (simp; omega) | (simp at *; done) | (simp at *; omega))) ?_ | refine DrawW_nil ?_)
  refine s_storeN rfl rfl rfl rfl rfl (by first | trivial | (simp; done) | (simp; omega) | (simp at *; done) | (simp at *; omega)) rfl rfl rfl (by rw [cellsOf24]; rfl) (by rw [info24]; rfl) rfl rfl ?_
  refine s_storeN rfl rfl rfl rfl rfl (by first | trivial | (simp; done) | (simp; omega) | (simp at *; done) | (simp at *; omega)) rfl rfl rfl (by rw [cellsOf24]; rfl) (by rw [info24]; rfl) rfl rfl ?_
  repeat (first | refine W_seq ?_ | refine W_region ?_ | refine W_block ?_ | refine W_skip ?_ | refine W_ret ?_ | refine W_exit ?_ | refine WL_nil ?_ | refine N_then ?_ | refine N_then_exit ?_ | refine N_then_ret ?_ | refine N_block ?_ | refine N_block_ret ?_ | refine N_block_exit ?_ | refine N_block_pass rfl ?_ | refine sp true rfl rfl (by rw [hn]; rfl) (by first | trivial | (simp; done) | (simp; omega) | (simp at *; done) | (simp at *; omega)) ?_ | refine sg true rfl rfl rfl (by rw [hn]; rfl) (by intro hG; first | trivial | (simp; done) | (simp; omega) | (simp at *; done) | (simp at *; omega)) ?_)
  generalize madeB b l = be at *
  generalize madeB c m = ce at *
  generalize trimL l = s at *
  generalize trimL m = t at *
  clear hz1 hz2
  refine W_join (St.of [(2, .c (.ptr 66 0)), (3, .c (.ptr 67 0)), (4, .c (.ptr 68 0)), (5, lv (.int .i64 ((max s.length t.length : Nat) : Int)))] [(66, .cells [.lf (.v (.bool be)), .lf (.ints .u8 s)]), (67, .cells [.lf (.v (.bool ce)), .lf (.ints .u8 t)]), (68, .cells [.lf (.v (.bool false)), .lf (.v (.slice none 0 0))])]) ?_ ?_
  · refine W_cond rfl (by simp) (fun hq => ?_) (fun hq => ?_)
    · have h1 : s.length < t.length := by simpa using hq
      have e : max s.length t.length = t.length := by omega
      rw [e]
      repeat (first | refine W_seq ?_ | refine W_region ?_ | refine W_block ?_ | refine W_skip ?_ | refine W_ret ?_ | refine W_exit ?_ | refine WL_nil ?_ | refine N_then ?_ | refine N_then_exit ?_ | refine N_then_ret ?_ | refine N_block ?_ | refine N_block_ret ?_ | refine N_block_exit ?_ | refine N_block_pass rfl ?_ | refine sp true rfl rfl (by rw [hn]; rfl) (by first | trivial | (simp; done) | (simp; omega) | (simp at *; done) | (simp at *; omega)) ?_ | refine sg true rfl rfl rfl (by rw [hn]; rfl) (by intro hG; first | trivial | (simp; done) | (simp; omega) | (simp at *; done) | (simp at *; omega)) ?_)
      (refine N_join ?_; refine St.le_of ⟨?_, ?_⟩ <;> (repeat' (first | exact trivial | exact rfl | refine ⟨?_, ?_⟩)) <;> first | exact rfl | (simp; done) | skip)
    · have h1 : ¬ s.length < t.length := by simp at hq; omega
      have e : max s.length t.length = s.length := by omega
      rw [e]
      repeat (first | refine W_seq ?_ | refine W_region ?_ | refine W_block ?_ | refine W_skip ?_ | refine W_ret ?_ | refine W_exit ?_ | refine WL_nil ?_ | refine N_then ?_ | refine N_then_exit ?_ | refine N_then_ret ?_ | refine N_block ?_ | refine N_block_ret ?_ | refine N_block_exit ?_ | refine N_block_pass rfl ?_ | refine sp true rfl rfl (by rw [hn]; rfl) (by first | trivial | (simp; done) | (simp; omega) | (simp at *; done) | (simp at *; omega)) ?_ | refine sg true rfl rfl rfl (by rw [hn]; rfl) (by intro hG; first | trivial | (simp; done) | (simp; omega) | (simp at *; done) | (simp at *; omega)) ?_)
      (refine N_join ?_; refine St.le_of ⟨?_, ?_⟩ <;> (repeat' (first | exact trivial | exact rfl | refine ⟨?_, ?_⟩)) <;> first | exact rfl | (simp; done) | skip)
  repeat (first | refine W_seq ?_ | refine W_region ?_ | refine W_block ?_ | refine W_skip ?_ | refine W_ret ?_ | refine W_exit ?_ | refine WL_nil ?_ | refine N_then ?_ | refine N_then_exit ?_ | refine N_then_ret ?_ | refine N_block ?_ | refine N_block_ret ?_ | refine N_block_exit ?_ | refine N_block_pass rfl ?_ | refine sp true rfl rfl (by rw [hn]; rfl) (by first | trivial | (simp; done) | (simp; omega) | (simp at *; done) | (simp at *; omega)) ?_ | refine sg true rfl rfl rfl (by rw [hn]; rfl) (by intro hG; first | trivial | (simp; done) | (simp; omega) | (simp at *; done) | (simp at *; omega)) ?_)
  generalize hN : max s.length t.length + 1 = n
  have hN2 : ((max s.length t.length : Nat) : Int) + 1 = (n : Int) := by omega
  rw [hN2]
  refine s_makeI (by_ := 8) rfl rfl rfl (by rw [hn]; rfl) (elt_mk Try.underlying60 rfl rfl) rfl rfl rfl (by first | trivial | (simp; done) | (simp; omega) | (simp at *; done) | (simp at *; omega)) n (by first | rfl | (simp; done) | omega) (by first | (simp; done) | omega | (simp at *; omega)) ?_
  repeat (first | refine W_seq ?_ | refine W_region ?_ | refine W_block ?_ | refine W_skip ?_ | refine W_ret ?_ | refine W_exit ?_ | refine WL_nil ?_ | refine N_then ?_ | refine N_then_exit ?_ | refine N_then_ret ?_ | refine N_block ?_ | refine N_block_ret ?_ | refine N_block_exit ?_ | refine N_block_pass rfl ?_ | refine sp true rfl rfl (by rw [hn]; rfl) (by first | trivial | (simp; done) | (simp; omega) | (simp at *; done) | (simp at *; omega)) ?_ | refine sg true rfl rfl rfl (by rw [hn]; rfl) (by intro hG; first | trivial | (simp; done) | (simp; omega) | (simp at *; done) | (simp at *; omega)) ?_)
  have hzl := zip_len be ce (padL s n) (padL t n) (by rw [pad_len _ _ (by omega), pad_len _ _ (by omega)])
  rw [pad_len _ _ (by omega)] at hzl
  have hRl : (zipE be ce (padL s n) (padL t n)).reverse.length = n := by rw [List.length_reverse, hzl]
  have hRg : ∀ i, i < n → (zipE be ce (padL s n) (padL t n)).reverse[i]? = some (sg be (digR s i) + sg ce (digR t i)) := by
    intro i hi
    rw [List.getElem?_reverse (by omega), hzl]
    have h1 := zip_get be ce (padL s n) (padL t n) (n - 1 - i) (by rw [pad_len _ _ (by omega), pad_len _ _ (by omega)]) (by rw [pad_len _ _ (by omega)]; omega)
    rw [pad_digR s n i (by omega) hi, pad_digR t n i (by omega) hi] at h1
    rw [← h1, List.getD_eq_getElem?_getD]
    have h2 : n - 1 - i < (zipE be ce (padL s n) (padL t n)).length := by omega
    rw [List.getElem?_eq_getElem h2]; rfl
  generalize hE : zipE be ce (padL s n) (padL t n) = EE at *
  have e0 : List.replicate n (0 : Int) = fillUp EE.reverse 0 := by rw [fillUp_zero, hRl]
  refine W_weaken (St.le_of (l := [(2, .c (.ptr 66 0)), (3, .c (.ptr 67 0)), (4, .c (.ptr 68 0)), (5, lv (.int .i64 (n : Int))), (6, .c (.own 98 1 0 n)), (7, lv (.int .i64 0))]) (h := [(66, .cells [.lf (.v (.bool be)), .lf (.ints .u8 s)]), (67, .cells [.lf (.v (.bool ce)), .lf (.ints .u8 t)]), (68, .cells [.lf (.v (.bool false)), .lf (.v (.slice none 0 0))]), (98, .row (.ints .i64 (List.replicate n 0)))]) (by refine ⟨?_, ?_⟩ <;> (repeat' (first | exact trivial | exact rfl | refine ⟨?_, ?_⟩)) <;> first | exact rfl | (simp; done) | skip)) ?_
  rw [e0]
  refine W_loop (ι := {i : Nat // i ≤ n}) (fun i => St.of [(2, .c (.ptr 66 0)), (3, .c (.ptr 67 0)), (4, .c (.ptr 68 0)), (5, lv (.int .i64 (n : Int))), (6, .c (.own 98 1 0 n)), (7, lv (.int .i64 (i.1 : Int)))] [(66, .cells [.lf (.v (.bool be)), .lf (.ints .u8 s)]), (67, .cells [.lf (.v (.bool ce)), .lf (.ints .u8 t)]), (68, .cells [.lf (.v (.bool false)), .lf (.v (.slice none 0 0))]), (98, .row (.ints .i64 (fillUp EE.reverse i.1)))]) (fun i => n - i.1) (fun i => ?_) ⟨0, by omega⟩
  obtain ⟨i, hi⟩ := i
  dsimp only
  have hfl : (fillUp EE.reverse i).length = n := by rw [fillUp_length, hRl]
  repeat (first | refine W_seq ?_ | refine W_region ?_ | refine W_block ?_ | refine W_skip ?_ | refine W_ret ?_ | refine W_exit ?_ | refine WL_nil ?_ | refine N_then ?_ | refine N_then_exit ?_ | refine N_then_ret ?_ | refine N_block ?_ | refine N_block_ret ?_ | refine N_block_exit ?_ | refine N_block_pass rfl ?_ | refine sp true rfl rfl (by rw [hn]; rfl) (by first | trivial | (simp; done) | (simp; omega) | (simp at *; done) | (simp at *; omega)) ?_ | refine sg true rfl rfl rfl (by rw [hn]; rfl) (by intro hG; first | trivial | (simp; done) | (simp; omega) | (simp at *; done) | (simp at *; omega)) ?_)
  refine W_cond rfl (by simp) (fun hc => ?_) (fun hc => ?_)
  · have hin : i < n := by simp at hc; omega
    obtain ⟨hz1, hz2⟩ := fill_zero EE.reverse i (by omega)
    have hds := digR_low s i hws
    have hdt := digR_low t i hwt
    have hsg1 := sg_low be _ hds
    have hsg2 := sg_low ce _ hdt
    have hup := fillUp_set EE.reverse i _ (hRg i hin)
    generalize hdd : fillUp EE.reverse i = d at *
    repeat (first | refine W_seq ?_ | refine W_region ?_ | refine W_block ?_ | refine W_skip ?_ | refine W_ret ?_ | refine W_exit ?_ | refine WL_nil ?_ | refine N_then ?_ | refine N_then_exit ?_ | refine N_then_ret ?_ | refine N_block ?_ | refine N_block_ret ?_ | refine N_block_exit ?_ | refine N_block_pass rfl ?_ | refine sp true rfl rfl (by rw [hn]; rfl) (by first | trivial | (simp; done) | (simp; omega) | (simp at *; done) | (simp at *; omega)) ?_ | refine sg true rfl rfl rfl (by rw [hn]; rfl) (by intro hG; first | trivial | (simp; done) | (simp; omega) | (simp at *; done) | (simp at *; omega)) ?_)
    refine W_join (St.of [(2, .c (.ptr 66 0)), (3, .c (.ptr 67 0)), (4, .c (.ptr 68 0)), (5, lv (.int .i64 (n : Int))), (6, .c (.own 98 1 0 n)), (7, lv (.int .i64 (i : Int)))] [(66, .cells [.lf (.v (.bool be)), .lf (.ints .u8 s)]), (67, .cells [.lf (.v (.bool ce)), .lf (.ints .u8 t)]), (68, .cells [.lf (.v (.bool false)), .lf (.v (.slice none 0 0))]), (98, .row (.ints .i64 (d.set i (sg be (digR s i)))))]) ?_ ?_
    · refine W_cond rfl (by simp) (fun hq => ?_) (fun hq => ?_)
      · have h1 : i < s.length := by simpa using hq
        have hg : s.getD ((s.length : Int) - 1 - i).toNat 0 = digR s i := by
          rw [digR, if_pos h1]; congr 1; omega
        repeat (first | refine W_seq ?_ | refine W_region ?_ | refine W_block ?_ | refine W_skip ?_ | refine W_ret ?_ | refine W_exit ?_ | refine WL_nil ?_ | refine N_then ?_ | refine N_then_exit ?_ | refine N_then_ret ?_ | refine N_block ?_ | refine N_block_ret ?_ | refine N_block_exit ?_ | refine N_block_pass rfl ?_ | refine sp true rfl rfl (by rw [hn]; rfl) (by first | trivial | (simp; done) | (simp; omega) | (simp at *; done) | (simp at *; omega)) ?_ | refine sg true rfl rfl rfl (by rw [hn]; rfl) (by intro hG; first | trivial | (simp; done) | (simp; omega) | (simp at *; done) | (simp at *; omega)) ?_)
        rw [hg]
        repeat (first | refine W_seq ?_ | refine W_region ?_ | refine W_block ?_ | refine W_skip ?_ | refine W_ret ?_ | refine W_exit ?_ | refine WL_nil ?_ | refine N_then ?_ | refine N_then_exit ?_ | refine N_then_ret ?_ | refine N_block ?_ | refine N_block_ret ?_ | refine N_block_exit ?_ | refine N_block_pass rfl ?_ | refine sp true rfl rfl (by rw [hn]; rfl) (by first | trivial | (simp; done) | (simp; omega) | (simp at *; done) | (simp at *; omega)) ?_ | refine sg true rfl rfl rfl (by rw [hn]; rfl) (by intro hG; first | trivial | (simp; done) | (simp; omega) | (simp at *; done) | (simp at *; omega)) ?_)
        refine W_join (St.of [(2, .c (.ptr 66 0)), (3, .c (.ptr 67 0)), (4, .c (.ptr 68 0)), (5, lv (.int .i64 (n : Int))), (6, .c (.own 98 1 0 n)), (7, lv (.int .i64 (i : Int))), (8, lv (.int .i64 (sg be (digR s i))))] [(66, .cells [.lf (.v (.bool be)), .lf (.ints .u8 s)]), (67, .cells [.lf (.v (.bool ce)), .lf (.ints .u8 t)]), (68, .cells [.lf (.v (.bool false)), .lf (.v (.slice none 0 0))]), (98, .row (.ints .i64 d))]) ?_ ?_
        · refine W_cond rfl (by simp) (fun hr => ?_) (fun hr => ?_)
          · subst hr
            repeat (first | refine W_seq ?_ | refine W_region ?_ | refine W_block ?_ | refine W_skip ?_ | refine W_ret ?_ | refine W_exit ?_ | refine WL_nil ?_ | refine N_then ?_ | refine N_then_exit ?_ | refine N_then_ret ?_ | refine N_block ?_ | refine N_block_ret ?_ | refine N_block_exit ?_ | refine N_block_pass rfl ?_ | refine sp true rfl rfl (by rw [hn]; rfl) (by first | trivial | (simp; done) | (simp; omega) | (simp at *; done) | (simp at *; omega)) ?_ | refine sg true rfl rfl rfl (by rw [hn]; rfl) (by intro hG; first | trivial | (simp; done) | (simp; omega) | (simp at *; done) | (simp at *; omega)) ?_)
            (refine N_join ?_; refine St.le_of ⟨?_, ?_⟩ <;> (repeat' (first | exact trivial | exact rfl | refine ⟨?_, ?_⟩)) <;> first | exact rfl | (simp; done) | skip)
          · subst hr
            repeat (first | refine W_seq ?_ | refine W_region ?_ | refine W_block ?_ | refine W_skip ?_ | refine W_ret ?_ | refine W_exit ?_ | refine WL_nil ?_ | refine N_then ?_ | refine N_then_exit ?_ | refine N_then_ret ?_ | refine N_block ?_ | refine N_block_ret ?_ | refine N_block_exit ?_ | refine N_block_pass rfl ?_ | refine sp true rfl rfl (by rw [hn]; rfl) (by first | trivial | (simp; done) | (simp; omega) | (simp at *; done) | (simp at *; omega)) ?_ | refine sg true rfl rfl rfl (by rw [hn]; rfl) (by intro hG; first | trivial | (simp; done) | (simp; omega) | (simp at *; done) | (simp at *; omega)) ?_)
            (refine N_join ?_; refine St.le_of ⟨?_, ?_⟩ <;> (repeat' (first | exact trivial | exact rfl | refine ⟨?_, ?_⟩)) <;> first | exact rfl | (simp; done) | skip)
        have hz3 : d.getD (0 + (i : Int).toNat) 0 = 0 := by rw [Nat.zero_add, Int.toNat_natCast]; exact hz1
        repeat (first | refine W_seq ?_ | refine W_region ?_ | refine W_block ?_ | refine W_skip ?_ | refine W_ret ?_ | refine W_exit ?_ | refine WL_nil ?_ | refine N_then ?_ | refine N_then_exit ?_ | refine N_then_ret ?_ | refine N_block ?_ | refine N_block_ret ?_ | refine N_block_exit ?_ | refine N_block_pass rfl ?_ | refine sp true rfl rfl (by rw [hn]; rfl) (by first | trivial | (simp; done) | (simp; omega) | (simp at *; done) | (simp at *; omega)) ?_ | refine sg true rfl rfl rfl (by rw [hn]; rfl) (by intro hG; first | trivial | (simp; done) | (simp; omega) | (simp at *; done) | (simp at *; omega)) ?_)
        rw [hz3]
        repeat (first | refine W_seq ?_ | refine W_region ?_ | refine W_block ?_ | refine W_skip ?_ | refine W_ret ?_ | refine W_exit ?_ | refine WL_nil ?_ | refine N_then ?_ | refine N_then_exit ?_ | refine N_then_ret ?_ | refine N_block ?_ | refine N_block_ret ?_ | refine N_block_exit ?_ | refine N_block_pass rfl ?_ | refine sp true rfl rfl (by rw [hn]; rfl) (by first | trivial | (simp; done) | (simp; omega) | (simp at *; done) | (simp at *; omega)) ?_ | refine sg true rfl rfl rfl (by rw [hn]; rfl) (by intro hG; first | trivial | (simp; done) | (simp; omega) | (simp at *; done) | (simp at *; omega)) ?_)
        refine s_storeI rfl rfl rfl rfl rfl (by first | trivial | (simp; done) | (simp; omega) | (simp at *; done) | (simp at *; omega)) rfl (by rw [cellsOf3]) (by first | (simp; done) | (simp; omega) | (simp at *; omega)) ?_
        repeat (first | refine W_seq ?_ | refine W_region ?_ | refine W_block ?_ | refine W_skip ?_ | refine W_ret ?_ | refine W_exit ?_ | refine WL_nil ?_ | refine N_then ?_ | refine N_then_exit ?_ | refine N_then_ret ?_ | refine N_block ?_ | refine N_block_ret ?_ | refine N_block_exit ?_ | refine N_block_pass rfl ?_ | refine sp true rfl rfl (by rw [hn]; rfl) (by first | trivial | (simp; done) | (simp; omega) | (simp at *; done) | (simp at *; omega)) ?_ | refine sg true rfl rfl rfl (by rw [hn]; rfl) (by intro hG; first | trivial | (simp; done) | (simp; omega) | (simp at *; done) | (simp at *; omega)) ?_)
        have e1 : d.set (0 + (i : Int).toNat) (0 + sg be (digR s i)) = d.set i (sg be (digR s i)) := by rw [Nat.zero_add, Int.toNat_natCast, Int.zero_add]
        rw [e1]
        (refine N_join ?_; refine St.le_of ⟨?_, ?_⟩ <;> (repeat' (first | exact trivial | exact rfl | refine ⟨?_, ?_⟩)) <;> first | exact rfl | (simp; done) | skip)
      · have h1 : ¬ i < s.length := by simp at hq; omega
        have e1 : d.set i (sg be (digR s i)) = d := by
          have : digR s i = 0 := by rw [digR, if_neg h1]
          rw [this]
          have h0 : sg be 0 = 0 := by cases be <;> rfl
          rw [h0, hz2]
        rw [e1]
        repeat (first | refine W_seq ?_ | refine W_region ?_ | refine W_block ?_ | refine W_skip ?_ | refine W_ret ?_ | refine W_exit ?_ | refine WL_nil ?_ | refine N_then ?_ | refine N_then_exit ?_ | refine N_then_ret ?_ | refine N_block ?_ | refine N_block_ret ?_ | refine N_block_exit ?_ | refine N_block_pass rfl ?_ | refine sp true rfl rfl (by rw [hn]; rfl) (by first | trivial | (simp; done) | (simp; omega) | (simp at *; done) | (simp at *; omega)) ?_ | refine sg true rfl rfl rfl (by rw [hn]; rfl) (by intro hG; first | trivial | (simp; done) | (simp; omega) | (simp at *; done) | (simp at *; omega)) ?_)
        (refine N_join ?_; refine St.le_of ⟨?_, ?_⟩ <;> (repeat' (first | exact trivial | exact rfl | refine ⟨?_, ?_⟩)) <;> first | exact rfl | (simp; done) | skip)
    have hd1l : (d.set i (sg be (digR s i))).length = n := by rw [List.length_set]; exact hfl
    have hd1g : (d.set i (sg be (digR s i))).getD i 0 = sg be (digR s i) := by
      rw [List.getD_eq_getElem?_getD, List.getElem?_set, if_pos rfl, if_pos (by omega)]; rfl
    have hd1s : ∀ x, (d.set i (sg be (digR s i))).set i x = d.set i x := fun x => List.set_set ..
    generalize d.set i (sg be (digR s i)) = d1 at *
    repeat (first | refine W_seq ?_ | refine W_region ?_ | refine W_block ?_ | refine W_skip ?_ | refine W_ret ?_ | refine W_exit ?_ | refine WL_nil ?_ | refine N_then ?_ | refine N_then_exit ?_ | refine N_then_ret ?_ | refine N_block ?_ | refine N_block_ret ?_ | refine N_block_exit ?_ | refine N_block_pass rfl ?_ | refine sp true rfl rfl (by rw [hn]; rfl) (by first | trivial | (simp; done) | (simp; omega) | (simp at *; done) | (simp at *; omega)) ?_ | refine sg true rfl rfl rfl (by rw [hn]; rfl) (by intro hG; first | trivial | (simp; done) | (simp; omega) | (simp at *; done) | (simp at *; omega)) ?_)
    refine W_join (St.of [(2, .c (.ptr 66 0)), (3, .c (.ptr 67 0)), (4, .c (.ptr 68 0)), (5, lv (.int .i64 (n : Int))), (6, .c (.own 98 1 0 n)), (7, lv (.int .i64 (i : Int)))] [(66, .cells [.lf (.v (.bool be)), .lf (.ints .u8 s)]), (67, .cells [.lf (.v (.bool ce)), .lf (.ints .u8 t)]), (68, .cells [.lf (.v (.bool false)), .lf (.v (.slice none 0 0))]), (98, .row (.ints .i64 (d1.set i (sg be (digR s i) + sg ce (digR t i)))))]) ?_ ?_
    · refine W_cond rfl (by simp) (fun hq => ?_) (fun hq => ?_)
      · have h1 : i < t.length := by simpa using hq
        have hg : t.getD ((t.length : Int) - 1 - i).toNat 0 = digR t i := by
          rw [digR, if_pos h1]; congr 1; omega
        repeat (first | refine W_seq ?_ | refine W_region ?_ | refine W_block ?_ | refine W_skip ?_ | refine W_ret ?_ | refine W_exit ?_ | refine WL_nil ?_ | refine N_then ?_ | refine N_then_exit ?_ | refine N_then_ret ?_ | refine N_block ?_ | refine N_block_ret ?_ | refine N_block_exit ?_ | refine N_block_pass rfl ?_ | refine sp true rfl rfl (by rw [hn]; rfl) (by first | trivial | (simp; done) | (simp; omega) | (simp at *; done) | (simp at *; omega)) ?_ | refine sg true rfl rfl rfl (by rw [hn]; rfl) (by intro hG; first | trivial | (simp; done) | (simp; omega) | (simp at *; done) | (simp at *; omega)) ?_)
        rw [hg]
        repeat (first | refine W_seq ?_ | refine W_region ?_ | refine W_block ?_ | refine W_skip ?_ | refine W_ret ?_ | refine W_exit ?_ | refine WL_nil ?_ | refine N_then ?_ | refine N_then_exit ?_ | refine N_then_ret ?_ | refine N_block ?_ | refine N_block_ret ?_ | refine N_block_exit ?_ | refine N_block_pass rfl ?_ | refine sp true rfl rfl (by rw [hn]; rfl) (by first | trivial | (simp; done) | (simp; omega) | (simp at *; done) | (simp at *; omega)) ?_ | refine sg true rfl rfl rfl (by rw [hn]; rfl) (by intro hG; first | trivial | (simp; done) | (simp; omega) | (simp at *; done) | (simp at *; omega)) ?_)
        refine W_join (St.of [(2, .c (.ptr 66 0)), (3, .c (.ptr 67 0)), (4, .c (.ptr 68 0)), (5, lv (.int .i64 (n : Int))), (6, .c (.own 98 1 0 n)), (7, lv (.int .i64 (i : Int))), (9, lv (.int .i64 (sg ce (digR t i))))] [(66, .cells [.lf (.v (.bool be)), .lf (.ints .u8 s)]), (67, .cells [.lf (.v (.bool ce)), .lf (.ints .u8 t)]), (68, .cells [.lf (.v (.bool false)), .lf (.v (.slice none 0 0))]), (98, .row (.ints .i64 d1))]) ?_ ?_
        · refine W_cond rfl (by simp) (fun hr => ?_) (fun hr => ?_)
          · subst hr
            repeat (first | refine W_seq ?_ | refine W_region ?_ | refine W_block ?_ | refine W_skip ?_ | refine W_ret ?_ | refine W_exit ?_ | refine WL_nil ?_ | refine N_then ?_ | refine N_then_exit ?_ | refine N_then_ret ?_ | refine N_block ?_ | refine N_block_ret ?_ | refine N_block_exit ?_ | refine N_block_pass rfl ?_ | refine sp true rfl rfl (by rw [hn]; rfl) (by first | trivial | (simp; done) | (simp; omega) | (simp at *; done) | (simp at *; omega)) ?_ | refine sg true rfl rfl rfl (by rw [hn]; rfl) (by intro hG; first | trivial | (simp; done) | (simp; omega) | (simp at *; done) | (simp at *; omega)) ?_)
            (refine N_join ?_; refine St.le_of ⟨?_, ?_⟩ <;> (repeat' (first | exact trivial | exact rfl | refine ⟨?_, ?_⟩)) <;> first | exact rfl | (simp; done) | skip)
          · subst hr
            repeat (first | refine W_seq ?_ | refine W_region ?_ | refine W_block ?_ | refine W_skip ?_ | refine W_ret ?_ | refine W_exit ?_ | refine WL_nil ?_ | refine N_then ?_ | refine N_then_exit ?_ | refine N_then_ret ?_ | refine N_block ?_ | refine N_block_ret ?_ | refine N_block_exit ?_ | refine N_block_pass rfl ?_ | refine sp true rfl rfl (by rw [hn]; rfl) (by first | trivial | (simp; done) | (simp; omega) | (simp at *; done) | (simp at *; omega)) ?_ | refine sg true rfl rfl rfl (by rw [hn]; rfl) (by intro hG; first | trivial | (simp; done) | (simp; omega) | (simp at *; done) | (simp at *; omega)) ?_)
            (refine N_join ?_; refine St.le_of ⟨?_, ?_⟩ <;> (repeat' (first | exact trivial | exact rfl | refine ⟨?_, ?_⟩)) <;> first | exact rfl | (simp; done) | skip)
        have hz3 : d1.getD (0 + (i : Int).toNat) 0 = sg be (digR s i) := by rw [Nat.zero_add, Int.toNat_natCast]; exact hd1g
        repeat (first | refine W_seq ?_ | refine W_region ?_ | refine W_block ?_ | refine W_skip ?_ | refine W_ret ?_ | refine W_exit ?_ | refine WL_nil ?_ | refine N_then ?_ | refine N_then_exit ?_ | refine N_then_ret ?_ | refine N_block ?_ | refine N_block_ret ?_ | refine N_block_exit ?_ | refine N_block_pass rfl ?_ | refine sp true rfl rfl (by rw [hn]; rfl) (by first | trivial | (simp; done) | (simp; omega) | (simp at *; done) | (simp at *; omega)) ?_ | refine sg true rfl rfl rfl (by rw [hn]; rfl) (by intro hG; first | trivial | (simp; done) | (simp; omega) | (simp at *; done) | (simp at *; omega)) ?_)
        rw [hz3]
        repeat (first | refine W_seq ?_ | refine W_region ?_ | refine W_block ?_ | refine W_skip ?_ | refine W_ret ?_ | refine W_exit ?_ | refine WL_nil ?_ | refine N_then ?_ | refine N_then_exit ?_ | refine N_then_ret ?_ | refine N_block ?_ | refine N_block_ret ?_ | refine N_block_exit ?_ | refine N_block_pass rfl ?_ | refine sp true rfl rfl (by rw [hn]; rfl) (by first | trivial | (simp; done) | (simp; omega) | (simp at *; done) | (simp at *; omega)) ?_ | refine sg true rfl rfl rfl (by rw [hn]; rfl) (by intro hG; first | trivial | (simp; done) | (simp; omega) | (simp at *; done) | (simp at *; omega)) ?_)
        refine s_storeI rfl rfl rfl rfl rfl (by first | trivial | (simp; done) | (simp; omega) | (simp at *; done) | (simp at *; omega)) rfl (by rw [cellsOf3]) (by first | (simp; done) | (simp; omega) | (simp at *; omega)) ?_
        repeat (first | refine W_seq ?_ | refine W_region ?_ | refine W_block ?_ | refine W_skip ?_ | refine W_ret ?_ | refine W_exit ?_ | refine WL_nil ?_ | refine N_then ?_ | refine N_then_exit ?_ | refine N_then_ret ?_ | refine N_block ?_ | refine N_block_ret ?_ | refine N_block_exit ?_ | refine N_block_pass rfl ?_ | refine sp true rfl rfl (by rw [hn]; rfl) (by first | trivial | (simp; done) | (simp; omega) | (simp at *; done) | (simp at *; omega)) ?_ | refine sg true rfl rfl rfl (by rw [hn]; rfl) (by intro hG; first | trivial | (simp; done) | (simp; omega) | (simp at *; done) | (simp at *; omega)) ?_)
        have e1 : d1.set (0 + (i : Int).toNat) (sg be (digR s i) + sg ce (digR t i)) = d1.set i (sg be (digR s i) + sg ce (digR t i)) := by rw [Nat.zero_add, Int.toNat_natCast]
        rw [e1]
        (refine N_join ?_; refine St.le_of ⟨?_, ?_⟩ <;> (repeat' (first | exact trivial | exact rfl | refine ⟨?_, ?_⟩)) <;> first | exact rfl | (simp; done) | skip)
      · have h1 : ¬ i < t.length := by simp at hq; omega
        have e1 : d1.set i (sg be (digR s i) + sg ce (digR t i)) = d1 := by
          have : digR t i = 0 := by rw [digR, if_neg h1]
          rw [this]
          have h0 : sg ce 0 = 0 := by cases ce <;> rfl
          rw [h0, Int.add_zero]
          apply List.ext_getElem?
          intro k
          rw [List.getElem?_set]
          by_cases h : i = k
          · subst h
            rw [if_pos rfl, if_pos (by omega), ← hd1g, List.getD_eq_getElem?_getD, List.getElem?_eq_getElem (by omega)]; rfl
          · rw [if_neg h]
        rw [e1]
        repeat (first | refine W_seq ?_ | refine W_region ?_ | refine W_block ?_ | refine W_skip ?_ | refine W_ret ?_ | refine W_exit ?_ | refine WL_nil ?_ | refine N_then ?_ | refine N_then_exit ?_ | refine N_then_ret ?_ | refine N_block ?_ | refine N_block_ret ?_ | refine N_block_exit ?_ | refine N_block_pass rfl ?_ | refine sp true rfl rfl (by rw [hn]; rfl) (by first | trivial | (simp; done) | (simp; omega) | (simp at *; done) | (simp at *; omega)) ?_ | refine sg true rfl rfl rfl (by rw [hn]; rfl) (by intro hG; first | trivial | (simp; done) | (simp; omega) | (simp at *; done) | (simp at *; omega)) ?_)
        (refine N_join ?_; refine St.le_of ⟨?_, ?_⟩ <;> (repeat' (first | exact trivial | exact rfl | refine ⟨?_, ?_⟩)) <;> first | exact rfl | (simp; done) | skip)
    rw [hd1s, hup]
    repeat (first | refine W_seq ?_ | refine W_region ?_ | refine W_block ?_ | refine W_skip ?_ | refine W_ret ?_ | refine W_exit ?_ | refine WL_nil ?_ | refine N_then ?_ | refine N_then_exit ?_ | refine N_then_ret ?_ | refine N_block ?_ | refine N_block_ret ?_ | refine N_block_exit ?_ | refine N_block_pass rfl ?_ | refine sp true rfl rfl (by rw [hn]; rfl) (by first | trivial | (simp; done) | (simp; omega) | (simp at *; done) | (simp at *; omega)) ?_ | refine sg true rfl rfl rfl (by rw [hn]; rfl) (by intro hG; first | trivial | (simp; done) | (simp; omega) | (simp at *; done) | (simp at *; omega)) ?_)
    refine N_round ⟨i + 1, by omega⟩ (by dsimp only; omega) (St.le_of ⟨⟨rfl, rfl, rfl, rfl, rfl, rfl⟩, ⟨rfl, rfl, rfl, rfl⟩⟩)
  · have : n = i := by simp at hc; omega
    subst this
    have hfa : fillUp EE.reverse n = EE.reverse := by
      have := fillUp_all EE.reverse
      rwa [hRl] at this
    rw [hfa]
    have hRe : ∀ k, k < n → EE.reverse.getD k 0 = EE.getD (n - 1 - k) 0 := by
      intro k hk
      rw [List.getD_eq_getElem?_getD, List.getElem?_reverse (by omega), hzl, List.getD_eq_getElem?_getD]
    repeat (first | refine W_seq ?_ | refine W_region ?_ | refine W_block ?_ | refine W_skip ?_ | refine W_ret ?_ | refine W_exit ?_ | refine WL_nil ?_ | refine N_then ?_ | refine N_then_exit ?_ | refine N_then_ret ?_ | refine N_block ?_ | refine N_block_ret ?_ | refine N_block_exit ?_ | refine N_block_pass rfl ?_ | refine sp true rfl rfl (by rw [hn]; rfl) (by first | trivial | (simp; done) | (simp; omega) | (simp at *; done) | (simp at *; omega)) ?_ | refine sg true rfl rfl rfl (by rw [hn]; rfl) (by intro hG; first | trivial | (simp; done) | (simp; omega) | (simp at *; done) | (simp at *; omega)) ?_)
    refine W_weaken (St.le_of (l := [(4, .c (.ptr 68 0)), (5, lv (.int .i64 (n : Int))), (6, .c (.own 98 1 0 n)), (10, lv (.bool false)), (11, lv (.int .i64 ((n : Int) - 1)))]) (h := [(68, .cells [.lf (.v (.bool false)), .lf (.v (.slice none 0 0))]), (98, .row (.ints .i64 EE.reverse))]) (by refine ⟨?_, ?_⟩ <;> (repeat' (first | exact trivial | exact rfl | refine ⟨?_, ?_⟩)) <;> first | exact rfl | (simp; done) | skip)) ?_
    refine W_joinB (St.of [(4, .c (.ptr 68 0)), (5, lv (.int .i64 (n : Int))), (6, .c (.own 98 1 0 n)), (10, lv (.bool (sgnE EE)))] [(68, .cells [.lf (.v (.bool false)), .lf (.v (.slice none 0 0))]), (98, .row (.ints .i64 EE.reverse))]) ?_ ?_
    · refine W_loop (ι := {j : Nat // j ≤ n ∧ sgnE (EE.drop (n - j)) = sgnE EE}) (fun j => St.of [(4, .c (.ptr 68 0)), (5, lv (.int .i64 (n : Int))), (6, .c (.own 98 1 0 n)), (10, lv (.bool false)), (11, lv (.int .i64 ((j.1 : Int) - 1)))] [(68, .cells [.lf (.v (.bool false)), .lf (.v (.slice none 0 0))]), (98, .row (.ints .i64 EE.reverse))]) (fun j => j.1) (fun j => ?_) ⟨n, by omega, by rw [Nat.sub_self]; rfl⟩
      obtain ⟨j, hj, hsj⟩ := j
      dsimp only
      repeat (first | refine W_seq ?_ | refine W_region ?_ | refine W_block ?_ | refine W_skip ?_ | refine W_ret ?_ | refine W_exit ?_ | refine WL_nil ?_ | refine N_then ?_ | refine N_then_exit ?_ | refine N_then_ret ?_ | refine N_block ?_ | refine N_block_ret ?_ | refine N_block_exit ?_ | refine N_block_pass rfl ?_ | refine sp true rfl rfl (by rw [hn]; rfl) (by first | trivial | (simp; done) | (simp; omega) | (simp at *; done) | (simp at *; omega)) ?_ | refine sg true rfl rfl rfl (by rw [hn]; rfl) (by intro hG; first | trivial | (simp; done) | (simp; omega) | (simp at *; done) | (simp at *; omega)) ?_)
      refine W_cond rfl (by simp) (fun hq => ?_) (fun hq => ?_)
      · obtain ⟨k, rfl⟩ : ∃ k, j = k + 1 := ⟨j - 1, by simp at hq; omega⟩
        have e1 : ((k + 1 : Nat) : Int) - 1 = k := by omega
        have hk : n - (k + 1) < EE.length := by omega
        have hdk : EE.drop (n - (k + 1)) = EE[n - (k + 1)] :: EE.drop (n - k) := by
          rw [List.drop_eq_getElem_cons hk, show n - (k + 1) + 1 = n - k by omega]
        have hgk : EE.reverse.getD (0 + (k : Int).toNat) 0 = EE[n - (k + 1)] := by
          rw [Nat.zero_add, Int.toNat_natCast, hRe k (by omega), show n - 1 - k = n - (k + 1) by omega]
          simp [hk]
        rw [hdk] at hsj
        simp only [sgnE] at hsj
        generalize hx : EE[n - (k + 1)] = x at *
        rw [e1]
        repeat (first | refine W_seq ?_ | refine W_region ?_ | refine W_block ?_ | refine W_skip ?_ | refine W_ret ?_ | refine W_exit ?_ | refine WL_nil ?_ | refine N_then ?_ | refine N_then_exit ?_ | refine N_then_ret ?_ | refine N_block ?_ | refine N_block_ret ?_ | refine N_block_exit ?_ | refine N_block_pass rfl ?_ | refine sp true rfl rfl (by rw [hn]; rfl) (by first | trivial | (simp; done) | (simp; omega) | (simp at *; done) | (simp at *; omega)) ?_ | refine sg true rfl rfl rfl (by rw [hn]; rfl) (by intro hG; first | trivial | (simp; done) | (simp; omega) | (simp at *; done) | (simp at *; omega)) ?_)
        rw [hgk]
        refine W_cond rfl (by simp) (fun hr => ?_) (fun hr => ?_)
        · have hx0 : x ≠ 0 := by simpa using hr
          rw [if_neg hx0] at hsj
          rw [← hsj]
          repeat (first | refine W_seq ?_ | refine W_region ?_ | refine W_block ?_ | refine W_skip ?_ | refine W_ret ?_ | refine W_exit ?_ | refine WL_nil ?_ | refine N_then ?_ | refine N_then_exit ?_ | refine N_then_ret ?_ | refine N_block ?_ | refine N_block_ret ?_ | refine N_block_exit ?_ | refine N_block_pass rfl ?_ | refine sp true rfl rfl (by rw [hn]; rfl) (by first | trivial | (simp; done) | (simp; omega) | (simp at *; done) | (simp at *; omega)) ?_ | refine sg true rfl rfl rfl (by rw [hn]; rfl) (by intro hG; first | trivial | (simp; done) | (simp; omega) | (simp at *; done) | (simp at *; omega)) ?_)
          rw [hgk]
          repeat (first | refine W_seq ?_ | refine W_region ?_ | refine W_block ?_ | refine W_skip ?_ | refine W_ret ?_ | refine W_exit ?_ | refine WL_nil ?_ | refine N_then ?_ | refine N_then_exit ?_ | refine N_then_ret ?_ | refine N_block ?_ | refine N_block_ret ?_ | refine N_block_exit ?_ | refine N_block_pass rfl ?_ | refine sp true rfl rfl (by rw [hn]; rfl) (by first | trivial | (simp; done) | (simp; omega) | (simp at *; done) | (simp at *; omega)) ?_ | refine sg true rfl rfl rfl (by rw [hn]; rfl) (by intro hG; first | trivial | (simp; done) | (simp; omega) | (simp at *; done) | (simp at *; omega)) ?_)
          (refine N_join ?_; refine St.le_of ⟨?_, ?_⟩ <;> (repeat' (first | exact trivial | exact rfl | refine ⟨?_, ?_⟩)) <;> first | exact rfl | (simp; done) | skip)
        · have hx0 : x = 0 := by simpa using hr
          rw [if_pos hx0] at hsj
          repeat (first | refine W_seq ?_ | refine W_region ?_ | refine W_block ?_ | refine W_skip ?_ | refine W_ret ?_ | refine W_exit ?_ | refine WL_nil ?_ | refine N_then ?_ | refine N_then_exit ?_ | refine N_then_ret ?_ | refine N_block ?_ | refine N_block_ret ?_ | refine N_block_exit ?_ | refine N_block_pass rfl ?_ | refine sp true rfl rfl (by rw [hn]; rfl) (by first | trivial | (simp; done) | (simp; omega) | (simp at *; done) | (simp at *; omega)) ?_ | refine sg true rfl rfl rfl (by rw [hn]; rfl) (by intro hG; first | trivial | (simp; done) | (simp; omega) | (simp at *; done) | (simp at *; omega)) ?_)
          refine N_round ⟨k, by omega, hsj⟩ (by dsimp only; omega) (St.le_of ⟨⟨rfl, rfl, rfl, rfl, rfl⟩, ⟨rfl, rfl⟩⟩)
      · have : j = 0 := by simp at hq; omega
        subst this
        have e1 : sgnE EE = false := by rw [← hsj, Nat.sub_zero, List.drop_of_length_le (by omega)]; rfl
        rw [e1]
        repeat (first | refine W_seq ?_ | refine W_region ?_ | refine W_block ?_ | refine W_skip ?_ | refine W_ret ?_ | refine W_exit ?_ | refine WL_nil ?_ | refine N_then ?_ | refine N_then_exit ?_ | refine N_then_ret ?_ | refine N_block ?_ | refine N_block_ret ?_ | refine N_block_exit ?_ | refine N_block_pass rfl ?_ | refine sp true rfl rfl (by rw [hn]; rfl) (by first | trivial | (simp; done) | (simp; omega) | (simp at *; done) | (simp at *; omega)) ?_ | refine sg true rfl rfl rfl (by rw [hn]; rfl) (by intro hG; first | trivial | (simp; done) | (simp; omega) | (simp at *; done) | (simp at *; omega)) ?_)
        (refine N_join ?_; refine St.le_of ⟨?_, ?_⟩ <;> (repeat' (first | exact trivial | exact rfl | refine ⟨?_, ?_⟩)) <;> first | exact rfl | (simp; done) | skip)
    have hend := sum_end be ce (sgnE EE) s t EE n hN hws hwt hE rfl hzl
    generalize hbw : sgnE EE = bw at *
    repeat (first | refine W_seq ?_ | refine W_region ?_ | refine W_block ?_ | refine W_skip ?_ | refine W_ret ?_ | refine W_exit ?_ | refine WL_nil ?_ | refine N_then ?_ | refine N_then_exit ?_ | refine N_then_ret ?_ | refine N_block ?_ | refine N_block_ret ?_ | refine N_block_exit ?_ | refine N_block_pass rfl ?_ | refine sp true rfl rfl (by rw [hn]; rfl) (by first | trivial | (simp; done) | (simp; omega) | (simp at *; done) | (simp at *; omega)) ?_ | refine sg true rfl rfl rfl (by rw [hn]; rfl) (by intro hG; first | trivial | (simp; done) | (simp; omega) | (simp at *; done) | (simp at *; omega)) ?_)
    refine s_makeI (by_ := 1) rfl rfl rfl (by rw [hn]; rfl) (elt_mk Try.underlying22 rfl rfl) rfl rfl rfl (by first | trivial | (simp; done) | (simp; omega) | (simp at *; done) | (simp at *; omega)) n (by first | rfl | (simp; done) | omega) (by first | (simp; done) | omega | (simp at *; omega)) ?_
    repeat (first | refine W_seq ?_ | refine W_region ?_ | refine W_block ?_ | refine W_skip ?_ | refine W_ret ?_ | refine W_exit ?_ | refine WL_nil ?_ | refine N_then ?_ | refine N_then_exit ?_ | refine N_then_ret ?_ | refine N_block ?_ | refine N_block_ret ?_ | refine N_block_exit ?_ | refine N_block_pass rfl ?_ | refine sp true rfl rfl (by rw [hn]; rfl) (by first | trivial | (simp; done) | (simp; omega) | (simp at *; done) | (simp at *; omega)) ?_ | refine sg true rfl rfl rfl (by rw [hn]; rfl) (by intro hG; first | trivial | (simp; done) | (simp; omega) | (simp at *; done) | (simp at *; omega)) ?_)
    refine s_allocN rfl rfl rfl (by rw [hn]; rfl) rfl zok24 ?_
    repeat (first | refine W_seq ?_ | refine W_region ?_ | refine W_block ?_ | refine W_skip ?_ | refine W_ret ?_ | refine W_exit ?_ | refine WL_nil ?_ | refine N_then ?_ | refine N_then_exit ?_ | refine N_then_ret ?_ | refine N_block ?_ | refine N_block_ret ?_ | refine N_block_exit ?_ | refine N_block_pass rfl ?_ | refine sp true rfl rfl (by rw [hn]; rfl) (by first | trivial | (simp; done) | (simp; omega) | (simp at *; done) | (simp at *; omega)) ?_ | refine sg true rfl rfl rfl (by rw [hn]; rfl) (by intro hG; first | trivial | (simp; done) | (simp; omega) | (simp at *; done) | (simp at *; omega)) ?_)
    refine s_storeN rfl rfl rfl rfl rfl (by first | trivial | (simp; done) | (simp; omega) | (simp at *; done) | (simp at *; omega)) rfl rfl rfl (by rw [cellsOf24]; rfl) (by rw [info24]; rfl) rfl rfl ?_
    repeat (first | refine W_seq ?_ | refine W_region ?_ | refine W_block ?_ | refine W_skip ?_ | refine W_ret ?_ | refine W_exit ?_ | refine WL_nil ?_ | refine N_then ?_ | refine N_then_exit ?_ | refine N_then_ret ?_ | refine N_block ?_ | refine N_block_ret ?_ | refine N_block_exit ?_ | refine N_block_pass rfl ?_ | refine sp true rfl rfl (by rw [hn]; rfl) (by first | trivial | (simp; done) | (simp; omega) | (simp at *; done) | (simp at *; omega)) ?_ | refine sg true rfl rfl rfl (by rw [hn]; rfl) (by intro hG; first | trivial | (simp; done) | (simp; omega) | (simp at *; done) | (simp at *; omega)) ?_)
    have hZl : (cond bw (EE.map fun x => -x) EE).length = n := by cases bw <;> simp [hzl]
    have hZg : ∀ k, k < n → (cond bw (EE.map fun x => -x) EE).getD (n - 1 - k) 0 = sg bw (EE.reverse.getD k 0) := by
      intro k hk
      rw [hRe k hk]
      have h1 : n - 1 - k < EE.length := by omega
      cases bw <;> simp [sg, h1]
    have hEr : ∀ z ∈ EE, -510 ≤ z ∧ z ≤ 510 := by rw [← hE]; exact zip_rng be ce _ _ (pad_wf n hws) (pad_wf n hwt)
    have hZr : ∀ z ∈ cond bw (EE.map fun x => -x) EE, -510 ≤ z ∧ z ≤ 510 := by
      cases bw
      · exact hEr
      · intro z hz
        simp at hz
        obtain ⟨y, hy, rfl⟩ := hz
        have := hEr y hy
        omega
    have hRr : ∀ k, k < n → -510 ≤ EE.reverse.getD k 0 ∧ EE.reverse.getD k 0 ≤ 510 := by
      intro k hk
      rw [hRe k hk]
      have h1 : n - 1 - k < EE.length := by omega
      have : EE.getD (n - 1 - k) 0 = EE[n - 1 - k] := by simp [h1]
      rw [this]
      exact hEr _ (List.getElem_mem _)
    generalize hZ : cond bw (EE.map fun x => -x) EE = Z at *
    have e0 : List.replicate n (0 : Int) = List.replicate (n - 0) 0 ++ (nrmC (Z.drop (n - 0))).1 := by
      rw [Nat.sub_zero, List.drop_of_length_le (by omega)]; simp [nrmC]
    have e3 : (0 : Int) = (nrmC (Z.drop (n - 0))).2 := by rw [Nat.sub_zero, List.drop_of_length_le (by omega)]; rfl
    refine W_weaken (St.le_of (l := [(4, .c (.ptr 68 0)), (5, lv (.int .i64 (n : Int))), (6, .c (.own 98 1 0 n)), (10, lv (.bool bw)), (12, .c (.ptr 76 0)), (13, lv (.int .i64 0)), (14, lv (.int .i64 0))]) (h := [(68, .cells [.lf (.v (.bool false)), .lf (.v (.slice none 0 0))]), (76, .cells [.lf (.v (.bool bw)), .own 180 1 0 n]), (98, .row (.ints .i64 EE.reverse)), (180, .row (.ints .u8 (List.replicate n 0)))]) (by refine ⟨?_, ?_⟩ <;> (repeat' (first | exact trivial | exact rfl | refine ⟨?_, ?_⟩)) <;> first | exact rfl | (simp; done) | skip)) ?_
    refine W_weaken (τ := St.of [(4, .c (.ptr 68 0)), (5, lv (.int .i64 (n : Int))), (6, .c (.own 98 1 0 n)), (10, lv (.bool bw)), (12, .c (.ptr 76 0)), (13, lv (.int .i64 (nrmC (Z.drop (n - 0))).2)), (14, lv (.int .i64 ((0 : Nat) : Int)))] [(68, .cells [.lf (.v (.bool false)), .lf (.v (.slice none 0 0))]), (76, .cells [.lf (.v (.bool bw)), .own 180 1 0 n]), (98, .row (.ints .i64 EE.reverse)), (180, .row (.ints .u8 (List.replicate (n - 0) 0 ++ (nrmC (Z.drop (n - 0))).1)))]) ?_ ?_
    · rw [← e0, ← e3]; exact ⟨fun _ => .inl rfl, fun _ => .inl rfl⟩
    refine W_loop (ι := {i : Nat // i ≤ n}) (fun i => St.of [(4, .c (.ptr 68 0)), (5, lv (.int .i64 (n : Int))), (6, .c (.own 98 1 0 n)), (10, lv (.bool bw)), (12, .c (.ptr 76 0)), (13, lv (.int .i64 (nrmC (Z.drop (n - i.1))).2)), (14, lv (.int .i64 (i.1 : Int)))] [(68, .cells [.lf (.v (.bool false)), .lf (.v (.slice none 0 0))]), (76, .cells [.lf (.v (.bool bw)), .own 180 1 0 n]), (98, .row (.ints .i64 EE.reverse)), (180, .row (.ints .u8 (List.replicate (n - i.1) 0 ++ (nrmC (Z.drop (n - i.1))).1)))]) (fun i => n - i.1) (fun i => ?_) ⟨0, by omega⟩
    obtain ⟨i, hi⟩ := i
    dsimp only
    repeat (first | refine W_seq ?_ | refine W_region ?_ | refine W_block ?_ | refine W_skip ?_ | refine W_ret ?_ | refine W_exit ?_ | refine WL_nil ?_ | refine N_then ?_ | refine N_then_exit ?_ | refine N_then_ret ?_ | refine N_block ?_ | refine N_block_ret ?_ | refine N_block_exit ?_ | refine N_block_pass rfl ?_ | refine sp true rfl rfl (by rw [hn]; rfl) (by first | trivial | (simp; done) | (simp; omega) | (simp at *; done) | (simp at *; omega)) ?_ | refine sg true rfl rfl rfl (by rw [hn]; rfl) (by intro hG; first | trivial | (simp; done) | (simp; omega) | (simp at *; done) | (simp at *; omega)) ?_)
    refine W_cond rfl (by simp) (fun hq => ?_) (fun hq => ?_)
    · have hin : i < n := by simp at hq; omega
      obtain ⟨k, hk⟩ : ∃ k, n - i = k + 1 := ⟨n - i - 1, by omega⟩
      have hkz : k < Z.length := by omega
      have hdz : Z.drop k = Z[k] :: Z.drop (k + 1) := List.drop_eq_getElem_cons hkz
      have hzk : Z[k] = sg bw (EE.reverse.getD i 0) := by
        rw [← hZg i hin, show n - 1 - i = k by omega]; simp [hkz]
      have hnr : nrmC (Z.drop k) = ((Z[k] + (nrmC (Z.drop (k + 1))).2) % 256 :: (nrmC (Z.drop (k + 1))).1, (Z[k] + (nrmC (Z.drop (k + 1))).2) / 256) := by rw [hdz]; rfl
      have hlow := nrm_low (Z.drop (k + 1)) fun z hz => hZr z (List.mem_of_mem_drop hz)
      have hzr := hZr Z[k] (List.getElem_mem _)
      have hrr := hRr i hin
      have hnl := nrm_len (Z.drop (k + 1))
      have hgi : EE.reverse.getD (0 + (i : Int).toNat) 0 = EE.reverse.getD i 0 := by rw [Nat.zero_add, Int.toNat_natCast]
      rw [hk]
      generalize hcc : (nrmC (Z.drop (k + 1))).2 = c0 at *
      generalize hSS : (nrmC (Z.drop (k + 1))).1 = S at *
      generalize hxx : EE.reverse.getD i 0 = x at *
      generalize hyy : Z[k] = y0 at *
      repeat (first | refine W_seq ?_ | refine W_region ?_ | refine W_block ?_ | refine W_skip ?_ | refine W_ret ?_ | refine W_exit ?_ | refine WL_nil ?_ | refine N_then ?_ | refine N_then_exit ?_ | refine N_then_ret ?_ | refine N_block ?_ | refine N_block_ret ?_ | refine N_block_exit ?_ | refine N_block_pass rfl ?_ | refine sp true rfl rfl (by rw [hn]; rfl) (by first | trivial | (simp; done) | (simp; omega) | (simp at *; done) | (simp at *; omega)) ?_ | refine sg true rfl rfl rfl (by rw [hn]; rfl) (by intro hG; first | trivial | (simp; done) | (simp; omega) | (simp at *; done) | (simp at *; omega)) ?_)
      rw [hgi]
      repeat (first | refine W_seq ?_ | refine W_region ?_ | refine W_block ?_ | refine W_skip ?_ | refine W_ret ?_ | refine W_exit ?_ | refine WL_nil ?_ | refine N_then ?_ | refine N_then_exit ?_ | refine N_then_ret ?_ | refine N_block ?_ | refine N_block_ret ?_ | refine N_block_exit ?_ | refine N_block_pass rfl ?_ | refine sp true rfl rfl (by rw [hn]; rfl) (by first | trivial | (simp; done) | (simp; omega) | (simp at *; done) | (simp at *; omega)) ?_ | refine sg true rfl rfl rfl (by rw [hn]; rfl) (by intro hG; first | trivial | (simp; done) | (simp; omega) | (simp at *; done) | (simp at *; omega)) ?_)
      refine W_join (St.of [(4, .c (.ptr 68 0)), (5, lv (.int .i64 (n : Int))), (6, .c (.own 98 1 0 n)), (10, lv (.bool bw)), (12, .c (.ptr 76 0)), (13, lv (.int .i64 c0)), (14, lv (.int .i64 (i : Int))), (15, lv (.int .i64 y0))] [(68, .cells [.lf (.v (.bool false)), .lf (.v (.slice none 0 0))]), (76, .cells [.lf (.v (.bool bw)), .own 180 1 0 n]), (98, .row (.ints .i64 EE.reverse)), (180, .row (.ints .u8 (List.replicate (k + 1) 0 ++ S)))]) ?_ ?_
      · rw [hzk]
        refine W_cond rfl (by simp) (fun hr => ?_) (fun hr => ?_)
        · subst hr
          repeat (first | refine W_seq ?_ | refine W_region ?_ | refine W_block ?_ | refine W_skip ?_ | refine W_ret ?_ | refine W_exit ?_ | refine WL_nil ?_ | refine N_then ?_ | refine N_then_exit ?_ | refine N_then_ret ?_ | refine N_block ?_ | refine N_block_ret ?_ | refine N_block_exit ?_ | refine N_block_pass rfl ?_ | refine sp true rfl rfl (by rw [hn]; rfl) (by first | trivial | (simp; done) | (simp; omega) | (simp at *; done) | (simp at *; omega)) ?_ | refine sg true rfl rfl rfl (by rw [hn]; rfl) (by intro hG; first | trivial | (simp; done) | (simp; omega) | (simp at *; done) | (simp at *; omega)) ?_)
          (refine N_join ?_; refine St.le_of ⟨?_, ?_⟩ <;> (repeat' (first | exact trivial | exact rfl | refine ⟨?_, ?_⟩)) <;> first | exact rfl | (simp; done) | skip)
        · subst hr
          repeat (first | refine W_seq ?_ | refine W_region ?_ | refine W_block ?_ | refine W_skip ?_ | refine W_ret ?_ | refine W_exit ?_ | refine WL_nil ?_ | refine N_then ?_ | refine N_then_exit ?_ | refine N_then_ret ?_ | refine N_block ?_ | refine N_block_ret ?_ | refine N_block_exit ?_ | refine N_block_pass rfl ?_ | refine sp true rfl rfl (by rw [hn]; rfl) (by first | trivial | (simp; done) | (simp; omega) | (simp at *; done) | (simp at *; omega)) ?_ | refine sg true rfl rfl rfl (by rw [hn]; rfl) (by intro hG; first | trivial | (simp; done) | (simp; omega) | (simp at *; done) | (simp at *; omega)) ?_)
          (refine N_join ?_; refine St.le_of ⟨?_, ?_⟩ <;> (repeat' (first | exact trivial | exact rfl | refine ⟨?_, ?_⟩)) <;> first | exact rfl | (simp; done) | skip)
      repeat (first | refine W_seq ?_ | refine W_region ?_ | refine W_block ?_ | refine W_skip ?_ | refine W_ret ?_ | refine W_exit ?_ | refine WL_nil ?_ | refine N_then ?_ | refine N_then_exit ?_ | refine N_then_ret ?_ | refine N_block ?_ | refine N_block_ret ?_ | refine N_block_exit ?_ | refine N_block_pass rfl ?_ | refine sp true rfl rfl (by rw [hn]; rfl) (by first | trivial | (simp; done) | (simp; omega) | (simp at *; done) | (simp at *; omega)) ?_ | refine sg true rfl rfl rfl (by rw [hn]; rfl) (by intro hG; first | trivial | (simp; done) | (simp; omega) | (simp at *; done) | (simp at *; omega)) ?_)
      generalize hy : y0 + c0 = y at *
      refine W_weaken (St.le_of (l := [(4, .c (.ptr 68 0)), (5, lv (.int .i64 (n : Int))), (6, .c (.own 98 1 0 n)), (10, lv (.bool bw)), (12, .c (.ptr 76 0)), (13, lv (.int .i64 0)), (14, lv (.int .i64 (i : Int))), (15, lv (.int .i64 y))]) (h := [(68, .cells [.lf (.v (.bool false)), .lf (.v (.slice none 0 0))]), (76, .cells [.lf (.v (.bool bw)), .own 180 1 0 n]), (98, .row (.ints .i64 EE.reverse)), (180, .row (.ints .u8 (List.replicate (k + 1) 0 ++ S)))]) (by refine ⟨?_, ?_⟩ <;> (repeat' (first | exact trivial | exact rfl | refine ⟨?_, ?_⟩)) <;> first | exact rfl | (simp; done) | skip)) ?_
      have hyr : -512 ≤ y ∧ y ≤ 511 := by omega
      clear hdz hzk hlow hzr hrr hgi
      refine W_weaken (τ := St.of [(4, .c (.ptr 68 0)), (5, lv (.int .i64 (n : Int))), (6, .c (.own 98 1 0 n)), (10, lv (.bool bw)), (12, .c (.ptr 76 0)), (13, lv (.int .i64 (-((0 : Nat) : Int)))), (14, lv (.int .i64 (i : Int))), (15, lv (.int .i64 (y + 256 * ((0 : Nat) : Int))))] [(68, .cells [.lf (.v (.bool false)), .lf (.v (.slice none 0 0))]), (76, .cells [.lf (.v (.bool bw)), .own 180 1 0 n]), (98, .row (.ints .i64 EE.reverse)), (180, .row (.ints .u8 (List.replicate (k + 1) 0 ++ S)))]) ?_ ?_
      · have e4 : -((0 : Nat) : Int) = 0 := rfl
        have e5 : y + 256 * ((0 : Nat) : Int) = y := by omega
        rw [e4, e5]; exact ⟨fun _ => .inl rfl, fun _ => .inl rfl⟩
      refine W_loop (ι := {q : Nat // q ≤ 2 ∧ (0 < q → y + 256 * ((q : Int) - 1) < 0)}) (fun q => St.of [(4, .c (.ptr 68 0)), (5, lv (.int .i64 (n : Int))), (6, .c (.own 98 1 0 n)), (10, lv (.bool bw)), (12, .c (.ptr 76 0)), (13, lv (.int .i64 (-(q.1 : Int)))), (14, lv (.int .i64 (i : Int))), (15, lv (.int .i64 (y + 256 * (q.1 : Int))))] [(68, .cells [.lf (.v (.bool false)), .lf (.v (.slice none 0 0))]), (76, .cells [.lf (.v (.bool bw)), .own 180 1 0 n]), (98, .row (.ints .i64 EE.reverse)), (180, .row (.ints .u8 (List.replicate (k + 1) 0 ++ S)))]) (fun q => 3 - q.1) (fun q => ?_) ⟨0, by omega, fun h => absurd h (by omega)⟩
      obtain ⟨q, hq2, hq3⟩ := q
      dsimp only
      repeat (first | refine W_seq ?_ | refine W_region ?_ | refine W_block ?_ | refine W_skip ?_ | refine W_ret ?_ | refine W_exit ?_ | refine WL_nil ?_ | refine N_then ?_ | refine N_then_exit ?_ | refine N_then_ret ?_ | refine N_block ?_ | refine N_block_ret ?_ | refine N_block_exit ?_ | refine N_block_pass rfl ?_ | refine sp true rfl rfl (by rw [hn]; rfl) (by first | trivial | (simp; done) | (simp; omega) | (simp at *; done) | (simp at *; omega)) ?_ | refine sg true rfl rfl rfl (by rw [hn]; rfl) (by intro hG; first | trivial | (simp; done) | (simp; omega) | (simp at *; done) | (simp at *; omega)) ?_)
      refine W_cond rfl (by simp) (fun hr => ?_) (fun hr => ?_)
      · have hr1 : y + 256 * (q : Int) < 0 := by simpa using hr
        repeat (first | refine W_seq ?_ | refine W_region ?_ | refine W_block ?_ | refine W_skip ?_ | refine W_ret ?_ | refine W_exit ?_ | refine WL_nil ?_ | refine N_then ?_ | refine N_then_exit ?_ | refine N_then_ret ?_ | refine N_block ?_ | refine N_block_ret ?_ | refine N_block_exit ?_ | refine N_block_pass rfl ?_ | refine sp true rfl rfl (by rw [hn]; rfl) (by first | trivial | (simp; done) | (simp; omega) | (simp at *; done) | (simp at *; omega)) ?_ | refine sg true rfl rfl rfl (by rw [hn]; rfl) (by intro hG; first | trivial | (simp; done) | (simp; omega) | (simp at *; done) | (simp at *; omega)) ?_)
        have e6 : y + 256 * (q : Int) + 256 = y + 256 * ((q + 1 : Nat) : Int) := by omega
        have e7 : -(q : Int) - 1 = -((q + 1 : Nat) : Int) := by omega
        rw [e6, e7]
        refine N_round ⟨q + 1, by omega, fun _ => by omega⟩ (by dsimp only; omega) (St.le_of ⟨⟨rfl, rfl, rfl, rfl, rfl, rfl, rfl, rfl⟩, ⟨rfl, rfl, rfl, rfl⟩⟩)
      · have hr1 : ¬ y + 256 * (q : Int) < 0 := by simpa using hr
        have hz1 : 0 ≤ y + 256 * (q : Int) ∧ y + 256 * (q : Int) ≤ 511 := by
          refine ⟨by omega, ?_⟩
          rcases (by omega : q = 0 ∨ 0 < q) with h | h
          · subst h; omega
          · have := hq3 h; omega
        repeat (first | refine W_seq ?_ | refine W_region ?_ | refine W_block ?_ | refine W_skip ?_ | refine W_ret ?_ | refine W_exit ?_ | refine WL_nil ?_ | refine N_then ?_ | refine N_then_exit ?_ | refine N_then_ret ?_ | refine N_block ?_ | refine N_block_ret ?_ | refine N_block_exit ?_ | refine N_block_pass rfl ?_ | refine sp true rfl rfl (by rw [hn]; rfl) (by first | trivial | (simp; done) | (simp; omega) | (simp at *; done) | (simp at *; omega)) ?_ | refine sg true rfl rfl rfl (by rw [hn]; rfl) (by intro hG; first | trivial | (simp; done) | (simp; omega) | (simp at *; done) | (simp at *; omega)) ?_)
        obtain ⟨z, hz⟩ : ∃ z, y + 256 * (q : Int) = z := ⟨_, rfl⟩
        rw [hz] at hz1 hr1 ⊢
        refine W_weaken (St.le_of (l := [(4, .c (.ptr 68 0)), (5, lv (.int .i64 (n : Int))), (6, .c (.own 98 1 0 n)), (10, lv (.bool bw)), (12, .c (.ptr 76 0)), (13, lv (.int .i64 (-(q : Int)))), (14, lv (.int .i64 (i : Int))), (15, lv (.int .i64 z))]) (h := [(68, .cells [.lf (.v (.bool false)), .lf (.v (.slice none 0 0))]), (76, .cells [.lf (.v (.bool bw)), .own 180 1 0 n]), (98, .row (.ints .i64 EE.reverse)), (180, .row (.ints .u8 (List.replicate (k + 1) 0 ++ S)))]) (by refine ⟨?_, ?_⟩ <;> (repeat' (first | exact trivial | exact rfl | refine ⟨?_, ?_⟩)) <;> first | exact rfl | (simp; done) | skip)) ?_
        refine W_weaken (τ := St.of [(4, .c (.ptr 68 0)), (5, lv (.int .i64 (n : Int))), (6, .c (.own 98 1 0 n)), (10, lv (.bool bw)), (12, .c (.ptr 76 0)), (13, lv (.int .i64 (-(q : Int) + ((0 : Nat) : Int)))), (14, lv (.int .i64 (i : Int))), (15, lv (.int .i64 (z - 256 * ((0 : Nat) : Int))))] [(68, .cells [.lf (.v (.bool false)), .lf (.v (.slice none 0 0))]), (76, .cells [.lf (.v (.bool bw)), .own 180 1 0 n]), (98, .row (.ints .i64 EE.reverse)), (180, .row (.ints .u8 (List.replicate (k + 1) 0 ++ S)))]) ?_ ?_
        · have e4 : -(q : Int) + ((0 : Nat) : Int) = -(q : Int) := by omega
          have e5 : z - 256 * ((0 : Nat) : Int) = z := by omega
          rw [e4, e5]; exact ⟨fun _ => .inl rfl, fun _ => .inl rfl⟩
        refine W_loop (ι := {r : Nat // r ≤ 1 ∧ (0 < r → 255 < z - 256 * ((r : Int) - 1))}) (fun r => St.of [(4, .c (.ptr 68 0)), (5, lv (.int .i64 (n : Int))), (6, .c (.own 98 1 0 n)), (10, lv (.bool bw)), (12, .c (.ptr 76 0)), (13, lv (.int .i64 (-(q : Int) + (r.1 : Int)))), (14, lv (.int .i64 (i : Int))), (15, lv (.int .i64 (z - 256 * (r.1 : Int))))] [(68, .cells [.lf (.v (.bool false)), .lf (.v (.slice none 0 0))]), (76, .cells [.lf (.v (.bool bw)), .own 180 1 0 n]), (98, .row (.ints .i64 EE.reverse)), (180, .row (.ints .u8 (List.replicate (k + 1) 0 ++ S)))]) (fun r => 2 - r.1) (fun r => ?_) ⟨0, by omega, fun h => absurd h (by omega)⟩
        obtain ⟨r, hr2, hr3⟩ := r
        dsimp only
        repeat (first | refine W_seq ?_ | refine W_region ?_ | refine W_block ?_ | refine W_skip ?_ | refine W_ret ?_ | refine W_exit ?_ | refine WL_nil ?_ | refine N_then ?_ | refine N_then_exit ?_ | refine N_then_ret ?_ | refine N_block ?_ | refine N_block_ret ?_ | refine N_block_exit ?_ | refine N_block_pass rfl ?_ | refine sp true rfl rfl (by rw [hn]; rfl) (by first | trivial | (simp; done) | (simp; omega) | (simp at *; done) | (simp at *; omega)) ?_ | refine sg true rfl rfl rfl (by rw [hn]; rfl) (by intro hG; first | trivial | (simp; done) | (simp; omega) | (simp at *; done) | (simp at *; omega)) ?_)
        refine W_cond rfl (by simp) (fun hs => ?_) (fun hs => ?_)
        · have hs1 : 255 < z - 256 * (r : Int) := by simpa using hs
          have hrr : r = 0 := by omega
          repeat (first | refine W_seq ?_ | refine W_region ?_ | refine W_block ?_ | refine W_skip ?_ | refine W_ret ?_ | refine W_exit ?_ | refine WL_nil ?_ | refine N_then ?_ | refine N_then_exit ?_ | refine N_then_ret ?_ | refine N_block ?_ | refine N_block_ret ?_ | refine N_block_exit ?_ | refine N_block_pass rfl ?_ | refine sp true rfl rfl (by rw [hn]; rfl) (by first | trivial | (simp; done) | (simp; omega) | (simp at *; done) | (simp at *; omega)) ?_ | refine sg true rfl rfl rfl (by rw [hn]; rfl) (by intro hG; first | trivial | (simp; done) | (simp; omega) | (simp at *; done) | (simp at *; omega)) ?_)
          have e6 : z - 256 * (r : Int) - 256 = z - 256 * ((r + 1 : Nat) : Int) := by omega
          have e7 : -(q : Int) + (r : Int) + 1 = -(q : Int) + ((r + 1 : Nat) : Int) := by omega
          rw [e6, e7]
          refine N_round ⟨r + 1, by omega, fun _ => by omega⟩ (by dsimp only; omega) (St.le_of ⟨⟨rfl, rfl, rfl, rfl, rfl, rfl, rfl, rfl⟩, ⟨rfl, rfl, rfl, rfl⟩⟩)
        · have hs1 : ¬ 255 < z - 256 * (r : Int) := by simpa using hs
          have hz2 : 0 ≤ z - 256 * (r : Int) := by
            rcases (by omega : r = 0 ∨ 0 < r) with h | h
            · subst h; omega
            · have := hr3 h; omega
          have ed : z - 256 * (r : Int) = y % 256 := by omega
          have ec : -(q : Int) + (r : Int) = y / 256 := by omega
          rw [ed, ec]
          have hyb : 0 ≤ y % 256 ∧ y % 256 < 256 := by omega
          have hcb : -4 ≤ y / 256 ∧ y / 256 ≤ 4 := by omega
          repeat (first | refine W_seq ?_ | refine W_region ?_ | refine W_block ?_ | refine W_skip ?_ | refine W_ret ?_ | refine W_exit ?_ | refine WL_nil ?_ | refine N_then ?_ | refine N_then_exit ?_ | refine N_then_ret ?_ | refine N_block ?_ | refine N_block_ret ?_ | refine N_block_exit ?_ | refine N_block_pass rfl ?_ | refine sp true rfl rfl (by rw [hn]; rfl) (by first | trivial | (simp; done) | (simp; omega) | (simp at *; done) | (simp at *; omega)) ?_ | refine sg true rfl rfl rfl (by rw [hn]; rfl) (by intro hG; first | trivial | (simp; done) | (simp; omega) | (simp at *; done) | (simp at *; omega)) ?_)
          refine s_storeI rfl rfl rfl rfl rfl (by first | trivial | (simp; done) | (simp; omega) | (simp at *; done) | (simp at *; omega)) rfl (by rw [cellsOf5]) (by first | (simp; done) | (simp; omega) | (simp at *; omega)) ?_
          repeat (first | refine W_seq ?_ | refine W_region ?_ | refine W_block ?_ | refine W_skip ?_ | refine W_ret ?_ | refine W_exit ?_ | refine WL_nil ?_ | refine N_then ?_ | refine N_then_exit ?_ | refine N_then_ret ?_ | refine N_block ?_ | refine N_block_ret ?_ | refine N_block_exit ?_ | refine N_block_pass rfl ?_ | refine sp true rfl rfl (by rw [hn]; rfl) (by first | trivial | (simp; done) | (simp; omega) | (simp at *; done) | (simp at *; omega)) ?_ | refine sg true rfl rfl rfl (by rw [hn]; rfl) (by intro hG; first | trivial | (simp; done) | (simp; omega) | (simp at *; done) | (simp at *; omega)) ?_)
          have eix : ((n : Int) - 1 - (i : Int)).toNat = k := by omega
          have hst : (List.replicate (k + 1) 0 ++ S).set (0 + ((n : Int) - 1 - (i : Int)).toNat) (y % 256) = List.replicate (n - (i + 1)) 0 ++ (nrmC (Z.drop (n - (i + 1)))).1 := by
            rw [show n - (i + 1) = k by omega, hnr, eix, Nat.zero_add, List.replicate_succ', List.append_assoc]
            exact set_mid (List.replicate k (0 : Int)) S 0 (y % 256) k (by simp)
          have hst2 : y / 256 = (nrmC (Z.drop (n - (i + 1)))).2 := by
            rw [show n - (i + 1) = k by omega, hnr]
          rw [hst, hst2]
          refine N_round ⟨i + 1, by omega⟩ (by dsimp only; omega) (St.le_of ⟨⟨rfl, rfl, rfl, rfl, rfl, rfl, rfl⟩, ⟨rfl, rfl, rfl, rfl⟩⟩)
    · have : n = i := by simp at hq; omega
      subst this
      rw [Nat.sub_self, List.drop_zero]
      have hnl := nrm_len Z
      have hnw := nrm_wf Z
      have hmk := refmade_ok bw (nrmC Z).1 (by omega)
      rw [made_numZ _ _ hnw, hend] at hmk
      generalize (nrmC Z).1 = r at *
      repeat (first | refine W_seq ?_ | refine W_region ?_ | refine W_block ?_ | refine W_skip ?_ | refine W_ret ?_ | refine W_exit ?_ | refine WL_nil ?_ | refine N_then ?_ | refine N_then_exit ?_ | refine N_then_ret ?_ | refine N_block ?_ | refine N_block_ret ?_ | refine N_block_exit ?_ | refine N_block_pass rfl ?_ | refine sp true rfl rfl (by rw [hn]; rfl) (by first | trivial | (simp; done) | (simp; omega) | (simp at *; done) | (simp at *; omega)) ?_ | refine sg true rfl rfl rfl (by rw [hn]; rfl) (by intro hG; first | trivial | (simp; done) | (simp; omega) | (simp at *; done) | (simp at *; omega)) ?_)
      refine WL_freeze 180 [(154, numA bw r)] rfl hb ⟨⟨rfl, ⟨rfl, rfl, rfl, ?_, ?_⟩, trivial⟩, rfl⟩ ?_
      · simp; omega
      · simp; rw [List.take_of_length_le (by omega)]
      refine s_call0 (hmk) rfl rfl rfl (by rw [hn]; rfl) rfl rfl (by first | trivial | (simp; done) | (simp; omega) | (simp at *; done) | (simp at *; omega)) rfl rfl rfl ?_
      refine s_storeN rfl rfl rfl rfl rfl (by first | trivial | (simp; done) | (simp; omega) | (simp at *; done) | (simp at *; omega)) rfl rfl rfl (by rw [cellsOf24]; rfl) (by rw [info24]; rfl) rfl rfl ?_
      repeat (first | refine W_seq ?_ | refine W_region ?_ | refine W_block ?_ | refine W_skip ?_ | refine W_ret ?_ | refine W_exit ?_ | refine WL_nil ?_ | refine N_then ?_ | refine N_then_exit ?_ | refine N_then_ret ?_ | refine N_block ?_ | refine N_block_ret ?_ | refine N_block_exit ?_ | refine N_block_pass rfl ?_ | refine sp true rfl rfl (by rw [hn]; rfl) (by first | trivial | (simp; done) | (simp; omega) | (simp at *; done) | (simp at *; omega)) ?_ | refine sg true rfl rfl rfl (by rw [hn]; rfl) (by intro hG; first | trivial | (simp; done) | (simp; omega) | (simp at *; done) | (simp at *; omega)) ?_)
      exact N_retN [] rfl (by first | trivial | (simp; done) | (simp; omega) | (simp at *; done) | (simp at *; omega)) ⟨rfl, by first | trivial | exact ⟨rfl, rfl⟩, by first | trivial | exact rfl | exact ⟨rfl, rfl⟩, rfl⟩ hb rfl (by first | trivial | (simp; done))
end Go.Proofs.Ytppmfjopokkhmaa

/-
  Nil slices taken as empty data. No condition.
-/
import Derived.Test.YtppmfjopokkhmaaSxW
namespace Go.Sx
open Go
set_option linter.unusedVariables false

def CellUp (c c' : Cell) : Prop := c' = c ∨ (c = .lf (.v (.slice none 0 0)) ∧ ((∃ k, c' = .lf (.ints k [])) ∨ ∃ s, c' = .lf (.recs s [])))
def CellsUp : List Cell → List Cell → Prop
  | [], [] => True
  | c :: l, c' :: l' => CellUp c c' ∧ CellsUp l l'
  | _, _ => False
def AvUp1 : Av → Av → Prop
  | .c c, .c c' => CellUp c c'
  | .agg l, .agg l' => CellsUp l l'
  | x, x' => x' = x
def AvsUp : List Av → List Av → Prop
  | [], [] => True
  | c :: l, c' :: l' => AvUp1 c c' ∧ AvsUp l l'
  | _, _ => False
def AvUp : Av → Av → Prop
  | .tup l, .tup l' => AvsUp l l'
  | x, x' => AvUp1 x x'

section
variable {β : Nat → Option Nat} {F : Nat → Prop} {w : World}
theorem CellUp.sound {c c' : Cell} {v : Value} (h : CellUp c c') (hv : CellR β F w c v) : CellR β F w c' v := by
  rcases h with rfl | ⟨rfl, ⟨k, rfl⟩ | ⟨s, rfl⟩⟩
  · exact hv
  · cases hv with | lf hv => cases hv with | v =>
    exact .lf (.ints _ _ _ _ _ rfl (Nat.le_refl _) (by simp [maxLen]) (fun h => absurd rfl h))
  · cases hv with | lf hv => cases hv with | v =>
    exact .lf (.recs _ _ _ _ _ (fun _ _ => undef) rfl (Nat.le_refl _) (by simp [maxLen]) (fun r hr => by cases hr) (fun h => absurd rfl h) (fun i r j x hi => by simp at hi))
theorem CellsUp.get : ∀ {l l' : List Cell}, CellsUp l l' → l.length = l'.length ∧ ∀ (i : Nat) (c' : Cell), l'[i]? = some c' → ∃ c, l[i]? = some c ∧ CellUp c c'
  | [], [], _ => ⟨rfl, fun i c' h => by simp at h⟩
  | c :: l, c' :: l', h => by
    obtain ⟨h1, h2⟩ := CellsUp.get h.2
    refine ⟨by simp [h1], fun i x hx => ?_⟩
    match i, hx with
    | 0, hx => simp at hx; subst hx; exact ⟨c, rfl, h.1⟩
    | i + 1, hx => exact h2 i x (by simpa using hx)
  | [], _ :: _, h => h.elim
  | _ :: _, [], h => h.elim
theorem AvUp1.sound {x x' : Av} {v : Value} (h : AvUp1 x x') (hv : AvR β F w x v) : AvR β F w x' v := by
  unfold AvUp1 at h
  split at h
  · cases hv with
    | c hv => exact .c (h.sound hv)
    | any =>
      rcases h with h | ⟨h, _⟩
      · rw [h]; exact .any _
      · cases h
  · obtain ⟨h1, h2⟩ := h.get
    cases hv with | agg _ cs h3 h4 =>
    refine .agg _ _ (by rw [h3, h1]) fun i x v hx hv => ?_
    obtain ⟨c, hc, hf⟩ := h2 i x hx
    exact hf.sound (h4 i c v hc hv)
  · subst h; exact hv
theorem AvsUp.get : ∀ {l l' : List Av}, AvsUp l l' → l.length = l'.length ∧ ∀ (i : Nat) (c' : Av), l'[i]? = some c' → ∃ c, l[i]? = some c ∧ AvUp1 c c'
  | [], [], _ => ⟨rfl, fun i c' h => by simp at h⟩
  | c :: l, c' :: l', h => by
    obtain ⟨h1, h2⟩ := AvsUp.get h.2
    refine ⟨by simp [h1], fun i x hx => ?_⟩
    match i, hx with
    | 0, hx => simp at hx; subst hx; exact ⟨c, rfl, h.1⟩
    | i + 1, hx => exact h2 i x (by simpa using hx)
  | [], _ :: _, h => h.elim
  | _ :: _, [], h => h.elim
theorem AvUp.sound {x x' : Av} {v : Value} (h : AvUp x x') (hv : AvR β F w x v) : AvR β F w x' v := by
  unfold AvUp at h
  split at h
  · obtain ⟨h1, h2⟩ := h.get
    cases hv with | tup _ cs h3 h4 =>
    refine .tup _ _ (by rw [h3, h1]) fun i x v hx hv => ?_
    obtain ⟨c, hc, hf⟩ := h2 i x hx
    exact hf.sound (h4 i c v hc hv)
  · exact h.sound hv
end

section
variable {P : Program} {E : Env} {ops : Array Oper} {Q : Exit → Act → World → Prop} {rest : List Oper} {o : Oper} {σ : St}
theorem N_retU {fn : Func} {ps : List Prop} {r r' res : Av} {bor' news : List Blk} {nb : Nat} (ks : List Nat) (hr : normR (resP P σ fn.results.toList) = some (ps, r)) (hp : AllP ps) (hu : AvUp r r') (hf : Fin σ r' nb ks res bor' news)
    (hnb : E.nb = nb) (hlb : bor'.length = nb) (hlv : AllP ((ordL 0 bor').map fun p => p.2 ≠ .gone)) :
    N E (bodyPost P fn fun e w' => ∃ v β' F', e = .returned v ∧ AvR β' F' w' res v ∧ (∀ i b, bor'[i]? = some b → BlkR β' F' w' i b) ∧ (∀ i b, news[i]? = some b → BlkR β' F' w' (nb + i) b) ∧ Out E.w0 E.M E.F0 nb news.length E.β0 β' F' w') .ret σ := by
  intro a w hS
  obtain ⟨β, F, hS⟩ := hS
  obtain ⟨v, h1, h2⟩ := resP_sound hS (normR_eq hr) hp
  obtain ⟨β', F', g1, g2, g3, g4⟩ := out_of_fin hS (hu.sound h2) hnb hlb hf hlv
  exact ⟨hS.df, v, h1, v, β', F', rfl, g1, g2, g3, g4⟩

/-- A slot upgraded. -/
theorem SR.up {a : Act} {w : World} (h : SR E σ a w) (i : Nat) {x : Av} (hu : AvUp (σ.tm i) x) : SR E (σ.set i x) a w := by
  obtain ⟨β, F, h⟩ := h
  refine ⟨β, F, fun k => ?_, h.sz, h.df, h.hp, h.inj, h.own, h.lt, h.fr, h.keep, h.bb, h.nbl⟩
  by_cases hk : k = i
  · subst hk; simpa [St.set] using hu.sound (h.tm k)
  · simpa [St.set, hk] using h.tm k
theorem W_up {c : Code} (i : Nat) {x : Av} (hu : AvUp (σ.tm i) x) (h : W P E c Q (σ.set i x)) : W P E c Q σ := fun a w hS => h a w (hS.up i hu)
theorem WL_up (i : Nat) {x : Av} (hu : AvUp (σ.tm i) x) (h : WL P E ops Q rest (σ.set i x)) : WL P E ops Q rest σ := fun a w hS => h a w (hS.up i hu)

/-- Two roads that meet. -/
theorem W_join {c : Code} (τ : St) (h : W P E c (Exit.then (SR E τ) Q) σ) (hk : N E Q .normal τ) : W P E c Q σ :=
  fun a w hS => wp_mono (h a w hS) (fun e a w q => by cases e <;> first | exact q | exact hk a w q)
theorem N_join {τ : St} (h : σ.le τ) : N E (Exit.then (SR E τ) Q) .normal σ := fun a w hS => hS.weaken h
end
end Go.Sx

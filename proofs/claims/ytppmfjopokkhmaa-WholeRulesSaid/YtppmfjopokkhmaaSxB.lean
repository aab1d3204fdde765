/-
  The pure operations over abstract states, computed by a function; that it is sound. No condition.
-/
import Derived.Test.YtppmfjopokkhmaaSxA
namespace Go.Sx
open Go
set_option linter.unusedVariables false

def AllP : List Prop → Prop
  | [] => True
  | [p] => p
  | p :: q :: ps => p ∧ AllP (q :: ps)

theorem AllP.mem : ∀ {ps : List Prop}, AllP ps → ∀ p, p ∈ ps → p
  | [], _, p, hp => by cases hp
  | [q], h, p, hp => by rw [List.mem_singleton.1 hp]; exact h
  | q :: r :: ps, h, p, hp => by
    cases hp with
    | head => exact h.1
    | tail _ hp => exact AllP.mem h.2 p hp
theorem AllP.left : ∀ {ps qs : List Prop}, AllP (ps ++ qs) → AllP ps
  | [], _, _ => trivial
  | [p], [], h => h
  | [p], _ :: _, h => h.1
  | p :: q :: ps, qs, h => ⟨h.1, AllP.left (ps := q :: ps) h.2⟩
theorem AllP.right : ∀ {ps qs : List Prop}, AllP (ps ++ qs) → AllP qs
  | [], _, h => h
  | [p], [], _ => trivial
  | [p], _ :: _, h => h.2
  | p :: q :: ps, qs, h => AllP.right (ps := q :: ps) h.2

def tagg (P : Program) (t : TypeId) : Bool := match P.underlying t with | some (.struct _) => true | some (.array _ _) => true | _ => false

def constAv (v : Value) : Av :=
  match v with
  | .agg cs => if cs.toList.all (·.oneCell') then .agg (cs.toList.map fun x => .lf (.v x)) else .c .un
  | .tuple _ => .c .un
  | v => .c (.lf (.v v))

def ev (σ : St) : Operand → Av
  | .tmp t => σ.tm t
  | .const v => constAv v
  | .global _ => .c .un
  | .func f => .c (.fn (.func f) [] [])

theorem constAvR (β : Nat → Option Nat) (F : Nat → Prop) (w : World) (v : Value) : AvR β F w (constAv v) v := by
  cases v <;> simp only [constAv] <;> first
    | exact .c (.lf (.v _ rfl))
    | exact .any _
    | skip
  rename_i cs
  split
  · rename_i h
    refine .agg _ _ (by simp) fun i x v hx hv => ?_
    simp only [List.getElem?_map, Option.map_eq_some_iff] at hx
    obtain ⟨y, hy, rfl⟩ := hx
    have : cs[i]? = some y := by simpa using hy
    rw [this] at hv
    obtain rfl := Option.some.inj hv
    exact .lf (.v _ (by
      have := List.all_eq_true.1 h y (List.mem_of_getElem? hy)
      simpa using this))
  · exact .any _

theorem SRb.ev {E : Env} {β : Nat → Option Nat} {F : Nat → Prop} {σ : St} {a : Act} {w : World} (h : SRb E β F σ a w) (x : Operand) : AvR β F w (ev σ x) (a.eval x) := by
  cases x with
  | tmp t => exact h.tm t
  | const v => exact constAvR β F w v
  | global g => exact .any _
  | func f => exact .c (.fn _ _ _ _ _ rfl rfl (fun i x v hx => by simp at hx) (fun i x v hx => by simp at hx))

/-- The value under its condition. -/
def str : Av → List Prop × Av
  | .cnd g x => ([g = true], x)
  | x => ([], x)

theorem strR {β : Nat → Option Nat} {F : Nat → Prop} {w : World} {x y : Av} {ps : List Prop} {v : Value} (h : AvR β F w x v) (hs : str x = (ps, y)) (hp : AllP ps) : AvR β F w y v := by
  cases h with
  | cnd g z v h h0 =>
    simp only [str, Prod.mk.injEq] at hs
    obtain ⟨rfl, rfl⟩ := hs
    exact h hp
  | c h => simp only [str, Prod.mk.injEq] at hs; obtain ⟨_, rfl⟩ := hs; exact .c h
  | any => simp only [str, Prod.mk.injEq] at hs; obtain ⟨_, rfl⟩ := hs; exact .any _
  | agg xs cs h1 h => simp only [str, Prod.mk.injEq] at hs; obtain ⟨_, rfl⟩ := hs; exact .agg xs cs h1 h
  | ai k l => simp only [str, Prod.mk.injEq] at hs; obtain ⟨_, rfl⟩ := hs; exact .ai k l
  | tup xs cs h1 h => simp only [str, Prod.mk.injEq] at hs; obtain ⟨_, rfl⟩ := hs; exact .tup xs cs h1 h

theorem AvR.val {β : Nat → Option Nat} {F : Nat → Prop} {w : World} {u v : Value} (h : AvR β F w (.c (.lf (.v u))) v) : v = u := by
  cases h with
  | c h => cases h with | lf h => cases h; rfl

/-! Numbers, strings, truths. -/

/-- An operation on two plain values; nw: sums stay bare, and that they fit is asked. -/
def binV (nw : Bool) (P : Program) (op : BinOp) (t : TypeId) : Value → Value → Option (List Prop × Value)
  | .int k a, .int k' b =>
    match op with
    | .add => if nw then some ([k = k', k.wrap (a + b) = a + b], .int k (a + b)) else some ([k = k'], .int k (k.wrap (a + b)))
    | .sub => if nw then some ([k = k', k.wrap (a - b) = a - b], .int k (a - b)) else some ([k = k'], .int k (k.wrap (a - b)))
    | .mul => if nw then some ([k = k', k.wrap (a * b) = a * b], .int k (a * b)) else some ([k = k'], .int k (k.wrap (a * b)))
    | .quo => if nw then some ([k = k', b ≠ 0, 0 ≤ a, 0 ≤ b, k.wrap (a / b) = a / b], .int k (a / b)) else some ([k = k', b ≠ 0], .int k (k.wrap (a.tdiv b)))
    | .rem => if nw then some ([k = k', b ≠ 0, 0 ≤ a], .int k (a % b)) else some ([k = k', b ≠ 0], .int k (a.tmod b))
    | .and => some ([k = k'], .int k (k.wrap (BitVec.ofInt k.bits a &&& BitVec.ofInt k.bits b).toNat))
    | .or => some ([k = k'], .int k (k.wrap (BitVec.ofInt k.bits a ||| BitVec.ofInt k.bits b).toNat))
    | .xor => some ([k = k'], .int k (k.wrap (BitVec.ofInt k.bits a ^^^ BitVec.ofInt k.bits b).toNat))
    | .andNot => some ([k = k'], .int k (k.wrap (BitVec.ofInt k.bits a &&& ~~~BitVec.ofInt k.bits b).toNat))
    | .shl => if nw then some ([0 ≤ b, k.wrap (a * 2 ^ min b.toNat k.bits) = a * 2 ^ min b.toNat k.bits], .int k (a * 2 ^ min b.toNat k.bits)) else some ([0 ≤ b], .int k (k.wrap (a * 2 ^ min b.toNat k.bits)))
    | .shr => some ([0 ≤ b], .int k (a / 2 ^ min b.toNat k.bits))
    | .eql => some ([k = k'], .bool (a == b))
    | .neq => some ([k = k'], .bool (a != b))
    | .lss => some ([k = k'], .bool (decide (a < b)))
    | .leq => some ([k = k'], .bool (decide (a ≤ b)))
    | .gtr => some ([k = k'], .bool (decide (b < a)))
    | .geq => some ([k = k'], .bool (decide (b ≤ a)))
  | .string a, .string b =>
    match op with
    | .add => some ([a.size + b.size ≤ 9223372036854775807], .string (a ++ b))
    | .eql => some ([], .bool (a.toList == b.toList))
    | .neq => some ([], .bool (!(a.toList == b.toList)))
    | .lss => some ([], .bool (Op.bytesLess a.toList b.toList))
    | .leq => some ([], .bool (Op.bytesLess a.toList b.toList || a.toList == b.toList))
    | .gtr => some ([], .bool (!(Op.bytesLess a.toList b.toList || a.toList == b.toList)))
    | .geq => some ([], .bool (!Op.bytesLess a.toList b.toList))
    | _ => none
  | .bool a, .bool b =>
    match op with
    | .eql => some ([P.underlying t = some .bool], .bool (a == b))
    | .neq => some ([P.underlying t = some .bool], .bool (!(a == b)))
    | _ => none
  | .pointer none, .pointer none =>
    match op with
    | .eql => some ([∃ e, P.underlying t = some (.pointer e)], .bool true)
    | .neq => some ([∃ e, P.underlying t = some (.pointer e)], .bool false)
    | _ => none
  | .slice none 0 0, .slice none 0 0 =>
    match op with
    | .eql => some ([∃ e, P.underlying t = some (.slice e)], .bool true)
    | .neq => some ([∃ e, P.underlying t = some (.slice e)], .bool false)
    | _ => none
  | _, _ => none

theorem fdiv_two_pow (a : Int) (n : Nat) : a.fdiv (2 ^ n) = a / 2 ^ n := Int.fdiv_eq_ediv_of_nonneg _ (by exact_mod_cast Nat.zero_le (2 ^ n))

theorem equalIn_bool {P : Program} {t : TypeId} (hp : P.underlying t = some .bool) (w : World) (d : Nat) (a b : Bool) : (Op.equalIn (d + 1) t (.bool a) (.bool b)).run P w = .ok (a == b) w := by
  simp [Op.equalIn, run_underlying hp]
theorem equalIn_nilp {P : Program} {t e : TypeId} (hp : P.underlying t = some (.pointer e)) (w : World) (d : Nat) : (Op.equalIn (d + 1) t (.pointer none) (.pointer none)).run P w = .ok true w := by
  simp [Op.equalIn, run_underlying hp]
theorem equalIn_nils {P : Program} {t e : TypeId} (hp : P.underlying t = some (.slice e)) (w : World) (d : Nat) : (Op.equalIn (d + 1) t (.slice none 0 0) (.slice none 0 0)).run P w = .ok true w := by
  simp [Op.equalIn, run_underlying hp]
theorem equal_bool {P : Program} {t : TypeId} (hp : P.underlying t = some .bool) (w : World) (a b : Bool) : (Op.equal t (.bool a) (.bool b)).run P w = .ok (a == b) w := equalIn_bool hp w 9999 a b
theorem equal_nilp {P : Program} {t e : TypeId} (hp : P.underlying t = some (.pointer e)) (w : World) : (Op.equal t (.pointer none) (.pointer none)).run P w = .ok true w := equalIn_nilp hp w 9999
theorem equal_nils {P : Program} {t e : TypeId} (hp : P.underlying t = some (.slice e)) (w : World) : (Op.equal t (.slice none 0 0) (.slice none 0 0)).run P w = .ok true w := equalIn_nils hp w 9999

theorem binV_sound {nw : Bool} {P : Program} {op : BinOp} {t : TypeId} {u v z : Value} {ps : List Prop} (h : binV nw P op t u v = some (ps, z)) (hp : AllP ps) (w : World) (x y : Operand) :
    (do eqGuard op t x y u v; binOp op t u v : Sem Value).run P w = .ok z w := by
  unfold binV at h
  split at h
  · -- ints
    rename_i k a k' b
    have hg : (eqGuard op t x y (.int k a) (.int k' b)).run P w = .ok () w := by
      cases op <;> simp [eqGuard]
    rw [Sem.run_bind, hg, Result.andThen_ok]
    cases op <;> simp only [Option.some.injEq, Prod.mk.injEq] at h <;> (try (split at h <;> simp only [Option.some.injEq, Prod.mk.injEq] at h)) <;> obtain ⟨rfl, rfl⟩ := h
    all_goals (simp only [AllP] at hp)
    all_goals first
      | (obtain ⟨rfl, h1, h2, h3, h4⟩ := hp; simp [binOp, Op.intDiv, h1, Int.tdiv_eq_ediv_of_nonneg h2, h4]; done)
      | (obtain ⟨rfl, h1, h2⟩ := hp; simp [binOp, Op.intDiv, h1, Int.tmod_eq_emod_of_nonneg h2]; done)
      | (obtain ⟨rfl, h1⟩ := hp; simp [binOp, Op.intArith, Op.intDiv, h1]; done)
      | (obtain ⟨h0, h1⟩ := hp; have : ¬ b < 0 := by omega
         simp [binOp, Op.shift, this, h1]; done)
      | (subst hp; simp [binOp, Op.intArith, Op.intBits, Op.intCmp]; done)
      | (have : ¬ b < 0 := by omega
         simp [binOp, Op.shift, this, fdiv_two_pow]; done)
  · rename_i a b
    have hg : (eqGuard op t x y (.string a) (.string b)).run P w = .ok () w := by
      cases op <;> simp [eqGuard]
    rw [Sem.run_bind, hg, Result.andThen_ok]
    cases op <;> simp only [Option.some.injEq, Prod.mk.injEq, reduceCtorEq] at h <;> obtain ⟨rfl, rfl⟩ := h
    all_goals (simp only [AllP] at hp)
    all_goals first
      | (have hs : ¬ (((a.size + b.size : Nat) : Int) > IntKind.i64.max) := by simp [IntKind.max, IntKind.signed, IntKind.bits]; omega
         simp [binOp, Op.stringOp]; simp at hs; omega)
      | (simp [binOp, Op.stringOp]; done)
  · rename_i a b
    have hg : (eqGuard op t x y (.bool a) (.bool b)).run P w = .ok () w := by
      cases op <;> simp [eqGuard]
    rw [Sem.run_bind, hg, Result.andThen_ok]
    cases op <;> simp only [Option.some.injEq, Prod.mk.injEq, reduceCtorEq] at h <;> obtain ⟨rfl, rfl⟩ := h
    all_goals (simp only [AllP] at hp; simp [binOp, equal_bool hp])
  · have hg : (eqGuard op t x y (.pointer none) (.pointer none)).run P w = .ok () w := by
      cases op <;> simp [eqGuard]
    rw [Sem.run_bind, hg, Result.andThen_ok]
    cases op <;> simp only [Option.some.injEq, Prod.mk.injEq, reduceCtorEq] at h <;> obtain ⟨rfl, rfl⟩ := h
    all_goals (simp only [AllP] at hp; obtain ⟨e, hp⟩ := hp; simp [binOp, equal_nilp hp])
  · have hg : (eqGuard op t x y (.slice none 0 0) (.slice none 0 0)).run P w = .ok () w := by
      cases op <;> simp [eqGuard]
    rw [Sem.run_bind, hg, Result.andThen_ok]
    cases op <;> simp only [Option.some.injEq, Prod.mk.injEq, reduceCtorEq] at h <;> obtain ⟨rfl, rfl⟩ := h
    all_goals (simp only [AllP] at hp; obtain ⟨e, hp⟩ := hp; simp [binOp, equal_nils hp])
  · cases h

end Go.Sx

/-
  Chapter 12: a block more, the state's bytes. The conditions: words below 2^32, bytes that are bytes.
-/
import Derived.Test.YtohfhephkjihfaaGreatM2
namespace Go.Proofs.YtohfhephkjihfaaGreat
set_option linter.unusedSimpArgs false
set_option linter.unusedVariables false
open Go.Sx
set_option maxRecDepth 10000
abbrev hC (v : V8) (bg : Bool) (X : Cell) (n : Int) : List Cell := [u32C v.a, u32C v.b, u32C v.c, u32C v.d, u32C v.e, u32C v.f, u32C v.g, u32C v.h, .lf (.v (.bool bg)), X, .lf (.v (.int .i64 n))]
structure VI where
 v : V8
 i : Nat
theorem runV_step (v : V8) (k w : Int) (ks ws : List Int) : runV v (k :: ks) (w :: ws) = runV (stepV v k w) ks ws := rfl
theorem stepV_ok {v : V8} (h : v.ok) (k w : Int) : (stepV v k w).ok := by
 obtain ⟨h1, h2, h3, h4, h5, h6, h7, h8⟩ := h
 exact ⟨mod_low _, h1, h2, h3, mod_low _, h5, h6, h7⟩
theorem addV_ok (v u : V8) : (addV v u).ok := ⟨mod_low _, mod_low _, mod_low _, mod_low _, mod_low _, mod_low _, mod_low _, mod_low _⟩
theorem compS_ok (v : V8) (b : List Int) : (compS v b).ok := addV_ok _ _
theorem KS_low : W32L KS := by
 have : ∀ x, x ∈ KS → 0 ≤ x ∧ x < 4294967296 := by decide
 exact this
theorem H0_ok : H0.ok := by
 refine ⟨?_, ?_, ?_, ?_, ?_, ?_, ?_, ?_⟩ <;> exact ⟨by decide, by decide⟩
theorem drop_cons {l : List Int} {i : Nat} (h : i < l.length) : l.drop i = l.getD i 0 :: l.drop (i + 1) := by
 rw [List.drop_eq_getElem_cons h]
 simp [h]
def addI (v u : V8) (i : Nat) : V8 := ⟨if 0 < i then (v.a + u.a) % 4294967296 else v.a, if 1 < i then (v.b + u.b) % 4294967296 else v.b, if 2 < i then (v.c + u.c) % 4294967296 else v.c, if 3 < i then (v.d + u.d) % 4294967296 else v.d,
 if 4 < i then (v.e + u.e) % 4294967296 else v.e, if 5 < i then (v.f + u.f) % 4294967296 else v.f, if 6 < i then (v.g + u.g) % 4294967296 else v.g, if 7 < i then (v.h + u.h) % 4294967296 else v.h⟩
theorem addI_0 (v u : V8) : addI v u 0 = ⟨v.a, v.b, v.c, v.d, v.e, v.f, v.g, v.h⟩ := rfl
theorem addI_1 (v u : V8) : addI v u 1 = ⟨(v.a + u.a) % 4294967296, v.b, v.c, v.d, v.e, v.f, v.g, v.h⟩ := rfl
theorem addI_2 (v u : V8) : addI v u 2 = ⟨(v.a + u.a) % 4294967296, (v.b + u.b) % 4294967296, v.c, v.d, v.e, v.f, v.g, v.h⟩ := rfl
theorem addI_3 (v u : V8) : addI v u 3 = ⟨(v.a + u.a) % 4294967296, (v.b + u.b) % 4294967296, (v.c + u.c) % 4294967296, v.d, v.e, v.f, v.g, v.h⟩ := rfl
theorem addI_4 (v u : V8) : addI v u 4 = ⟨(v.a + u.a) % 4294967296, (v.b + u.b) % 4294967296, (v.c + u.c) % 4294967296, (v.d + u.d) % 4294967296, v.e, v.f, v.g, v.h⟩ := rfl
theorem addI_5 (v u : V8) : addI v u 5 = ⟨(v.a + u.a) % 4294967296, (v.b + u.b) % 4294967296, (v.c + u.c) % 4294967296, (v.d + u.d) % 4294967296, (v.e + u.e) % 4294967296, v.f, v.g, v.h⟩ := rfl
theorem addI_6 (v u : V8) : addI v u 6 = ⟨(v.a + u.a) % 4294967296, (v.b + u.b) % 4294967296, (v.c + u.c) % 4294967296, (v.d + u.d) % 4294967296, (v.e + u.e) % 4294967296, (v.f + u.f) % 4294967296, v.g, v.h⟩ := rfl
theorem addI_7 (v u : V8) : addI v u 7 = ⟨(v.a + u.a) % 4294967296, (v.b + u.b) % 4294967296, (v.c + u.c) % 4294967296, (v.d + u.d) % 4294967296, (v.e + u.e) % 4294967296, (v.f + u.f) % 4294967296, (v.g + u.g) % 4294967296, v.h⟩ := rfl
theorem addI_8 (v u : V8) : addI v u 8 = ⟨(v.a + u.a) % 4294967296, (v.b + u.b) % 4294967296, (v.c + u.c) % 4294967296, (v.d + u.d) % 4294967296, (v.e + u.e) % 4294967296, (v.f + u.f) % 4294967296, (v.g + u.g) % 4294967296, (v.h + u.h) % 4294967296⟩ := rfl
theorem stepT_eq (v : V8) (hv : v.ok) (k w : Int) : IntKind.u32.wrap (IntKind.u32.wrap (IntKind.u32.wrap (IntKind.u32.wrap (v.h + greatS v.e 6 11 25) +
     IntKind.u32.wrap (BitVec.ofInt IntKind.u32.bits (IntKind.u32.wrap (BitVec.ofInt IntKind.u32.bits v.e &&& BitVec.ofInt IntKind.u32.bits v.f).toNat) ^^^ BitVec.ofInt IntKind.u32.bits (IntKind.u32.wrap (BitVec.ofInt IntKind.u32.bits (IntKind.u32.wrap (BitVec.ofInt IntKind.u32.bits (if IntKind.u32.signed then -1 else IntKind.u32.max) ^^^ BitVec.ofInt IntKind.u32.bits v.e).toNat) &&& BitVec.ofInt IntKind.u32.bits v.g).toNat)).toNat) + k) + w) = stepT v k w := by
 obtain ⟨h1, h2, h3, h4, h5, h6, h7, h8⟩ := hv
 have hn : W32 (4294967295 - v.e) := by unfold W32 at *; omega
 rw [not32 h5, and32 h5 h6, and32 hn h7, xor32 (aI_low h5 h6) (aI_low hn h7)]
 simp only [wrapE32]
 unfold stepT
 generalize greatS v.e 6 11 25 = q1
 generalize xI (aI v.e v.f) (aI (4294967295 - v.e) v.g) = q2
 omega
theorem stepU_eq (v : V8) (hv : v.ok) : IntKind.u32.wrap (greatS v.a 2 13 22 +
     IntKind.u32.wrap (BitVec.ofInt IntKind.u32.bits (IntKind.u32.wrap (BitVec.ofInt IntKind.u32.bits (IntKind.u32.wrap (BitVec.ofInt IntKind.u32.bits v.a &&& BitVec.ofInt IntKind.u32.bits v.b).toNat) ^^^ BitVec.ofInt IntKind.u32.bits (IntKind.u32.wrap (BitVec.ofInt IntKind.u32.bits v.a &&& BitVec.ofInt IntKind.u32.bits v.c).toNat)).toNat) ^^^ BitVec.ofInt IntKind.u32.bits (IntKind.u32.wrap (BitVec.ofInt IntKind.u32.bits v.b &&& BitVec.ofInt IntKind.u32.bits v.c).toNat)).toNat) = stepU v := by
 obtain ⟨h1, h2, h3, h4, h5, h6, h7, h8⟩ := hv
 rw [and32 h1 h2, and32 h1 h3, and32 h2 h3, xor32 (aI_low h1 h2) (aI_low h1 h3), xor32 (xI_low (aI_low h1 h2) (aI_low h1 h3)) (aI_low h2 h3)]
 rw [wrapE32]
 rfl
set_option maxHeartbeats 4000000 in
theorem block_own (v : V8) (bg : Bool) (o m : Nat) (n : Int) (l : List Int) (off : Nat) (hv : v.ok) (hl : off + 64 ≤ l.length) (hw : WfB l) :
   Ct Tryz.prog 58 [.c (.ptr 0 0), .c (.own 1 1 off 64)] [.cells (hC v bg (.own 1 1 o m) n), .row (.ints .u8 l)] (.tup []) [.cells (hC (compS v ((l.drop off).take 64)) bg (.own 1 1 o m) n), .row (.ints .u8 l)] [] := by
 have hwd := words_ok l off hl hw
 have hb64 : ((l.drop off).take 64).length = 64 := by simp; omega
 have hwb : WfB ((l.drop off).take 64) := fun x hx => hw x (List.mem_of_mem_drop (List.mem_of_mem_take hx))
 have hWl := wordsS_len _ hb64
 have hWw := wordsS_low hwb
 have hWn : wordsS ((l.drop off).take 64) ≠ [] := by intro h; rw [h] at hWl; simp at hWl
 have hcs : compS v ((l.drop off).take 64) = addV v (runV v KS (wordsS ((l.drop off).take 64))) := rfl
 rw [hcs]
 clear hcs
 generalize wordsS ((l.drop off).take 64) = A at *
 refine Ct_intro Tryz.func58 rfl rfl rfl rfl rfl (fun E hn hb => ?_)
 repeat (refine nst ?_)
 refine s_call [1] hwd rfl rfl (by rw [hn]; rfl) rfl rfl (by trivial) ⟨rfl, rfl, by simp [ordL], rfl⟩ ?_
 repeat (refine nst ?_)
 refine s_call0 (constants_ok) rfl rfl rfl (by rw [hn]; rfl) rfl rfl (by exact vcs) rfl rfl rfl ?_
 repeat (refine nst ?_)
 refine s_allocAN .u32 64 rfl rfl rfl (by rw [hn]; rfl) (by kernel_rfl) ?_
 repeat (refine nst ?_)
 refine s_allocAN .u32 64 rfl rfl rfl (by rw [hn]; rfl) (by kernel_rfl) ?_
 repeat (refine nst ?_)
 refine s_storeA rfl rfl rfl rfl rfl (by exact vcs) rfl (by rw [cellsOf129]; first | rfl | assumption | omega | kernel_rfl | (simp; done) | (simp; omega) | (simp at *; omega)) (by first | rfl | assumption | omega | kernel_rfl | (simp; done) | (simp; omega) | (simp at *; omega)) (by first | assumption | (simp; done) | exact List.cons_ne_nil _ _) ?_
 refine s_storeA rfl rfl rfl rfl rfl (by exact vcs) rfl (by rw [cellsOf129]; first | rfl | assumption | omega | kernel_rfl | (simp; done) | (simp; omega) | (simp at *; omega)) (by first | rfl | assumption | omega | kernel_rfl | (simp; done) | (simp; omega) | (simp at *; omega)) (by first | assumption | (simp; done) | exact List.cons_ne_nil _ _) ?_
 repeat (refine nst ?_)
 refine s_allocN rfl rfl rfl (by rw [hn]; rfl) rfl zok107 ?_
 repeat (refine nst ?_)
 refine s_storeN rfl rfl rfl rfl rfl (by exact vcs) rfl rfl rfl (by rw [cellsOf107]; rfl) (by rw [info107]; rfl) rfl rfl ?_
 repeat (refine nst ?_)
 refine W_weaken (St.le_of (l := [(0, .c (.ptr 0 0)), (4, .c (.ptr 68 0)), (5, .c (.ptr 69 0)), (6, .c (.ptr 70 0)), (18, lv (.int .i64 0))]) (h := [(0, .cells (hC v bg (.own 1 1 o m) n)), (1, .row (.ints .u8 l)), (68, .row (.ints .u32 A)), (69, .row (.ints .u32 KS)), (70, .cells (v.l.map u32C))]) (by refine ⟨?_, ?_⟩ <;> (repeat' (first | exact trivial | exact rfl | refine ⟨?_, ?_⟩)) <;> first | exact rfl | (simp; done) | skip)) ?_
 refine W_loop (ι := {p : VI // p.i ≤ 64 ∧ runV p.v (KS.drop p.i) (A.drop p.i) = runV v KS A ∧ p.v.ok}) (fun p => St.of [(0, .c (.ptr 0 0)), (4, .c (.ptr 68 0)), (5, .c (.ptr 69 0)), (6, .c (.ptr 70 0)), (18, lv (.int .i64 (p.1.i : Int)))] [(0, .cells (hC v bg (.own 1 1 o m) n)), (1, .row (.ints .u8 l)), (68, .row (.ints .u32 A)), (69, .row (.ints .u32 KS)), (70, .cells (p.1.v.l.map u32C))]) (fun p => 64 - p.1.i) (fun p => ?_) ⟨⟨v, 0⟩, by simp, rfl, hv⟩
 obtain ⟨⟨u, i⟩, hi0, hru0, huo0⟩ := p
 have hi : i ≤ 64 := hi0
 have hru : runV u (KS.drop i) (A.drop i) = runV v KS A := hru0
 have huo : u.ok := huo0
 dsimp only
 clear hi0 hru0 huo0
 repeat (refine nst ?_)
 refine W_cond rfl (by simp) (fun hc => ?_) (fun hc => ?_)
 · have hi64 : i < 64 := by simp at hc; omega
   have hkd := drop_cons (l := KS) (i := i) (by rw [KS_len]; omega)
   have had := drop_cons (l := A) (i := i) (by omega)
   rw [hkd, had, runV_step] at hru
   have hk2 : KS.getD (0 + (i : Int).toNat) 0 = KS.getD i 0 := by rw [Nat.zero_add, Int.toNat_natCast]
   have ha2 : A.getD (0 + (i : Int).toNat) 0 = A.getD i 0 := by rw [Nat.zero_add, Int.toNat_natCast]
   have hgt := great_ok u.e 6 11 25 huo.2.2.2.2.1 (by omega) (by omega) (by omega)
   have hgu := great_ok u.a 2 13 22 huo.1 (by omega) (by omega) (by omega)
   have hK := KS_len
   repeat (refine nst ?_)
   refine W_drawW 28 (by kernel_rfl) (by kernel_rfl) (by kernel_rfl) (by rw [hn]; rfl) rfl rfl ?_
   repeat (first | refine dp1 ?_ | refine dg1 ?_ | refine DrawW_nil ?_)
   refine DrawW_cons rfl (ops_of (opys_call (hgt) rfl rfl rfl (by exact vcs) rfl rfl rfl) rfl) ?_
   refine DrawW_cons rfl (ops_pure false rfl rfl (by exact vcs)) ?_
   repeat (first | refine dp1 ?_ | refine dg1 ?_ | refine DrawW_nil ?_)
   refine DrawW_cons rfl (ops_pure false rfl rfl (by exact vcs)) ?_
   repeat (first | refine dp1 ?_ | refine dg1 ?_ | refine DrawW_nil ?_)
   refine DrawW_cons rfl (ops_pure false rfl rfl (by exact vcs)) ?_
   repeat (first | refine dp1 ?_ | refine dg1 ?_ | refine DrawW_nil ?_)
   refine DrawW_cons rfl (ops_pure false rfl rfl (by exact vcs)) ?_
   repeat (first | refine dp1 ?_ | refine dg1 ?_ | refine DrawW_nil ?_)
   repeat (refine nst ?_)
   refine W_drawW 22 (by kernel_rfl) (by kernel_rfl) (by kernel_rfl) (by rw [hn]; rfl) rfl rfl ?_
   repeat (first | refine dp1 ?_ | refine dg1 ?_ | refine DrawW_nil ?_)
   refine DrawW_cons rfl (ops_of (opys_call (hgu) rfl rfl rfl (by exact vcs) rfl rfl rfl) rfl) ?_
   repeat (first | refine dp1 ?_ | refine dg1 ?_ | refine DrawW_nil ?_)
   refine DrawW_cons rfl (ops_pure false rfl rfl (by exact vcs)) ?_
   repeat (first | refine dp1 ?_ | refine dg1 ?_ | refine DrawW_nil ?_)
   repeat (refine nst ?_)
   obtain ⟨T, hT⟩ : ∃ T, stepT u (KS.getD i 0) (A.getD i 0) = T := ⟨_, rfl⟩
   obtain ⟨U, hU⟩ : ∃ U, stepU u = U := ⟨_, rfl⟩
   have hst : stepV u (KS.getD i 0) (A.getD i 0) = ⟨(T + U) % 4294967296, u.a, u.b, u.c, (u.d + T) % 4294967296, u.e, u.f, u.g⟩ := by rw [← hT, ← hU]; rfl
   have eT := stepT_eq u huo (KS.getD i 0) (A.getD i 0)
   have eU := stepU_eq u huo
   rw [hT] at eT
   rw [hU] at eU
   rw [← hk2, ← ha2] at eT
   refine WL_sr (τ := St.of [(0, .c (.ptr 0 0)), (4, .c (.ptr 68 0)), (5, .c (.ptr 69 0)), (6, .c (.ptr 70 0)), (18, lv (.int .i64 (i : Int))), (69, lv (.int .u32 T)), (70, lv (.int .u32 U)), (8, lv (.int .u32 T))] [(0, .cells (hC v bg (.own 1 1 o m) n)), (1, .row (.ints .u8 l)), (68, .row (.ints .u32 A)), (69, .row (.ints .u32 KS)), (70, .cells (u.l.map u32C))]) (fun a w h => h.weaken (St.le_of ⟨⟨rfl, rfl, rfl, rfl, rfl, congrArg (fun y => lv (.int .u32 y)) eT, congrArg (fun y => lv (.int .u32 y)) eU, congrArg (fun y => lv (.int .u32 y)) eT⟩, ⟨rfl, rfl, rfl, rfl, rfl⟩⟩)) ?_
   have hv2 := stepV_ok huo (KS.getD i 0) (A.getD i 0)
   rw [hst] at hru hv2
   clear hst hT hU eT eU
   refine sp false rfl rfl (by rw [hn]; rfl) (by exact vcs) ?_
   repeat (refine nst ?_)
   refine sp false rfl rfl (by rw [hn]; rfl) (by exact vcs) ?_
   repeat (refine nst ?_)
   refine WL_q (opq_of (opy_arr rfl rfl (by exact vcs)) rfl) (by rw [hn]; rfl) ?_
   refine s_storeN rfl rfl rfl rfl rfl (by exact vcs) rfl rfl rfl (by rw [cellsOf107]; rfl) (by rw [info107]; rfl) rfl rfl ?_
   repeat (refine nst ?_)
   refine N_round ⟨⟨⟨(T + U) % 4294967296, u.a, u.b, u.c, (u.d + T) % 4294967296, u.e, u.f, u.g⟩, i + 1⟩, by dsimp only; omega, hru, hv2⟩ (by dsimp only; omega) (St.le_of ⟨⟨rfl, rfl, rfl, rfl, rfl⟩, ⟨rfl, rfl, rfl, rfl, ?_⟩⟩)
   simp only [V8.l, List.map_cons, List.map_nil, ← wrapE32]
   rfl
 · have : i = 64 := by simp at hc; omega
   subst this
   rw [List.drop_of_length_le (by rw [KS_len]; omega)] at hru
   have hru2 : u = runV v KS A := by
     have : runV u [] (A.drop 64) = u := by cases A.drop 64 <;> rfl
     rw [← hru, this]
   rw [← hru2]
   repeat (refine nst ?_)
   refine W_weaken (St.le_of (l := [(0, .c (.ptr 0 0)), (6, .c (.ptr 70 0)), (90, lv (.int .i64 0))]) (h := [(0, .cells (hC v bg (.own 1 1 o m) n)), (1, .row (.ints .u8 l)), (70, .cells (u.l.map u32C))]) (by refine ⟨?_, ?_⟩ <;> (repeat' (first | exact trivial | exact rfl | refine ⟨?_, ?_⟩)) <;> first | exact rfl | (simp; done) | skip)) ?_
   refine W_loop (ι := {i : Nat // i ≤ 8}) (fun i => St.of [(0, .c (.ptr 0 0)), (6, .c (.ptr 70 0)), (90, lv (.int .i64 (i.1 : Int)))] [(0, .cells (hC (addI v u i.1) bg (.own 1 1 o m) n)), (1, .row (.ints .u8 l)), (70, .cells (u.l.map u32C))]) (fun i => 8 - i.1) (fun i => ?_) ⟨0, by omega⟩
   obtain ⟨i, hi⟩ := i
   dsimp only
   repeat (refine nst ?_)
   refine W_cond rfl (by simp) (fun hc => ?_) (fun hc => ?_)
   · have hi9 : i = 0 ∨ i = 1 ∨ i = 2 ∨ i = 3 ∨ i = 4 ∨ i = 5 ∨ i = 6 ∨ i = 7 := by simp at hc; omega
     clear hi hc
     rcases hi9 with rfl | rfl | rfl | rfl | rfl | rfl | rfl | rfl
     · rw [addI_0]
       repeat (refine nst ?_)
       refine W_drawX [] (by kernel_rfl) (by kernel_rfl) (by rw [hn]; rfl) ?_
       repeat (refine nsx ?_)
       refine DrawX_op rfl rfl rfl (ops_pure false rfl rfl (by exact vcs)) ?_
       repeat (refine nsx ?_)
       refine DrawX_store rfl rfl rfl rfl (by exact vcs) rfl rfl rfl (by rw [cellsOf106]; rfl) (by rw [info106]; rfl) rfl rfl ?_
       repeat (refine nsx ?_)
       repeat (refine nst ?_)
       refine N_round ⟨1, by omega⟩ (by dsimp only; omega) (St.le_of ⟨⟨rfl, rfl, rfl⟩, ⟨?_, rfl, rfl⟩⟩)
       dsimp only
       rw [addI_1]
       simp only [← wrapE32]
       rfl
     · rw [addI_1]
       repeat (refine nst ?_)
       refine W_drawX [] (by kernel_rfl) (by kernel_rfl) (by rw [hn]; rfl) ?_
       repeat (refine nsx ?_)
       refine DrawX_op rfl rfl rfl (ops_pure false rfl rfl (by exact vcs)) ?_
       repeat (refine nsx ?_)
       refine DrawX_store rfl rfl rfl rfl (by exact vcs) rfl rfl rfl (by rw [cellsOf106]; rfl) (by rw [info106]; rfl) rfl rfl ?_
       repeat (refine nsx ?_)
       repeat (refine nst ?_)
       refine N_round ⟨2, by omega⟩ (by dsimp only; omega) (St.le_of ⟨⟨rfl, rfl, rfl⟩, ⟨?_, rfl, rfl⟩⟩)
       dsimp only
       rw [addI_2]
       simp only [← wrapE32]
       rfl
     · rw [addI_2]
       repeat (refine nst ?_)
       refine W_drawX [] (by kernel_rfl) (by kernel_rfl) (by rw [hn]; rfl) ?_
       repeat (refine nsx ?_)
       refine DrawX_op rfl rfl rfl (ops_pure false rfl rfl (by exact vcs)) ?_
       repeat (refine nsx ?_)
       refine DrawX_store rfl rfl rfl rfl (by exact vcs) rfl rfl rfl (by rw [cellsOf106]; rfl) (by rw [info106]; rfl) rfl rfl ?_
       repeat (refine nsx ?_)
       repeat (refine nst ?_)
       refine N_round ⟨3, by omega⟩ (by dsimp only; omega) (St.le_of ⟨⟨rfl, rfl, rfl⟩, ⟨?_, rfl, rfl⟩⟩)
       dsimp only
       rw [addI_3]
       simp only [← wrapE32]
       rfl
     · rw [addI_3]
       repeat (refine nst ?_)
       refine W_drawX [] (by kernel_rfl) (by kernel_rfl) (by rw [hn]; rfl) ?_
       repeat (refine nsx ?_)
       refine DrawX_op rfl rfl rfl (ops_pure false rfl rfl (by exact vcs)) ?_
       repeat (refine nsx ?_)
       refine DrawX_store rfl rfl rfl rfl (by exact vcs) rfl rfl rfl (by rw [cellsOf106]; rfl) (by rw [info106]; rfl) rfl rfl ?_
       repeat (refine nsx ?_)
       repeat (refine nst ?_)
       refine N_round ⟨4, by omega⟩ (by dsimp only; omega) (St.le_of ⟨⟨rfl, rfl, rfl⟩, ⟨?_, rfl, rfl⟩⟩)
       dsimp only
       rw [addI_4]
       simp only [← wrapE32]
       rfl
     · rw [addI_4]
       repeat (refine nst ?_)
       refine W_drawX [] (by kernel_rfl) (by kernel_rfl) (by rw [hn]; rfl) ?_
       repeat (refine nsx ?_)
       refine DrawX_op rfl rfl rfl (ops_pure false rfl rfl (by exact vcs)) ?_
       repeat (refine nsx ?_)
       refine DrawX_store rfl rfl rfl rfl (by exact vcs) rfl rfl rfl (by rw [cellsOf106]; rfl) (by rw [info106]; rfl) rfl rfl ?_
       repeat (refine nsx ?_)
       repeat (refine nst ?_)
       refine N_round ⟨5, by omega⟩ (by dsimp only; omega) (St.le_of ⟨⟨rfl, rfl, rfl⟩, ⟨?_, rfl, rfl⟩⟩)
       dsimp only
       rw [addI_5]
       simp only [← wrapE32]
       rfl
     · rw [addI_5]
       repeat (refine nst ?_)
       refine W_drawX [] (by kernel_rfl) (by kernel_rfl) (by rw [hn]; rfl) ?_
       repeat (refine nsx ?_)
       refine DrawX_op rfl rfl rfl (ops_pure false rfl rfl (by exact vcs)) ?_
       repeat (refine nsx ?_)
       refine DrawX_store rfl rfl rfl rfl (by exact vcs) rfl rfl rfl (by rw [cellsOf106]; rfl) (by rw [info106]; rfl) rfl rfl ?_
       repeat (refine nsx ?_)
       repeat (refine nst ?_)
       refine N_round ⟨6, by omega⟩ (by dsimp only; omega) (St.le_of ⟨⟨rfl, rfl, rfl⟩, ⟨?_, rfl, rfl⟩⟩)
       dsimp only
       rw [addI_6]
       simp only [← wrapE32]
       rfl
     · rw [addI_6]
       repeat (refine nst ?_)
       refine W_drawX [] (by kernel_rfl) (by kernel_rfl) (by rw [hn]; rfl) ?_
       repeat (refine nsx ?_)
       refine DrawX_op rfl rfl rfl (ops_pure false rfl rfl (by exact vcs)) ?_
       repeat (refine nsx ?_)
       refine DrawX_store rfl rfl rfl rfl (by exact vcs) rfl rfl rfl (by rw [cellsOf106]; rfl) (by rw [info106]; rfl) rfl rfl ?_
       repeat (refine nsx ?_)
       repeat (refine nst ?_)
       refine N_round ⟨7, by omega⟩ (by dsimp only; omega) (St.le_of ⟨⟨rfl, rfl, rfl⟩, ⟨?_, rfl, rfl⟩⟩)
       dsimp only
       rw [addI_7]
       simp only [← wrapE32]
       rfl
     · rw [addI_7]
       repeat (refine nst ?_)
       refine W_drawX [] (by kernel_rfl) (by kernel_rfl) (by rw [hn]; rfl) ?_
       repeat (refine nsx ?_)
       refine DrawX_op rfl rfl rfl (ops_pure false rfl rfl (by exact vcs)) ?_
       repeat (refine nsx ?_)
       refine DrawX_store rfl rfl rfl rfl (by exact vcs) rfl rfl rfl (by rw [cellsOf106]; rfl) (by rw [info106]; rfl) rfl rfl ?_
       repeat (refine nsx ?_)
       repeat (refine nst ?_)
       refine N_round ⟨8, by omega⟩ (by dsimp only; omega) (St.le_of ⟨⟨rfl, rfl, rfl⟩, ⟨?_, rfl, rfl⟩⟩)
       dsimp only
       rw [addI_8]
       simp only [← wrapE32]
       rfl
   · have : i = 8 := by simp at hc; omega
     subst this
     rw [addI_8]
     repeat (refine nst ?_)
     refine rt2 [] ?_ ?_
     · rfl
     · trivial
set_option maxHeartbeats 4000000 in
theorem block_un (v : V8) (bg : Bool) (n : Int) (l : List Int) (off : Nat) (hv : v.ok) (hl : off + 64 ≤ l.length) (hw : WfB l) :
   Ct Tryz.prog 58 [.c (.ptr 0 0), .c (.own 1 1 off 64)] [.cells (hC v bg .un n), .row (.ints .u8 l)] (.tup []) [.cells (hC (compS v ((l.drop off).take 64)) bg .un n), .row (.ints .u8 l)] [] := by
 have hwd := words_ok l off hl hw
 have hb64 : ((l.drop off).take 64).length = 64 := by simp; omega
 have hwb : WfB ((l.drop off).take 64) := fun x hx => hw x (List.mem_of_mem_drop (List.mem_of_mem_take hx))
 have hWl := wordsS_len _ hb64
 have hWw := wordsS_low hwb
 have hWn : wordsS ((l.drop off).take 64) ≠ [] := by intro h; rw [h] at hWl; simp at hWl
 have hcs : compS v ((l.drop off).take 64) = addV v (runV v KS (wordsS ((l.drop off).take 64))) := rfl
 rw [hcs]
 clear hcs
 generalize wordsS ((l.drop off).take 64) = A at *
 refine Ct_intro Tryz.func58 rfl rfl rfl rfl rfl (fun E hn hb => ?_)
 repeat (refine nst ?_)
 refine s_call [1] hwd rfl rfl (by rw [hn]; rfl) rfl rfl (by trivial) ⟨rfl, rfl, by simp [ordL], rfl⟩ ?_
 repeat (refine nst ?_)
 refine s_call0 (constants_ok) rfl rfl rfl (by rw [hn]; rfl) rfl rfl (by exact vcs) rfl rfl rfl ?_
 repeat (refine nst ?_)
 refine s_allocAN .u32 64 rfl rfl rfl (by rw [hn]; rfl) (by kernel_rfl) ?_
 repeat (refine nst ?_)
 refine s_allocAN .u32 64 rfl rfl rfl (by rw [hn]; rfl) (by kernel_rfl) ?_
 repeat (refine nst ?_)
 refine s_storeA rfl rfl rfl rfl rfl (by exact vcs) rfl (by rw [cellsOf129]; first | rfl | assumption | omega | kernel_rfl | (simp; done) | (simp; omega) | (simp at *; omega)) (by first | rfl | assumption | omega | kernel_rfl | (simp; done) | (simp; omega) | (simp at *; omega)) (by first | assumption | (simp; done) | exact List.cons_ne_nil _ _) ?_
 refine s_storeA rfl rfl rfl rfl rfl (by exact vcs) rfl (by rw [cellsOf129]; first | rfl | assumption | omega | kernel_rfl | (simp; done) | (simp; omega) | (simp at *; omega)) (by first | rfl | assumption | omega | kernel_rfl | (simp; done) | (simp; omega) | (simp at *; omega)) (by first | assumption | (simp; done) | exact List.cons_ne_nil _ _) ?_
 repeat (refine nst ?_)
 refine s_allocN rfl rfl rfl (by rw [hn]; rfl) rfl zok107 ?_
 repeat (refine nst ?_)
 refine s_storeN rfl rfl rfl rfl rfl (by exact vcs) rfl rfl rfl (by rw [cellsOf107]; rfl) (by rw [info107]; rfl) rfl rfl ?_
 repeat (refine nst ?_)
 refine W_weaken (St.le_of (l := [(0, .c (.ptr 0 0)), (4, .c (.ptr 68 0)), (5, .c (.ptr 69 0)), (6, .c (.ptr 70 0)), (18, lv (.int .i64 0))]) (h := [(0, .cells (hC v bg .un n)), (1, .row (.ints .u8 l)), (68, .row (.ints .u32 A)), (69, .row (.ints .u32 KS)), (70, .cells (v.l.map u32C))]) (by refine ⟨?_, ?_⟩ <;> (repeat' (first | exact trivial | exact rfl | refine ⟨?_, ?_⟩)) <;> first | exact rfl | (simp; done) | skip)) ?_
 refine W_loop (ι := {p : VI // p.i ≤ 64 ∧ runV p.v (KS.drop p.i) (A.drop p.i) = runV v KS A ∧ p.v.ok}) (fun p => St.of [(0, .c (.ptr 0 0)), (4, .c (.ptr 68 0)), (5, .c (.ptr 69 0)), (6, .c (.ptr 70 0)), (18, lv (.int .i64 (p.1.i : Int)))] [(0, .cells (hC v bg .un n)), (1, .row (.ints .u8 l)), (68, .row (.ints .u32 A)), (69, .row (.ints .u32 KS)), (70, .cells (p.1.v.l.map u32C))]) (fun p => 64 - p.1.i) (fun p => ?_) ⟨⟨v, 0⟩, by simp, rfl, hv⟩
 obtain ⟨⟨u, i⟩, hi0, hru0, huo0⟩ := p
 have hi : i ≤ 64 := hi0
 have hru : runV u (KS.drop i) (A.drop i) = runV v KS A := hru0
 have huo : u.ok := huo0
 dsimp only
 clear hi0 hru0 huo0
 repeat (refine nst ?_)
 refine W_cond rfl (by simp) (fun hc => ?_) (fun hc => ?_)
 · have hi64 : i < 64 := by simp at hc; omega
   have hkd := drop_cons (l := KS) (i := i) (by rw [KS_len]; omega)
   have had := drop_cons (l := A) (i := i) (by omega)
   rw [hkd, had, runV_step] at hru
   have hk2 : KS.getD (0 + (i : Int).toNat) 0 = KS.getD i 0 := by rw [Nat.zero_add, Int.toNat_natCast]
   have ha2 : A.getD (0 + (i : Int).toNat) 0 = A.getD i 0 := by rw [Nat.zero_add, Int.toNat_natCast]
   have hgt := great_ok u.e 6 11 25 huo.2.2.2.2.1 (by omega) (by omega) (by omega)
   have hgu := great_ok u.a 2 13 22 huo.1 (by omega) (by omega) (by omega)
   have hK := KS_len
   repeat (refine nst ?_)
   refine W_drawW 28 (by kernel_rfl) (by kernel_rfl) (by kernel_rfl) (by rw [hn]; rfl) rfl rfl ?_
   repeat (first | refine dp1 ?_ | refine dg1 ?_ | refine DrawW_nil ?_)
   refine DrawW_cons rfl (ops_of (opys_call (hgt) rfl rfl rfl (by exact vcs) rfl rfl rfl) rfl) ?_
   refine DrawW_cons rfl (ops_pure false rfl rfl (by exact vcs)) ?_
   repeat (first | refine dp1 ?_ | refine dg1 ?_ | refine DrawW_nil ?_)
   refine DrawW_cons rfl (ops_pure false rfl rfl (by exact vcs)) ?_
   repeat (first | refine dp1 ?_ | refine dg1 ?_ | refine DrawW_nil ?_)
   refine DrawW_cons rfl (ops_pure false rfl rfl (by exact vcs)) ?_
   repeat (first | refine dp1 ?_ | refine dg1 ?_ | refine DrawW_nil ?_)
   refine DrawW_cons rfl (ops_pure false rfl rfl (by exact vcs)) ?_
   repeat (first | refine dp1 ?_ | refine dg1 ?_ | refine DrawW_nil ?_)
   repeat (refine nst ?_)
   refine W_drawW 22 (by kernel_rfl) (by kernel_rfl) (by kernel_rfl) (by rw [hn]; rfl) rfl rfl ?_
   repeat (first | refine dp1 ?_ | refine dg1 ?_ | refine DrawW_nil ?_)
   refine DrawW_cons rfl (ops_of (opys_call (hgu) rfl rfl rfl (by exact vcs) rfl rfl rfl) rfl) ?_
   repeat (first | refine dp1 ?_ | refine dg1 ?_ | refine DrawW_nil ?_)
   refine DrawW_cons rfl (ops_pure false rfl rfl (by exact vcs)) ?_
   repeat (first | refine dp1 ?_ | refine dg1 ?_ | refine DrawW_nil ?_)
   repeat (refine nst ?_)
   obtain ⟨T, hT⟩ : ∃ T, stepT u (KS.getD i 0) (A.getD i 0) = T := ⟨_, rfl⟩
   obtain ⟨U, hU⟩ : ∃ U, stepU u = U := ⟨_, rfl⟩
   have hst : stepV u (KS.getD i 0) (A.getD i 0) = ⟨(T + U) % 4294967296, u.a, u.b, u.c, (u.d + T) % 4294967296, u.e, u.f, u.g⟩ := by rw [← hT, ← hU]; rfl
   have eT := stepT_eq u huo (KS.getD i 0) (A.getD i 0)
   have eU := stepU_eq u huo
   rw [hT] at eT
   rw [hU] at eU
   rw [← hk2, ← ha2] at eT
   refine WL_sr (τ := St.of [(0, .c (.ptr 0 0)), (4, .c (.ptr 68 0)), (5, .c (.ptr 69 0)), (6, .c (.ptr 70 0)), (18, lv (.int .i64 (i : Int))), (69, lv (.int .u32 T)), (70, lv (.int .u32 U)), (8, lv (.int .u32 T))] [(0, .cells (hC v bg .un n)), (1, .row (.ints .u8 l)), (68, .row (.ints .u32 A)), (69, .row (.ints .u32 KS)), (70, .cells (u.l.map u32C))]) (fun a w h => h.weaken (St.le_of ⟨⟨rfl, rfl, rfl, rfl, rfl, congrArg (fun y => lv (.int .u32 y)) eT, congrArg (fun y => lv (.int .u32 y)) eU, congrArg (fun y => lv (.int .u32 y)) eT⟩, ⟨rfl, rfl, rfl, rfl, rfl⟩⟩)) ?_
   have hv2 := stepV_ok huo (KS.getD i 0) (A.getD i 0)
   rw [hst] at hru hv2
   clear hst hT hU eT eU
   refine sp false rfl rfl (by rw [hn]; rfl) (by exact vcs) ?_
   repeat (refine nst ?_)
   refine sp false rfl rfl (by rw [hn]; rfl) (by exact vcs) ?_
   repeat (refine nst ?_)
   refine WL_q (opq_of (opy_arr rfl rfl (by exact vcs)) rfl) (by rw [hn]; rfl) ?_
   refine s_storeN rfl rfl rfl rfl rfl (by exact vcs) rfl rfl rfl (by rw [cellsOf107]; rfl) (by rw [info107]; rfl) rfl rfl ?_
   repeat (refine nst ?_)
   refine N_round ⟨⟨⟨(T + U) % 4294967296, u.a, u.b, u.c, (u.d + T) % 4294967296, u.e, u.f, u.g⟩, i + 1⟩, by dsimp only; omega, hru, hv2⟩ (by dsimp only; omega) (St.le_of ⟨⟨rfl, rfl, rfl, rfl, rfl⟩, ⟨rfl, rfl, rfl, rfl, ?_⟩⟩)
   simp only [V8.l, List.map_cons, List.map_nil, ← wrapE32]
   rfl
 · have : i = 64 := by simp at hc; omega
   subst this
   rw [List.drop_of_length_le (by rw [KS_len]; omega)] at hru
   have hru2 : u = runV v KS A := by
     have : runV u [] (A.drop 64) = u := by cases A.drop 64 <;> rfl
     rw [← hru, this]
   rw [← hru2]
   repeat (refine nst ?_)
   refine W_weaken (St.le_of (l := [(0, .c (.ptr 0 0)), (6, .c (.ptr 70 0)), (90, lv (.int .i64 0))]) (h := [(0, .cells (hC v bg .un n)), (1, .row (.ints .u8 l)), (70, .cells (u.l.map u32C))]) (by refine ⟨?_, ?_⟩ <;> (repeat' (first | exact trivial | exact rfl | refine ⟨?_, ?_⟩)) <;> first | exact rfl | (simp; done) | skip)) ?_
   refine W_loop (ι := {i : Nat // i ≤ 8}) (fun i => St.of [(0, .c (.ptr 0 0)), (6, .c (.ptr 70 0)), (90, lv (.int .i64 (i.1 : Int)))] [(0, .cells (hC (addI v u i.1) bg .un n)), (1, .row (.ints .u8 l)), (70, .cells (u.l.map u32C))]) (fun i => 8 - i.1) (fun i => ?_) ⟨0, by omega⟩
   obtain ⟨i, hi⟩ := i
   dsimp only
   repeat (refine nst ?_)
   refine W_cond rfl (by simp) (fun hc => ?_) (fun hc => ?_)
   · have hi9 : i = 0 ∨ i = 1 ∨ i = 2 ∨ i = 3 ∨ i = 4 ∨ i = 5 ∨ i = 6 ∨ i = 7 := by simp at hc; omega
     clear hi hc
     rcases hi9 with rfl | rfl | rfl | rfl | rfl | rfl | rfl | rfl
     · rw [addI_0]
       repeat (refine nst ?_)
       refine W_drawX [] (by kernel_rfl) (by kernel_rfl) (by rw [hn]; rfl) ?_
       repeat (refine nsx ?_)
       refine DrawX_op rfl rfl rfl (ops_pure false rfl rfl (by exact vcs)) ?_
       repeat (refine nsx ?_)
       refine DrawX_store rfl rfl rfl rfl (by exact vcs) rfl rfl rfl (by rw [cellsOf106]; rfl) (by rw [info106]; rfl) rfl rfl ?_
       repeat (refine nsx ?_)
       repeat (refine nst ?_)
       refine N_round ⟨1, by omega⟩ (by dsimp only; omega) (St.le_of ⟨⟨rfl, rfl, rfl⟩, ⟨?_, rfl, rfl⟩⟩)
       dsimp only
       rw [addI_1]
       simp only [← wrapE32]
       rfl
     · rw [addI_1]
       repeat (refine nst ?_)
       refine W_drawX [] (by kernel_rfl) (by kernel_rfl) (by rw [hn]; rfl) ?_
       repeat (refine nsx ?_)
       refine DrawX_op rfl rfl rfl (ops_pure false rfl rfl (by exact vcs)) ?_
       repeat (refine nsx ?_)
       refine DrawX_store rfl rfl rfl rfl (by exact vcs) rfl rfl rfl (by rw [cellsOf106]; rfl) (by rw [info106]; rfl) rfl rfl ?_
       repeat (refine nsx ?_)
       repeat (refine nst ?_)
       refine N_round ⟨2, by omega⟩ (by dsimp only; omega) (St.le_of ⟨⟨rfl, rfl, rfl⟩, ⟨?_, rfl, rfl⟩⟩)
       dsimp only
       rw [addI_2]
       simp only [← wrapE32]
       rfl
     · rw [addI_2]
       repeat (refine nst ?_)
       refine W_drawX [] (by kernel_rfl) (by kernel_rfl) (by rw [hn]; rfl) ?_
       repeat (refine nsx ?_)
       refine DrawX_op rfl rfl rfl (ops_pure false rfl rfl (by exact vcs)) ?_
       repeat (refine nsx ?_)
       refine DrawX_store rfl rfl rfl rfl (by exact vcs) rfl rfl rfl (by rw [cellsOf106]; rfl) (by rw [info106]; rfl) rfl rfl ?_
       repeat (refine nsx ?_)
       repeat (refine nst ?_)
       refine N_round ⟨3, by omega⟩ (by dsimp only; omega) (St.le_of ⟨⟨rfl, rfl, rfl⟩, ⟨?_, rfl, rfl⟩⟩)
       dsimp only
       rw [addI_3]
       simp only [← wrapE32]
       rfl
     · rw [addI_3]
       repeat (refine nst ?_)
       refine W_drawX [] (by kernel_rfl) (by kernel_rfl) (by rw [hn]; rfl) ?_
       repeat (refine nsx ?_)
       refine DrawX_op rfl rfl rfl (ops_pure false rfl rfl (by exact vcs)) ?_
       repeat (refine nsx ?_)
       refine DrawX_store rfl rfl rfl rfl (by exact vcs) rfl rfl rfl (by rw [cellsOf106]; rfl) (by rw [info106]; rfl) rfl rfl ?_
       repeat (refine nsx ?_)
       repeat (refine nst ?_)
       refine N_round ⟨4, by omega⟩ (by dsimp only; omega) (St.le_of ⟨⟨rfl, rfl, rfl⟩, ⟨?_, rfl, rfl⟩⟩)
       dsimp only
       rw [addI_4]
       simp only [← wrapE32]
       rfl
     · rw [addI_4]
       repeat (refine nst ?_)
       refine W_drawX [] (by kernel_rfl) (by kernel_rfl) (by rw [hn]; rfl) ?_
       repeat (refine nsx ?_)
       refine DrawX_op rfl rfl rfl (ops_pure false rfl rfl (by exact vcs)) ?_
       repeat (refine nsx ?_)
       refine DrawX_store rfl rfl rfl rfl (by exact vcs) rfl rfl rfl (by rw [cellsOf106]; rfl) (by rw [info106]; rfl) rfl rfl ?_
       repeat (refine nsx ?_)
       repeat (refine nst ?_)
       refine N_round ⟨5, by omega⟩ (by dsimp only; omega) (St.le_of ⟨⟨rfl, rfl, rfl⟩, ⟨?_, rfl, rfl⟩⟩)
       dsimp only
       rw [addI_5]
       simp only [← wrapE32]
       rfl
     · rw [addI_5]
       repeat (refine nst ?_)
       refine W_drawX [] (by kernel_rfl) (by kernel_rfl) (by rw [hn]; rfl) ?_
       repeat (refine nsx ?_)
       refine DrawX_op rfl rfl rfl (ops_pure false rfl rfl (by exact vcs)) ?_
       repeat (refine nsx ?_)
       refine DrawX_store rfl rfl rfl rfl (by exact vcs) rfl rfl rfl (by rw [cellsOf106]; rfl) (by rw [info106]; rfl) rfl rfl ?_
       repeat (refine nsx ?_)
       repeat (refine nst ?_)
       refine N_round ⟨6, by omega⟩ (by dsimp only; omega) (St.le_of ⟨⟨rfl, rfl, rfl⟩, ⟨?_, rfl, rfl⟩⟩)
       dsimp only
       rw [addI_6]
       simp only [← wrapE32]
       rfl
     · rw [addI_6]
       repeat (refine nst ?_)
       refine W_drawX [] (by kernel_rfl) (by kernel_rfl) (by rw [hn]; rfl) ?_
       repeat (refine nsx ?_)
       refine DrawX_op rfl rfl rfl (ops_pure false rfl rfl (by exact vcs)) ?_
       repeat (refine nsx ?_)
       refine DrawX_store rfl rfl rfl rfl (by exact vcs) rfl rfl rfl (by rw [cellsOf106]; rfl) (by rw [info106]; rfl) rfl rfl ?_
       repeat (refine nsx ?_)
       repeat (refine nst ?_)
       refine N_round ⟨7, by omega⟩ (by dsimp only; omega) (St.le_of ⟨⟨rfl, rfl, rfl⟩, ⟨?_, rfl, rfl⟩⟩)
       dsimp only
       rw [addI_7]
       simp only [← wrapE32]
       rfl
     · rw [addI_7]
       repeat (refine nst ?_)
       refine W_drawX [] (by kernel_rfl) (by kernel_rfl) (by rw [hn]; rfl) ?_
       repeat (refine nsx ?_)
       refine DrawX_op rfl rfl rfl (ops_pure false rfl rfl (by exact vcs)) ?_
       repeat (refine nsx ?_)
       refine DrawX_store rfl rfl rfl rfl (by exact vcs) rfl rfl rfl (by rw [cellsOf106]; rfl) (by rw [info106]; rfl) rfl rfl ?_
       repeat (refine nsx ?_)
       repeat (refine nst ?_)
       refine N_round ⟨8, by omega⟩ (by dsimp only; omega) (St.le_of ⟨⟨rfl, rfl, rfl⟩, ⟨?_, rfl, rfl⟩⟩)
       dsimp only
       rw [addI_8]
       simp only [← wrapE32]
       rfl
   · have : i = 8 := by simp at hc; omega
     subst this
     rw [addI_8]
     repeat (refine nst ?_)
     refine rt2 [] ?_ ?_
     · rfl
     · trivial
theorem bytes_get (v : V8) : ∀ i : Nat, i < 32 → v.bytes[i]? = some ((match i / 4 with | 0 => v.a | 1 => v.b | 2 => v.c | 3 => v.d | 4 => v.e | 5 => v.f | 6 => v.g | _ => v.h) / 2 ^ (24 - 8 * (i % 4)) % 256)
 | 0, _ => rfl
 | 1, _ => rfl
 | 2, _ => rfl
 | 3, _ => by
   show some (v.a % 256) = some (v.a / 1 % 256)
   rw [Int.ediv_one]
 | 4, _ => rfl
 | 5, _ => rfl
 | 6, _ => rfl
 | 7, _ => by
   show some (v.b % 256) = some (v.b / 1 % 256)
   rw [Int.ediv_one]
 | 8, _ => rfl
 | 9, _ => rfl
 | 10, _ => rfl
 | 11, _ => by
   show some (v.c % 256) = some (v.c / 1 % 256)
   rw [Int.ediv_one]
 | 12, _ => rfl
 | 13, _ => rfl
 | 14, _ => rfl
 | 15, _ => by
   show some (v.d % 256) = some (v.d / 1 % 256)
   rw [Int.ediv_one]
 | 16, _ => rfl
 | 17, _ => rfl
 | 18, _ => rfl
 | 19, _ => by
   show some (v.e % 256) = some (v.e / 1 % 256)
   rw [Int.ediv_one]
 | 20, _ => rfl
 | 21, _ => rfl
 | 22, _ => rfl
 | 23, _ => by
   show some (v.f % 256) = some (v.f / 1 % 256)
   rw [Int.ediv_one]
 | 24, _ => rfl
 | 25, _ => rfl
 | 26, _ => rfl
 | 27, _ => by
   show some (v.g % 256) = some (v.g / 1 % 256)
   rw [Int.ediv_one]
 | 28, _ => rfl
 | 29, _ => rfl
 | 30, _ => rfl
 | 31, _ => by
   show some (v.h % 256) = some (v.h / 1 % 256)
   rw [Int.ediv_one]
 | n + 32, h => by omega
set_option maxHeartbeats 4000000 in
theorem bytes_ok (v : V8) (bg : Bool) (n : Int) : Ct Tryz.prog 60 [.c (.ptr 0 0)] [.cells (hC v bg .un n)] (.ai .u8 v.bytes) [.cells (hC v bg .un n)] [] := by
 have hbl : v.bytes.length = 32 := rfl
 have hbg := bytes_get v
 have hbn : v.bytes ≠ [] := by intro h; rw [h] at hbl; simp at hbl
 obtain ⟨B, hB⟩ : ∃ B, v.bytes = B := ⟨_, rfl⟩
 rw [hB] at hbl hbg hbn ⊢
 refine Ct_intro Tryz.func60 rfl rfl rfl rfl rfl (fun E hn hb => ?_)
 repeat (refine nst ?_)
 refine s_allocAN .u8 32 rfl rfl rfl (by rw [hn]; rfl) (by kernel_rfl) ?_
 repeat (refine nst ?_)
 refine s_allocAN .u8 32 rfl rfl rfl (by rw [hn]; rfl) (by kernel_rfl) ?_
 repeat (refine nst ?_)
 have e0 : List.replicate 32 (0 : Int) = fillUp B 0 := by rw [fillUp_zero, hbl]
 have hZl : (fillUp B 0).length = 32 := by rw [fillUp_length, hbl]
 refine W_weaken (St.le_of (l := [(0, .c (.ptr 0 0)), (2, .c (.ptr 66 0)), (3, .c (.ptr 67 0)), (5, lv (.int .i64 0))]) (h := [(0, .cells (hC v bg .un n)), (66, .row (.ints .u8 (List.replicate 32 0))), (67, .row (.ints .u8 (List.replicate 32 0)))]) (by refine ⟨?_, ?_⟩ <;> (repeat' (first | exact trivial | exact rfl | refine ⟨?_, ?_⟩)) <;> first | exact rfl | (simp; done) | skip)) ?_
 rw [e0]
 refine W_loop (ι := {i : Nat // i ≤ 32}) (fun i => St.of [(0, .c (.ptr 0 0)), (2, .c (.ptr 66 0)), (3, .c (.ptr 67 0)), (5, lv (.int .i64 (i.1 : Int)))] [(0, .cells (hC v bg .un n)), (66, .row (.ints .u8 (fillUp B 0))), (67, .row (.ints .u8 (fillUp B i.1)))]) (fun i => 32 - i.1) (fun i => ?_) ⟨0, by omega⟩
 obtain ⟨i, hi⟩ := i
 dsimp only
 repeat (refine nst ?_)
 refine W_cond rfl (by simp) (fun hc => ?_) (fun hc => ?_)
 · have hi32 : i < 32 := by simp at hc; omega
   have hfl : (fillUp B i).length = 32 := by rw [fillUp_length, hbl]
   have hx := hbg i hi32
   have hset : ∀ (y : Int) (z : Int), B[i]? = some (y / 2 ^ (24 - 8 * (i % 4)) % 256) → (fillUp B i).set (0 + (i : Int).toNat) (IntKind.u8.wrap (y / 2 ^ min (24 - 8 * ((i : Int) % 4)).toNat 32)) = fillUp B (i + 1) := by
     intro y z hy
     have e : min (24 - 8 * ((i : Int) % 4)).toNat 32 = 24 - 8 * (i % 4) := by omega
     rw [e, wrapE8, Nat.zero_add, Int.toNat_natCast]
     exact fillUp_set B i _ hy
   have h8 : i / 4 = 0 ∨ i / 4 = 1 ∨ i / 4 = 2 ∨ i / 4 = 3 ∨ i / 4 = 4 ∨ i / 4 = 5 ∨ i / 4 = 6 ∨ i / 4 = 7 := by omega
   rcases h8 with h | h | h | h | h | h | h | h
   · have hq : (i : Int) / 4 = 0 := by omega
     have hqn : i / 4 = 0 := h
     rw [hqn] at hx
     repeat (refine nst ?_)
     rw [hq]
     repeat (refine nst ?_)
     refine sp false rfl rfl (by rw [hn]; rfl) (by exact vcs) ?_
     repeat (refine nst ?_)
     refine s_storeI rfl rfl rfl rfl rfl (by exact vcs) rfl (by rw [cellsOf5]) (by first | (simp; done) | (simp; omega) | (simp at *; omega)) ?_
     repeat (refine nst ?_)
     refine N_round ⟨i + 1, by omega⟩ (by dsimp only; omega) (St.le_of ⟨⟨rfl, rfl, rfl, rfl⟩, ⟨rfl, rfl, ?_⟩⟩)
     exact congrArg (fun l => Blk.row (.ints .u8 l)) (hset _ 0 hx)
   · have hq : (i : Int) / 4 = 1 := by omega
     have hqn : i / 4 = 1 := h
     rw [hqn] at hx
     repeat (refine nst ?_)
     rw [hq]
     repeat (refine nst ?_)
     refine sp false rfl rfl (by rw [hn]; rfl) (by exact vcs) ?_
     repeat (refine nst ?_)
     refine s_storeI rfl rfl rfl rfl rfl (by exact vcs) rfl (by rw [cellsOf5]) (by first | (simp; done) | (simp; omega) | (simp at *; omega)) ?_
     repeat (refine nst ?_)
     refine N_round ⟨i + 1, by omega⟩ (by dsimp only; omega) (St.le_of ⟨⟨rfl, rfl, rfl, rfl⟩, ⟨rfl, rfl, ?_⟩⟩)
     exact congrArg (fun l => Blk.row (.ints .u8 l)) (hset _ 0 hx)
   · have hq : (i : Int) / 4 = 2 := by omega
     have hqn : i / 4 = 2 := h
     rw [hqn] at hx
     repeat (refine nst ?_)
     rw [hq]
     repeat (refine nst ?_)
     refine sp false rfl rfl (by rw [hn]; rfl) (by exact vcs) ?_
     repeat (refine nst ?_)
     refine s_storeI rfl rfl rfl rfl rfl (by exact vcs) rfl (by rw [cellsOf5]) (by first | (simp; done) | (simp; omega) | (simp at *; omega)) ?_
     repeat (refine nst ?_)
     refine N_round ⟨i + 1, by omega⟩ (by dsimp only; omega) (St.le_of ⟨⟨rfl, rfl, rfl, rfl⟩, ⟨rfl, rfl, ?_⟩⟩)
     exact congrArg (fun l => Blk.row (.ints .u8 l)) (hset _ 0 hx)
   · have hq : (i : Int) / 4 = 3 := by omega
     have hqn : i / 4 = 3 := h
     rw [hqn] at hx
     repeat (refine nst ?_)
     rw [hq]
     repeat (refine nst ?_)
     refine sp false rfl rfl (by rw [hn]; rfl) (by exact vcs) ?_
     repeat (refine nst ?_)
     refine s_storeI rfl rfl rfl rfl rfl (by exact vcs) rfl (by rw [cellsOf5]) (by first | (simp; done) | (simp; omega) | (simp at *; omega)) ?_
     repeat (refine nst ?_)
     refine N_round ⟨i + 1, by omega⟩ (by dsimp only; omega) (St.le_of ⟨⟨rfl, rfl, rfl, rfl⟩, ⟨rfl, rfl, ?_⟩⟩)
     exact congrArg (fun l => Blk.row (.ints .u8 l)) (hset _ 0 hx)
   · have hq : (i : Int) / 4 = 4 := by omega
     have hqn : i / 4 = 4 := h
     rw [hqn] at hx
     repeat (refine nst ?_)
     rw [hq]
     repeat (refine nst ?_)
     refine sp false rfl rfl (by rw [hn]; rfl) (by exact vcs) ?_
     repeat (refine nst ?_)
     refine s_storeI rfl rfl rfl rfl rfl (by exact vcs) rfl (by rw [cellsOf5]) (by first | (simp; done) | (simp; omega) | (simp at *; omega)) ?_
     repeat (refine nst ?_)
     refine N_round ⟨i + 1, by omega⟩ (by dsimp only; omega) (St.le_of ⟨⟨rfl, rfl, rfl, rfl⟩, ⟨rfl, rfl, ?_⟩⟩)
     exact congrArg (fun l => Blk.row (.ints .u8 l)) (hset _ 0 hx)
   · have hq : (i : Int) / 4 = 5 := by omega
     have hqn : i / 4 = 5 := h
     rw [hqn] at hx
     repeat (refine nst ?_)
     rw [hq]
     repeat (refine nst ?_)
     refine sp false rfl rfl (by rw [hn]; rfl) (by exact vcs) ?_
     repeat (refine nst ?_)
     refine s_storeI rfl rfl rfl rfl rfl (by exact vcs) rfl (by rw [cellsOf5]) (by first | (simp; done) | (simp; omega) | (simp at *; omega)) ?_
     repeat (refine nst ?_)
     refine N_round ⟨i + 1, by omega⟩ (by dsimp only; omega) (St.le_of ⟨⟨rfl, rfl, rfl, rfl⟩, ⟨rfl, rfl, ?_⟩⟩)
     exact congrArg (fun l => Blk.row (.ints .u8 l)) (hset _ 0 hx)
   · have hq : (i : Int) / 4 = 6 := by omega
     have hqn : i / 4 = 6 := h
     rw [hqn] at hx
     repeat (refine nst ?_)
     rw [hq]
     repeat (refine nst ?_)
     refine sp false rfl rfl (by rw [hn]; rfl) (by exact vcs) ?_
     repeat (refine nst ?_)
     refine s_storeI rfl rfl rfl rfl rfl (by exact vcs) rfl (by rw [cellsOf5]) (by first | (simp; done) | (simp; omega) | (simp at *; omega)) ?_
     repeat (refine nst ?_)
     refine N_round ⟨i + 1, by omega⟩ (by dsimp only; omega) (St.le_of ⟨⟨rfl, rfl, rfl, rfl⟩, ⟨rfl, rfl, ?_⟩⟩)
     exact congrArg (fun l => Blk.row (.ints .u8 l)) (hset _ 0 hx)
   · have hq : (i : Int) / 4 = 7 := by omega
     have hqn : i / 4 = 7 := h
     rw [hqn] at hx
     repeat (refine nst ?_)
     rw [hq]
     repeat (refine nst ?_)
     refine sp false rfl rfl (by rw [hn]; rfl) (by exact vcs) ?_
     repeat (refine nst ?_)
     refine s_storeI rfl rfl rfl rfl rfl (by exact vcs) rfl (by rw [cellsOf5]) (by first | (simp; done) | (simp; omega) | (simp at *; omega)) ?_
     repeat (refine nst ?_)
     refine N_round ⟨i + 1, by omega⟩ (by dsimp only; omega) (St.le_of ⟨⟨rfl, rfl, rfl, rfl⟩, ⟨rfl, rfl, ?_⟩⟩)
     exact congrArg (fun l => Blk.row (.ints .u8 l)) (hset _ 0 hx)
 · have : i = 32 := by simp at hc; omega
   subst this
   have hfa : fillUp B 32 = B := by
     have := fillUp_all B
     rwa [hbl] at this
   rw [hfa]
   repeat (refine nst ?_)
   refine sp true rfl rfl (by rw [hn]; rfl) ?_ ?_
   · exact ⟨rfl, by rw [cellsOf43]; omega, hbn⟩
   refine s_storeA rfl rfl rfl rfl rfl (by exact vcs) rfl (by rw [cellsOf43]; first | rfl | assumption | omega | kernel_rfl | (simp; done) | (simp; omega) | (simp at *; omega)) (by first | rfl | assumption | omega | kernel_rfl | (simp; done) | (simp; omega) | (simp at *; omega)) (by first | assumption | (simp; done) | exact List.cons_ne_nil _ _) ?_
   repeat (refine nst ?_)
   exact N_retN [] rfl (⟨rfl, by rw [cellsOf43]; omega, hbn⟩) ⟨rfl, by first | trivial | exact ⟨rfl, rfl⟩, by first | trivial | exact rfl | exact ⟨rfl, rfl⟩, rfl⟩ hb rfl (by first | trivial | (simp; done) | (simp [ordL]; done))
end Go.Proofs.YtohfhephkjihfaaGreat

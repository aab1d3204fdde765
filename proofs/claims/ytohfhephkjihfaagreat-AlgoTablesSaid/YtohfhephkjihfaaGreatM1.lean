/-
  Chapter 12, its words: what the hash's smaller functions return. The conditions: words are below 2^32, they are turned by 1 to 31.
-/
import Derived.Test.YtohfhephkjihfaaGreatW16
namespace Go.Proofs.YtohfhephkjihfaaGreat
set_option linter.unusedSimpArgs false
set_option linter.unusedVariables false
open Go.Sx
set_option maxRecDepth 10000
def xI (a b : Int) : Int := ((a.toNat ^^^ b.toNat : Nat) : Int)
def aI (a b : Int) : Int := ((a.toNat &&& b.toNat : Nat) : Int)
def rR (x : Int) (n : Nat) : Int := x / 2 ^ n + x % 2 ^ n * 2 ^ (32 - n)
def smallS (x : Int) (a b c : Nat) : Int := xI (xI (rR x a) (rR x b)) (x / 2 ^ c)
def greatS (x : Int) (a b c : Nat) : Int := xI (xI (rR x a) (rR x b)) (rR x c)
def W32 (x : Int) : Prop := 0 ≤ x ∧ x < 4294967296
structure V8 where
 a : Int
 b : Int
 c : Int
 d : Int
 e : Int
 f : Int
 g : Int
 h : Int
def V8.l (v : V8) : List Int := [v.a, v.b, v.c, v.d, v.e, v.f, v.g, v.h]
def V8.ok (v : V8) : Prop := W32 v.a ∧ W32 v.b ∧ W32 v.c ∧ W32 v.d ∧ W32 v.e ∧ W32 v.f ∧ W32 v.g ∧ W32 v.h
def stepT (v : V8) (k w : Int) : Int := (v.h + greatS v.e 6 11 25 + xI (aI v.e v.f) (aI (4294967295 - v.e) v.g) + k + w) % 4294967296
def stepU (v : V8) : Int := (greatS v.a 2 13 22 + xI (xI (aI v.a v.b) (aI v.a v.c)) (aI v.b v.c)) % 4294967296
def stepV (v : V8) (k w : Int) : V8 := ⟨(stepT v k w + stepU v) % 4294967296, v.a, v.b, v.c, (v.d + stepT v k w) % 4294967296, v.e, v.f, v.g⟩
def runV (v : V8) : List Int → List Int → V8
 | k :: ks, w :: ws => runV (stepV v k w) ks ws
 | _, _ => v
def addV (v u : V8) : V8 := ⟨(v.a + u.a) % 4294967296, (v.b + u.b) % 4294967296, (v.c + u.c) % 4294967296, (v.d + u.d) % 4294967296, (v.e + u.e) % 4294967296, (v.f + u.f) % 4294967296, (v.g + u.g) % 4294967296, (v.h + u.h) % 4294967296⟩
def newW (l : List Int) : Int := (smallS (l.getD (l.length - 2) 0) 17 19 10 + l.getD (l.length - 7) 0 + smallS (l.getD (l.length - 15) 0) 7 18 3 + l.getD (l.length - 16) 0) % 4294967296
def extW : Nat → List Int → List Int
 | 0, l => l
 | n + 1, l => extW n (l ++ [newW l])
def wordsB : List Int → List Int
 | a :: b :: c :: d :: l => (a * 16777216 + b * 65536 + c * 256 + d) :: wordsB l
 | _ => []
def wordsS (b : List Int) : List Int := extW 48 (wordsB b)
def KS : List Int := [
 0x428a2f98, 0x71374491, 0xb5c0fbcf, 0xe9b5dba5, 0x3956c25b, 0x59f111f1, 0x923f82a4, 0xab1c5ed5,
 0xd807aa98, 0x12835b01, 0x243185be, 0x550c7dc3, 0x72be5d74, 0x80deb1fe, 0x9bdc06a7, 0xc19bf174,
 0xe49b69c1, 0xefbe4786, 0x0fc19dc6, 0x240ca1cc, 0x2de92c6f, 0x4a7484aa, 0x5cb0a9dc, 0x76f988da,
 0x983e5152, 0xa831c66d, 0xb00327c8, 0xbf597fc7, 0xc6e00bf3, 0xd5a79147, 0x06ca6351, 0x14292967,
 0x27b70a85, 0x2e1b2138, 0x4d2c6dfc, 0x53380d13, 0x650a7354, 0x766a0abb, 0x81c2c92e, 0x92722c85,
 0xa2bfe8a1, 0xa81a664b, 0xc24b8b70, 0xc76c51a3, 0xd192e819, 0xd6990624, 0xf40e3585, 0x106aa070,
 0x19a4c116, 0x1e376c08, 0x2748774c, 0x34b0bcb5, 0x391c0cb3, 0x4ed8aa4a, 0x5b9cca4f, 0x682e6ff3,
 0x748f82ee, 0x78a5636f, 0x84c87814, 0x8cc70208, 0x90befffa, 0xa4506ceb, 0xbef9a3f7, 0xc67178f2]
def H0 : V8 := ⟨0x6a09e667, 0xbb67ae85, 0x3c6ef372, 0xa54ff53a, 0x510e527f, 0x9b05688c, 0x1f83d9ab, 0x5be0cd19⟩
def compS (H : V8) (b : List Int) : V8 := addV H (runV H KS (wordsS b))
def blocksF : Nat → V8 → List Int → V8
 | 0, H, _ => H
 | n + 1, H, l => if l.length < 64 then H else blocksF n (compS H (l.take 64)) (l.drop 64)
def blocksS (H : V8) (l : List Int) : V8 := blocksF (l.length / 64) H l
def wordBytes (x : Int) : List Int := [x / 16777216 % 256, x / 65536 % 256, x / 256 % 256, x % 256]
def V8.bytes (v : V8) : List Int := v.l.flatMap wordBytes
def lenBytes (n : Nat) : List Int := [0, 1, 2, 3, 4, 5, 6, 7].map fun i => ((8 * n : Nat) : Int) % 18446744073709551616 / 2 ^ (56 - 8 * i) % 256
def padS (n : Nat) : List Int := 128 :: (List.replicate ((119 - n % 64) % 64) 0 ++ lenBytes n)
def digS (m : List Int) : List Int := (blocksS H0 (m ++ padS m.length)).bytes
theorem w32_nat {x : Int} (h : W32 x) : ∃ n : Nat, x = n ∧ n < 4294967296 := ⟨x.toNat, by unfold W32 at h; omega, by unfold W32 at h; omega⟩
theorem bv32 (n : Nat) (h : n < 4294967296) : (BitVec.ofInt IntKind.u32.bits (n : Int)).toNat = n := by
 have : (BitVec.ofInt 32 (n : Int)).toNat = n := by
   rw [BitVec.ofInt_natCast, BitVec.toNat_ofNat]
   exact Nat.mod_eq_of_lt h
 exact this
theorem wrap32 (n : Nat) (h : n < 4294967296) : IntKind.u32.wrap (n : Int) = n := by rw [wrap_u32]; omega
theorem xor32 {a b : Int} (ha : W32 a) (hb : W32 b) : IntKind.u32.wrap (BitVec.ofInt IntKind.u32.bits a ^^^ BitVec.ofInt IntKind.u32.bits b).toNat = xI a b := by
 obtain ⟨m, rfl, hm⟩ := w32_nat ha
 obtain ⟨n, rfl, hn⟩ := w32_nat hb
 have h2 : m ^^^ n < 2 ^ 32 := Nat.xor_lt_two_pow (by omega) (by omega)
 rw [BitVec.toNat_xor, bv32 m hm, bv32 n hn, wrap32 _ (by omega)]
 rfl
theorem and32 {a b : Int} (ha : W32 a) (hb : W32 b) : IntKind.u32.wrap (BitVec.ofInt IntKind.u32.bits a &&& BitVec.ofInt IntKind.u32.bits b).toNat = aI a b := by
 obtain ⟨m, rfl, hm⟩ := w32_nat ha
 obtain ⟨n, rfl, hn⟩ := w32_nat hb
 have h2 : m &&& n ≤ m := Nat.and_le_left
 rw [BitVec.toNat_and, bv32 m hm, bv32 n hn, wrap32 _ (by omega)]
 rfl
theorem not32 {a : Int} (ha : W32 a) : IntKind.u32.wrap (BitVec.ofInt IntKind.u32.bits (if IntKind.u32.signed then -1 else IntKind.u32.max) ^^^ BitVec.ofInt IntKind.u32.bits a).toNat = 4294967295 - a := by
 obtain ⟨m, rfl, hm⟩ := w32_nat ha
 have e : (BitVec.ofInt IntKind.u32.bits (if IntKind.u32.signed then -1 else IntKind.u32.max) ^^^ BitVec.ofInt IntKind.u32.bits (m : Int)) = ~~~(BitVec.ofInt 32 (m : Int)) := by
   have : BitVec.ofInt IntKind.u32.bits (if IntKind.u32.signed then -1 else IntKind.u32.max) = BitVec.allOnes 32 := rfl
   rw [this]
   exact BitVec.allOnes_xor
 have e2 : (~~~(BitVec.ofInt 32 (m : Int))).toNat = 4294967295 - m := by
   rw [BitVec.toNat_not, show (BitVec.ofInt 32 (m : Int)).toNat = m from bv32 m hm]
 have e3 : ((BitVec.ofInt IntKind.u32.bits (if IntKind.u32.signed then -1 else IntKind.u32.max) ^^^ BitVec.ofInt IntKind.u32.bits (m : Int)).toNat : Int) = 4294967295 - (m : Int) := by
   rw [congrArg BitVec.toNat e]
   exact (congrArg (fun n : Nat => (n : Int)) e2).trans (by omega)
 rw [e3]
 rw [wrap_u32]
 omega
theorem or32 {a b : Int} (ha : W32 a) (hb : W32 b) : IntKind.u32.wrap (BitVec.ofInt IntKind.u32.bits a ||| BitVec.ofInt IntKind.u32.bits b).toNat = ((a.toNat ||| b.toNat : Nat) : Int) := by
 obtain ⟨m, rfl, hm⟩ := w32_nat ha
 obtain ⟨n, rfl, hn⟩ := w32_nat hb
 have h2 : m ||| n < 2 ^ 32 := Nat.or_lt_two_pow (by omega) (by omega)
 rw [BitVec.toNat_or, bv32 m hm, bv32 n hn, wrap32 _ (by omega)]
 rfl
theorem xI_low {a b : Int} (ha : W32 a) (hb : W32 b) : W32 (xI a b) := by
 obtain ⟨m, rfl, hm⟩ := w32_nat ha
 obtain ⟨n, rfl, hn⟩ := w32_nat hb
 have h2 : m ^^^ n < 2 ^ 32 := Nat.xor_lt_two_pow (by omega) (by omega)
 simp only [xI, W32, Int.toNat_natCast]
 omega
theorem aI_low {a b : Int} (ha : W32 a) (hb : W32 b) : W32 (aI a b) := by
 obtain ⟨m, rfl, hm⟩ := w32_nat ha
 obtain ⟨n, rfl, hn⟩ := w32_nat hb
 have h2 : m &&& n ≤ m := Nat.and_le_left
 simp only [aI, W32, Int.toNat_natCast]
 omega
theorem div_low {x : Int} (h : W32 x) (n : Nat) : W32 (x / 2 ^ n) := by
 obtain ⟨m, rfl, hm⟩ := w32_nat h
 have e : ((m : Int) / 2 ^ n) = ((m / 2 ^ n : Nat) : Int) := by simp
 have := Nat.div_le_self m (2 ^ n)
 rw [e]
 generalize m / 2 ^ n = q at *
 unfold W32
 omega
theorem rot_split (m n : Nat) (hm : m < 4294967296) (h1 : n ≤ 32) : (m * 2 ^ (32 - n)) % 4294967296 = m % 2 ^ n * 2 ^ (32 - n) ∧ m / 2 ^ n < 2 ^ (32 - n) ∧ m % 2 ^ n < 2 ^ n := by
 have e : 4294967296 = 2 ^ n * 2 ^ (32 - n) := by rw [← Nat.pow_add, show n + (32 - n) = 32 by omega]
 refine ⟨?_, ?_, Nat.mod_lt _ (Nat.pow_pos (by decide))⟩
 · rw [e, Nat.mul_mod_mul_right]
 · rw [Nat.div_lt_iff_lt_mul (Nat.pow_pos (by decide)), Nat.mul_comm, ← e]; exact hm
theorem rR_nat (m n : Nat) : rR (m : Int) n = ((m / 2 ^ n + m % 2 ^ n * 2 ^ (32 - n) : Nat) : Int) := by
 simp [rR]
theorem rR_low {x : Int} (h : W32 x) {n : Nat} (hn : n ≤ 32) : W32 (rR x n) := by
 obtain ⟨m, rfl, hm⟩ := w32_nat h
 obtain ⟨h1, h2, h3⟩ := rot_split m n hm hn
 rw [rR_nat]
 have : (m % 2 ^ n + 1) * 2 ^ (32 - n) ≤ 2 ^ n * 2 ^ (32 - n) := Nat.mul_le_mul_right _ h3
 have e : 4294967296 = 2 ^ n * 2 ^ (32 - n) := by rw [← Nat.pow_add, show n + (32 - n) = 32 by omega]
 rw [← e, Nat.add_mul, Nat.one_mul] at this
 generalize m / 2 ^ n = q at *
 generalize m % 2 ^ n * 2 ^ (32 - n) = u at *
 generalize 2 ^ (32 - n) = v at *
 unfold W32
 omega
theorem rot_or (m n : Nat) (hm : m < 4294967296) (hn : n ≤ 32) : ((m * 2 ^ (32 - n)) % 4294967296 ||| m / 2 ^ n : Nat) = m / 2 ^ n + m % 2 ^ n * 2 ^ (32 - n) := by
 obtain ⟨h1, h2, h3⟩ := rot_split m n hm hn
 rw [h1, Nat.mul_comm (m % 2 ^ n), ← Nat.two_pow_add_eq_or_of_lt h2, Nat.add_comm]
theorem small_low {x : Int} (h : W32 x) {a b c : Nat} (ha : a ≤ 32) (hb : b ≤ 32) : W32 (smallS x a b c) := xI_low (xI_low (rR_low h ha) (rR_low h hb)) (div_low h c)
theorem great_low {x : Int} (h : W32 x) {a b c : Nat} (ha : a ≤ 32) (hb : b ≤ 32) (hc : c ≤ 32) : W32 (greatS x a b c) := xI_low (xI_low (rR_low h ha) (rR_low h hb)) (rR_low h hc)
theorem mod_low (x : Int) : W32 (x % 4294967296) := by unfold W32; omega
theorem wrapE32 (x : Int) : IntKind.u32.wrap x = x % 4294967296 := by simp [IntKind.wrap, IntKind.signed, IntKind.bits]
theorem rot_ok (x : Int) (n : Nat) (hx : W32 x) (h1 : 1 ≤ n) (h2 : n ≤ 31) : Ct Tryz.prog 99 [lv (.int .u32 x), lv (.int .i64 (-(n : Int)))] [] (lv (.int .u32 (rR x n))) [] [] := by
 have e1 : IntKind.u64.wrap (-(n : Int)) = 18446744073709551616 - n := by
   simp only [IntKind.wrap, IntKind.signed, IntKind.bits]
   simp
   omega
 have e2 : IntKind.u64.wrap (BitVec.ofInt IntKind.u64.bits (18446744073709551616 - (n : Int)) &&& BitVec.ofInt IntKind.u64.bits 31).toNat = 32 - n := by
   have key : ∀ k : Fin 31, IntKind.u64.wrap (BitVec.ofInt IntKind.u64.bits (18446744073709551616 - ((k.val + 1 : Nat) : Int)) &&& BitVec.ofInt IntKind.u64.bits 31).toNat = 32 - ((k.val + 1 : Nat) : Int) := by decide
   have := key ⟨n - 1, by omega⟩
   rwa [show n - 1 + 1 = n by omega] at this
 obtain ⟨m, rfl, hm⟩ := w32_nat hx
 refine Ct_intro Tryz.func99 rfl rfl rfl rfl rfl (fun E hn hb => ?_)
 repeat (refine nst ?_)
 refine sp false rfl rfl (by rw [hn]; rfl) (by exact vcs) ?_
 rw [e1]
 repeat (refine nst ?_)
 rw [e2]
 repeat (refine nst ?_)
 refine sp false rfl rfl (by rw [hn]; rfl) (by exact vcs) ?_
 repeat (refine nst ?_)
 have e3 : (32 - (32 - (n : Int))).toNat = n := by omega
 have e4 : (32 - (n : Int)).toNat = 32 - n := by omega
 have e5 : min (32 - n) 32 = 32 - n := by omega
 have e6 : min n 32 = n := by omega
 have e7 : ((m : Int) * 2 ^ (32 - n)) % 4294967296 = ((m * 2 ^ (32 - n) % 4294967296 : Nat) : Int) := by simp
 have e8 : ((m : Int) / 2 ^ n) = ((m / 2 ^ n : Nat) : Int) := by simp
 have hl1 : W32 ((m * 2 ^ (32 - n) % 4294967296 : Nat) : Int) := by unfold W32; omega
 have hl2 : W32 ((m / 2 ^ n : Nat) : Int) := by have := div_low hx n; rwa [e8] at this
 refine rt2 [] ?_ ?_
 · refine congrArg (fun y => lv (.int .u32 y)) ?_
   show IntKind.u32.wrap (BitVec.ofInt IntKind.u32.bits (IntKind.u32.wrap ((m : Int) * 2 ^ min (32 - (n : Int)).toNat 32)) ||| BitVec.ofInt IntKind.u32.bits ((m : Int) / 2 ^ min (32 - (32 - (n : Int))).toNat 32)).toNat = _
   rw [e3, e4, e5, e6, wrapE32 ((m : Int) * 2 ^ (32 - n)), e7, e8, or32 hl1 hl2, rR_nat, Int.toNat_natCast, Int.toNat_natCast, rot_or m n hm (by omega)]
 · trivial
theorem small_ok (x : Int) (a b c : Nat) (hx : W32 x) (ha : 1 ≤ a ∧ a ≤ 31) (hb' : 1 ≤ b ∧ b ≤ 31) (hc : c ≤ 31) : Ct Tryz.prog 98 [lv (.int .u32 x), lv (.int .i64 a), lv (.int .i64 b), lv (.int .i64 c)] [] (lv (.int .u32 (smallS x a b c))) [] [] := by
 refine Ct_intro Tryz.func98 rfl rfl rfl rfl rfl (fun E hn hb => ?_)
 repeat (refine nst ?_)
 refine W_drawW 14 (by kernel_rfl) (by kernel_rfl) (by kernel_rfl) (by rw [hn]; rfl) rfl rfl ?_
 repeat (first | refine dp1 ?_ | refine dg1 ?_ | refine DrawW_nil ?_)
 refine DrawW_cons rfl (ops_of (opys_call (rot_ok x a hx ha.1 ha.2) rfl rfl rfl (by exact vcs) rfl rfl rfl) rfl) ?_
 repeat (first | refine dp1 ?_ | refine dg1 ?_ | refine DrawW_nil ?_)
 refine DrawW_cons rfl (ops_of (opys_call (rot_ok x b hx hb'.1 hb'.2) rfl rfl rfl (by exact vcs) rfl rfl rfl) rfl) ?_
 repeat (first | refine dp1 ?_ | refine dg1 ?_ | refine DrawW_nil ?_)
 repeat (refine nst ?_)
 have e : min (c : Int).toNat 32 = c := by omega
 refine rt2 [] ?_ ?_
 · refine congrArg (fun y => lv (.int .u32 y)) ?_
   rw [xor32 (rR_low hx (by omega)) (rR_low hx (by omega))]
   show IntKind.u32.wrap (BitVec.ofInt IntKind.u32.bits _ ^^^ BitVec.ofInt IntKind.u32.bits (x / 2 ^ min (c : Int).toNat 32)).toNat = _
   rw [e, xor32 (xI_low (rR_low hx (by omega)) (rR_low hx (by omega))) (div_low hx c)]
   rfl
 · trivial
theorem great_ok (x : Int) (a b c : Nat) (hx : W32 x) (ha : 1 ≤ a ∧ a ≤ 31) (hb' : 1 ≤ b ∧ b ≤ 31) (hc : 1 ≤ c ∧ c ≤ 31) : Ct Tryz.prog 74 [lv (.int .u32 x), lv (.int .i64 a), lv (.int .i64 b), lv (.int .i64 c)] [] (lv (.int .u32 (greatS x a b c))) [] [] := by
 refine Ct_intro Tryz.func74 rfl rfl rfl rfl rfl (fun E hn hb => ?_)
 repeat (refine nst ?_)
 refine s_call0 (rot_ok x a hx ha.1 ha.2) rfl rfl rfl (by rw [hn]; rfl) rfl rfl (by exact vcs) rfl rfl rfl ?_
 repeat (refine nst ?_)
 refine s_call0 (rot_ok x b hx hb'.1 hb'.2) rfl rfl rfl (by rw [hn]; rfl) rfl rfl (by exact vcs) rfl rfl rfl ?_
 repeat (refine nst ?_)
 refine s_call0 (rot_ok x c hx hc.1 hc.2) rfl rfl rfl (by rw [hn]; rfl) rfl rfl (by exact vcs) rfl rfl rfl ?_
 repeat (refine nst ?_)
 refine rt2 [] ?_ ?_
 · refine congrArg (fun y => lv (.int .u32 y)) ?_
   rw [xor32 (rR_low hx (by omega)) (rR_low hx (by omega)), xor32 (xI_low (rR_low hx (by omega)) (rR_low hx (by omega))) (rR_low hx (by omega))]
   rfl
 · trivial
end Go.Proofs.YtohfhephkjihfaaGreat

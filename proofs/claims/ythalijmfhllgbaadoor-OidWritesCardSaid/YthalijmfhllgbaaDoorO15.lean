/-
  Chapter 04's law OidWrites, walked: it returns true. The conditions: a row that a machine can hold; the package's table of powers of ten is laid.
-/
import Derived.Test.YthalijmfhllgbaaDoorO13
import Derived.Test.YthalijmfhllgbaaDoorSxG
import Derived.Test.YthalijmfhllgbaaDoorShI
namespace Go.Proofs.YthalijmfhllgbaaDoor
set_option linter.unusedSimpArgs false
set_option linter.unusedVariables false
open Go.Sx

set_option maxRecDepth 10000

theorem TabIs_keep {P : Program} {w w' : World} {M : Nat → Prop} (hk : Keep w M w') (hM : ∀ g, ¬ M g) {name : String} {k : IntKind} {zs : List Int} (h : Lib.TabIs P w name k zs) : Lib.TabIs P w' name k zs := by
  unfold Lib.TabIs World.var? at *
  obtain ⟨g, hg, h⟩ := Option.bind_eq_some_iff.1 h
  refine Option.bind_eq_some_iff.2 ⟨g, hg, ?_⟩
  have hlt : g < w.heap.size := by
    rcases Nat.lt_or_ge g w.heap.size with h1 | h1
    · exact h1
    · rw [Array.getElem?_eq_none h1] at h; cases h
  rw [hk.block g hlt (hM g)]
  exact h
/-- The table of powers of ten is laid. -/
def Gp (w : World) : Prop := Lib.TabIs Tryd.prog w "internal/strconv.uint64pow10" .u64 Lib.pow10Tab
theorem Gp_keep {w w' : World} {M : Nat → Prop} (hM : ∀ g, ¬ M g) (h : Gp w) (hk : Keep w M w') : Gp w' := TabIs_keep hk hM h
theorem itoaG {n : Int} (h : 0 ≤ n ∧ n ≤ 2147483647) : CtG Tryd.prog Gp 38 [lv (.int .i64 n)] [] (lv (.string (refS n))) [] [] := by
  refine ⟨rfl, ⟨_, Tryd.func38, by kernel_rfl, rfl⟩, fun w hG β F vs hl ha _ _ _ hnone hF => ?_⟩
  obtain ⟨v, rfl⟩ : ∃ v, vs = [v] := by
    match vs, hl with
    | [v], _ => exact ⟨v, rfl⟩
  have h0 := ha 0 _ v rfl rfl
  have hv : v = .int .i64 n := by cases h0 with | c h0 => cases h0 with | lf h0 => cases h0 with | v _ h0 => rfl
  subst hv
  refine (Tryd.strconv_Itoa n (by omega) (by omega) w hG).mono fun e w' hq => ?_
  obtain ⟨rfl, k, os, rfl⟩ := hq
  rw [itoa_ref h]
  have hblk : ∀ g, g < w.heap.size → (Go.Sort.grow (w.drewN k) os).heap[g]? = w.heap[g]? := fun g hg => by
    show (w.heap ++ os)[g]? = w.heap[g]?
    rw [Array.getElem?_append_left hg]
  have hsz : w.heap.size ≤ (Go.Sort.grow (w.drewN k) os).heap.size := by
    show w.heap.size ≤ (w.heap ++ os).size
    rw [Array.size_append]; omega
  refine ⟨_, β, F, rfl, .c (.lf (.v _ rfl)), fun i b h => by simp at h, fun i b h => by simp at h, fun i hi => rfl, fun i j g hi => absurd hi (by simp), fun j g hj => absurd hj (by simp), fun i g hi => absurd hi (by simp), fun b hb => ⟨Nat.lt_of_lt_of_le (hF b hb) hsz, .inl hb⟩, ⟨rfl, rfl, rfl, hsz, fun g hg _ => hblk g hg, fun g n hc => hc.same (hblk g hc.lt)⟩⟩
theorem text_ofG (o : List Int) (hr : rightO o = true) :
    CtG Tryd.prog Gp 14 [I64 o] [] (.tup [lv (.string (strOfNums (textO refS o))), lv (.int .i64 0)]) [] [] := by
  have hs := refS_size
  have hs1 := refS_pos
  have hI : ∀ x ∈ o, CtG Tryd.prog Gp 38 [lv (.int .i64 x)] [] (lv (.string (refS x))) [] [] := fun x hx => itoaG (right_in hr x hx)
  have hl : o.length ≤ 32 ∧ 2 ≤ o.length := by
    obtain ⟨a, b, t, rfl, _, _, _, _, ht, _⟩ := right_nums hr
    simp; omega
  have h1 := right_ok o (by omega)
  rw [hr] at h1
  refine CtG_intro Tryd.func14 rfl rfl rfl rfl rfl (fun E hn hb hG hM => ?_)
  have hGs : ∀ w, Keep E.w0 E.M w → Gp w := fun w hk => Gp_keep (fun g hg => by obtain ⟨i, hi, _⟩ := hM g hg; simp at hi) hG hk
  repeat (first | refine stp ?_ | refine N_block_pass rfl ?_ | refine sp1 ?_ | refine sg1 ?_ | refine WL_nil ?_)
  refine s_call0 h1 rfl rfl rfl (by rw [hn]; rfl) rfl rfl (by first | trivial | (simp; done) | (simp; omega) | (simp at *; done) | (simp at *; omega)) rfl rfl rfl ?_
  repeat (first | refine stp ?_ | refine N_block_pass rfl ?_ | refine sp1 ?_ | refine sg1 ?_ | refine WL_nil ?_)
  refine W_cond rfl (by simp) (fun hc => ?_) (fun hc => ?_)
  · simp at hc
  clear hc
  repeat (first | refine stp ?_ | refine N_block_pass rfl ?_ | refine sp1 ?_ | refine sg1 ?_ | refine WL_nil ?_)
  refine s_allocT rfl rfl rfl (by rw [hn]; rfl) rfl zok59 ?_
  repeat (first | refine stp ?_ | refine N_block_pass rfl ?_ | refine sp1 ?_ | refine sg1 ?_ | refine WL_nil ?_)
  refine W_sr (fun a w h => SR.cell_nilT 5 (cs := [.lf (.v (.pointer none)), .lf (.v (.slice none 0 0))]) (cs' := [.lf (.v (.pointer none)), .town 900 0 0 5]) 68 1 900 rfl rfl rfl rfl rfl h) ?_
  refine W_weaken (St.le_of (l := [(4, .c (.tptr 68 59)), (10, I64 o), (11, lv (.int .i64 (o.length : Int))), (12, lv (.int .i64 ((0 : Nat) : Int)))]) (h := [(68, .cells [adr 68 0, .town 900 0 ([] : List Int).length 5]), (900, .row (.ints .u8 []))]) (by refine ⟨?_, ?_⟩ <;> (repeat' (first | exact trivial | exact rfl | refine ⟨?_, ?_⟩)) <;> first | exact rfl | (simp; done) | skip)) ?_
  refine W_loop (ι := {s : Nat × List Int // s.1 ≤ o.length ∧ s.2 = textO refS (o.take s.1)}) (fun s => St.of [(4, .c (.tptr 68 59)), (10, I64 o), (11, lv (.int .i64 (o.length : Int))), (12, lv (.int .i64 (s.1.1 : Int)))] [(68, .cells [adr 68 s.1.1, .town 900 0 s.1.2.length 5]), (900, .row (.ints .u8 s.1.2))]) (fun s => o.length - s.1.1) (fun s => ?_) ⟨(0, []), by dsimp only; omega, rfl⟩
  obtain ⟨⟨i, acc⟩, hi, he⟩ := s
  dsimp only at hi he ⊢
  repeat (first | refine stp ?_ | refine N_block_pass rfl ?_ | refine sp1 ?_ | refine sg1 ?_ | refine WL_nil ?_)
  refine W_cond rfl (by simp) (fun hc => ?_) (fun hc => ?_)
  · have hi2 : i < o.length := by simpa using hc
    have hal : acc.length ≤ 1000 := by
      have := textO_len refS hs (o.take i)
      rw [he]
      simp at this
      omega
    have hxi : o.getD i 0 ∈ o := by rw [List.getD_eq_getElem?_getD, List.getElem?_eq_getElem hi2]; exact List.getElem_mem hi2
    have hIx := hI _ hxi
    have hsx := hs (o.getD i 0)
    match i, hi, he, hi2, hxi, hIx, hsx with
    | 0, hi, he, hi2, hxi, hIx, hsx =>
      have he0 : acc = [] := he
      subst he0
      have hnext : strL (refS (o.getD 0 0)) = textO refS (o.take (0 + 1)) := by
        match o, hi2 with
        | x :: t, _ => simp [textO]
      generalize hX : o.getD 0 0 = x at *
      generalize hFX : refS x = F at *
      have hw := writeString_ok (p := nilC) (.inl rfl) [] F (by simp) (by omega)
      repeat (first | refine stp ?_ | refine N_block_pass rfl ?_ | refine sp1 ?_ | refine sg1 ?_ | refine WL_nil ?_)
      rw [show o.getD (Int.toNat ((0 : Nat) : Int)) 0 = x from hX]
      refine W_cond rfl (by simp) (fun h2 => ?_) (fun h2 => ?_)
      · simp at h2
      repeat (first | refine stp ?_ | refine N_block_pass rfl ?_ | refine sp1 ?_ | refine sg1 ?_ | refine WL_nil ?_)
      refine s_callG [] hIx hGs rfl rfl (by rw [hn]; rfl) rfl rfl (by trivial) ⟨rfl, trivial, trivial, rfl⟩ ?_
      repeat (first | refine stp ?_ | refine N_block_pass rfl ?_ | refine sp1 ?_ | refine sg1 ?_ | refine WL_nil ?_)
      refine s_callM [68, 900] hw rfl rfl (by rw [hn]; rfl) rfl rfl (by trivial) ⟨rfl, ⟨rfl, rfl⟩, (by simp [ordL]), rfl⟩ ?_
      repeat (first | refine stp ?_ | refine N_block_pass rfl ?_ | refine sp1 ?_ | refine sg1 ?_ | refine WL_nil ?_)
      refine N_sr (fun a w h => SR.mv 86 900 rfl rfl rfl rfl rfl h) ?_
      exact N_round ⟨(0 + 1, [] ++ strL F), by dsimp only; omega, hnext⟩ (by dsimp only; omega) (St.le_of ⟨⟨rfl, rfl, rfl, rfl⟩, ⟨by dsimp only; rw [List.length_append, strL_len]; rfl, rfl⟩⟩)
    | i + 1, hi, he, hi2, hxi, hIx, hsx =>
      have hnext := textO_take refS hi2 (by omega)
      rw [← he] at hnext
      generalize hX : o.getD (i + 1) 0 = x at *
      generalize hFX : refS x = F at *
      have hb1 := writeByte_ok (p := .ptr 0 0) (.inr rfl) acc (by omega) 46 (by decide)
      have hw := writeString_ok (p := .ptr 0 0) (.inr rfl) (acc ++ [46]) F (by simp; omega) (by omega)
      have e1 : acc.length + 1 = (acc ++ [46]).length := by simp
      rw [e1] at hb1
      have e2 : (acc ++ [46]) ++ strL F = acc ++ 46 :: strL F := by simp
      rw [e2] at hw
      have e3 : (acc ++ [46]).length + F.size = (acc ++ 46 :: strL F).length := by simp [strL_len]; omega
      rw [e3] at hw
      repeat (first | refine stp ?_ | refine N_block_pass rfl ?_ | refine sp1 ?_ | refine sg1 ?_ | refine WL_nil ?_)
      rw [show o.getD (Int.toNat ((i + 1 : Nat) : Int)) 0 = x from hX]
      refine W_cond rfl (by simp) (fun h2 => ?_) (fun h2 => ?_)
      · repeat (first | refine stp ?_ | refine N_block_pass rfl ?_ | refine sp1 ?_ | refine sg1 ?_ | refine WL_nil ?_)
        refine s_callM [68, 900] hb1 rfl rfl (by rw [hn]; rfl) rfl rfl (by trivial) ⟨rfl, ⟨rfl, rfl⟩, (by simp [ordL]), rfl⟩ ?_
        repeat (first | refine stp ?_ | refine N_block_pass rfl ?_ | refine sp1 ?_ | refine sg1 ?_ | refine WL_nil ?_)
        refine WL_sr (fun a w h => SR.mv 83 900 rfl rfl rfl rfl rfl h) ?_
        refine s_callG [] hIx hGs rfl rfl (by rw [hn]; rfl) rfl rfl (by trivial) ⟨rfl, trivial, trivial, rfl⟩ ?_
        repeat (first | refine stp ?_ | refine N_block_pass rfl ?_ | refine sp1 ?_ | refine sg1 ?_ | refine WL_nil ?_)
        refine s_callM [68, 900] hw rfl rfl (by rw [hn]; rfl) rfl rfl (by trivial) ⟨rfl, ⟨rfl, rfl⟩, (by simp [ordL]), rfl⟩ ?_
        repeat (first | refine stp ?_ | refine N_block_pass rfl ?_ | refine sp1 ?_ | refine sg1 ?_ | refine WL_nil ?_)
        refine N_sr (fun a w h => SR.mv 86 900 rfl rfl rfl rfl rfl h) ?_
        exact N_round ⟨(i + 1 + 1, acc ++ 46 :: strL F), by dsimp only; omega, hnext.symm⟩ (by dsimp only; omega) (St.le_of ⟨⟨rfl, rfl, rfl, rfl⟩, ⟨rfl, rfl⟩⟩)
      · simp at h2
  · have hi2 : i = o.length := by simp at hc; omega
    subst hi2
    rw [List.take_length] at he
    subst he
    have hne : textO refS o ≠ [] := by
      obtain ⟨a, b, t, rfl, _⟩ := right_nums hr
      have := hs1 a
      intro h
      have h3 := congrArg List.length h
      simp [textO, strL_len] at h3
      try omega
    have hst := string_ok (textO refS o) (by have := textO_len refS hs o; omega) hne (textO_wf refS o)
    have hi0 : ∃ k, o.length = k + 1 := ⟨o.length - 1, by omega⟩
    obtain ⟨k, hk⟩ := hi0
    rw [show adr 68 o.length = .ptr 68 0 from by rw [hk]; rfl]
    repeat (first | refine stp ?_ | refine N_block_pass rfl ?_ | refine sp1 ?_ | refine sg1 ?_ | refine WL_nil ?_)
    refine s_callX [68, 900] hst hb rfl rfl rfl rfl (by rw [hn]; rfl) rfl rfl (by trivial) ⟨rfl, ⟨rfl, rfl⟩, by simp [ordL], rfl⟩ ?_
    repeat (first | refine stp ?_ | refine N_block_pass rfl ?_ | refine sp1 ?_ | refine sg1 ?_ | refine WL_nil ?_)
    exact rt1 []
end Go.Proofs.YthalijmfhllgbaaDoor

namespace Go.Proofs.YthalijmfhllgbaaDoor
set_option linter.unusedSimpArgs false
set_option linter.unusedVariables false
open Go.Sx

set_option maxRecDepth 10000

theorem text_err (o : List Int) (hl : o.length ≤ 1000000) (hr : rightO o = false) : Ct Tryd.prog 14 [I64 o] [] (.tup [lv (.string (ByteArray.mk #[])), lv (.int .i64 1)]) [] [] := by
  have h1 := right_ok o hl
  rw [hr] at h1
  refine Ct_intro Tryd.func14 rfl rfl rfl rfl rfl (fun E hn hb => ?_)
  repeat (first | refine stp ?_ | refine N_block_pass rfl ?_ | refine sp1 ?_ | refine sg1 ?_ | refine WL_nil ?_)
  refine s_call0 h1 rfl rfl rfl (by rw [hn]; rfl) rfl rfl (by first | trivial | (simp; done) | (simp; omega) | (simp at *; done) | (simp at *; omega)) rfl rfl rfl ?_
  repeat (first | refine stp ?_ | refine N_block_pass rfl ?_ | refine sp1 ?_ | refine sg1 ?_ | refine WL_nil ?_)
  refine W_cond rfl (by simp) (fun hc => ?_) (fun hc => ?_)
  · repeat (first | refine stp ?_ | refine N_block_pass rfl ?_ | refine sp1 ?_ | refine sg1 ?_ | refine WL_nil ?_)
    exact rt1 []
  · simp at hc
theorem samA_ok (a : List Int) (ha : a.length ≤ 1000000) : Ct Tryd.prog 19 [B8 a, B8 a] [] (lv (.bool true)) [] [] := by
  have h := same_ok a a ha ha
  rwa [show decide (a = a) = true from decide_eq_true rfl] at h

theorem wrapO_len (t : TagP) (X : List Int) : (wrapL t X).length ≤ X.length + 20 := by
  have h1 := lowD_len 128 5 t.2.1.toNat
  have h2 := lowD_len 256 5 X.length
  have hT5 : (tgL t).length ≤ 10 := by
    unfold tgL
    split
    · simp
    · simp [hiL_len]; omega
  have hL5 : (lenL X.length).length ≤ 10 := by
    generalize X.length = n at *
    unfold lenL
    split
    · simp
    · simp; omega
  simp only [wrapL, List.length_append]
  omega

set_option maxHeartbeats 4000000 in
theorem owrites_ok (o0 : List Int) (hl0 : o0.length ≤ 9223372036854775807) : CtG Tryd.prog Gp 4 [I64 o0] [] (lv (.bool true)) [] [] := by
  have hf := few04_ok o0 hl0
  have hl : (o0.take 50).length ≤ 50 := by simp; omega
  generalize o0.take 50 = o at *
  have hc := conP_ok o (by omega)
  have hw := owrite_ok o (by omega)
  have hm := must_ok o (by omega)
  have h16 := right_ok o (by omega)
  have h17 := refRight_ok o (by omega)
  have hs := refSame_ok o o (by omega) (by omega)
  rw [show decide (o = o) = true from decide_eq_true rfl] at hs
  have hk := known04_ok
  by_cases hr : rightO o = true
  · have e1 : conP o = (arcsL (numsL o), 0) := if_pos hr
    have e2 : whoP o = (wrapL (ofT 6) (arcsL (numsL o)), 0) := if_pos hr
    have ht := text_ofG o hr
    have hrc := refCon_ok o hr
    have hrw := refWhole_ok o hr
    have hrt := refText_ok o hr
    have hlen := conO_len hr
    have hwl : (wrapL (ofT 6) (arcsL (numsL o))).length ≤ 1000000 := by
      have := wrapO_len (ofT 6) (arcsL (numsL o))
      omega
    rw [e1] at hc
    rw [e2] at hw hm
    rw [hr] at h16 h17
    generalize wrapL (ofT 6) (arcsL (numsL o)) = Y at *
    generalize arcsL (numsL o) = X at *
    have hsX := samA_ok X (by omega)
    have hsY := samA_ok Y hwl
    generalize strOfNums (textO refS o) = S at *
    refine CtG_intro Tryd.func4 rfl rfl rfl rfl rfl (fun E hn hb hG hM => ?_)
    have hGs : ∀ w, Keep E.w0 E.M w → Gp w := fun w hk => Gp_keep (fun g hg => by obtain ⟨i, hi, _⟩ := hM g hg; simp at hi) hG hk
    repeat (first | refine stp ?_ | refine N_block_pass rfl ?_ | refine sp1 ?_ | refine sg1 ?_ | refine WL_nil ?_)
    refine s_call0 hf rfl rfl rfl (by rw [hn]; rfl) rfl rfl (by first | trivial | (simp; done) | (simp; omega) | (simp at *; done) | (simp at *; omega)) rfl rfl rfl ?_
    repeat (first | refine stp ?_ | refine N_block_pass rfl ?_ | refine sp1 ?_ | refine sg1 ?_ | refine WL_nil ?_)
    refine s_litI rfl rfl rfl (by rw [hn]; rfl) (elt_mk Tryd.underlying22 rfl rfl) (zok3) (by first | trivial | (simp; done) | (simp; omega) | (simp at *; done) | (simp at *; omega)) ⟨by decide, rfl⟩ ?_
    repeat (first | refine stp ?_ | refine N_block_pass rfl ?_ | refine sp1 ?_ | refine sg1 ?_ | refine WL_nil ?_)
    refine s_appI rfl rfl rfl rfl rfl rfl (by rw [hn]; rfl) (elt_mk Tryd.underlying22 rfl rfl) rfl rfl rfl rfl (by first | trivial | (simp; done) | (simp; omega) | (simp at *; done) | (simp at *; omega)) (by first | rfl | (simp; done) | (simp; omega)) ⟨by first | (simp; done) | (simp; omega) | (simp at *; omega), by decide⟩ ?_
    refine WL_freeze 77 [(15, I64 o)] rfl hb ⟨⟨rfl, rfl, rfl, by simp, by simp⟩, rfl⟩ ?_
    repeat (first | refine stp ?_ | refine N_block_pass rfl ?_ | refine sp1 ?_ | refine sg1 ?_ | refine WL_nil ?_)
    refine s_call0 hc rfl rfl rfl (by rw [hn]; rfl) rfl rfl (by first | trivial | (simp; done) | (simp; omega) | (simp at *; done) | (simp at *; omega)) rfl rfl rfl ?_
    repeat (first | refine stp ?_ | refine N_block_pass rfl ?_ | refine sp1 ?_ | refine sg1 ?_ | refine WL_nil ?_)
    refine s_call0 hw rfl rfl rfl (by rw [hn]; rfl) rfl rfl (by first | trivial | (simp; done) | (simp; omega) | (simp at *; done) | (simp at *; omega)) rfl rfl rfl ?_
    repeat (first | refine stp ?_ | refine N_block_pass rfl ?_ | refine sp1 ?_ | refine sg1 ?_ | refine WL_nil ?_)
    refine s_callG [] ht hGs rfl rfl (by rw [hn]; rfl) rfl rfl (by trivial) ⟨rfl, trivial, trivial, rfl⟩ ?_
    repeat (first | refine stp ?_ | refine N_block_pass rfl ?_ | refine sp1 ?_ | refine sg1 ?_ | refine WL_nil ?_)
    refine s_call0 hm rfl rfl rfl (by rw [hn]; rfl) rfl rfl (by first | trivial | (simp; done) | (simp; omega) | (simp at *; done) | (simp at *; omega)) rfl rfl rfl ?_
    repeat (first | refine stp ?_ | refine N_block_pass rfl ?_ | refine sp1 ?_ | refine sg1 ?_ | refine WL_nil ?_)
    refine s_call0 h16 rfl rfl rfl (by rw [hn]; rfl) rfl rfl (by first | trivial | (simp; done) | (simp; omega) | (simp at *; done) | (simp at *; omega)) rfl rfl rfl ?_
    repeat (first | refine stp ?_ | refine N_block_pass rfl ?_ | refine sp1 ?_ | refine sg1 ?_ | refine WL_nil ?_)
    refine s_call0 h17 rfl rfl rfl (by rw [hn]; rfl) rfl rfl (by first | trivial | (simp; done) | (simp; omega) | (simp at *; done) | (simp at *; omega)) rfl rfl rfl ?_
    repeat (first | refine stp ?_ | refine N_block_pass rfl ?_ | refine WL_gT rfl rfl ?_ | refine sp1 ?_ | refine WL_nil ?_)
    refine s_call0 hs rfl rfl rfl (by rw [hn]; rfl) rfl rfl (by first | trivial | (simp; done) | (simp; omega) | (simp at *; done) | (simp at *; omega)) rfl rfl rfl ?_
    repeat (first | refine stp ?_ | refine N_block_pass rfl ?_ | refine WL_gT rfl rfl ?_ | refine sp1 ?_ | refine WL_nil ?_)
    refine W_cond rfl (by simp) (fun h1 => ?_) (fun h1 => ?_)
    · simp at h1
    repeat (first | refine stp ?_ | refine N_block_pass rfl ?_ | refine sp1 ?_ | refine sg1 ?_ | refine WL_nil ?_)
    refine s_call0 h17 rfl rfl rfl (by rw [hn]; rfl) rfl rfl (by first | trivial | (simp; done) | (simp; omega) | (simp at *; done) | (simp at *; omega)) rfl rfl rfl ?_
    repeat (first | refine stp ?_ | refine N_block_pass rfl ?_ | refine sp1 ?_ | refine sg1 ?_ | refine WL_nil ?_)
    refine W_cond rfl (by simp) (fun h1 => ?_) (fun h1 => ?_)
    · simp at h1
    repeat (first | refine stp ?_ | refine N_block_pass rfl ?_ | refine sp1 ?_ | refine sg1 ?_ | refine WL_nil ?_)
    refine s_call0 hk rfl rfl rfl (by rw [hn]; rfl) rfl rfl (by first | trivial | (simp; done) | (simp; omega) | (simp at *; done) | (simp at *; omega)) rfl rfl rfl ?_
    repeat (first | refine stp ?_ | refine N_block_pass rfl ?_ | refine WL_gT rfl rfl ?_ | refine sp1 ?_ | refine WL_nil ?_)
    refine s_call0 hrc rfl rfl rfl (by rw [hn]; rfl) rfl rfl (by first | trivial | (simp; done) | (simp; omega) | (simp at *; done) | (simp at *; omega)) rfl rfl rfl ?_
    repeat (first | refine stp ?_ | refine N_block_pass rfl ?_ | refine WL_gT rfl rfl ?_ | refine sp1 ?_ | refine WL_nil ?_)
    refine s_call0 hsX rfl rfl rfl (by rw [hn]; rfl) rfl rfl (by first | trivial | (simp; done) | (simp; omega) | (simp at *; done) | (simp at *; omega)) rfl rfl rfl ?_
    repeat (first | refine stp ?_ | refine N_block_pass rfl ?_ | refine WL_gT rfl rfl ?_ | refine sp1 ?_ | refine WL_nil ?_)
    refine s_call0 hrw rfl rfl rfl (by rw [hn]; rfl) rfl rfl (by first | trivial | (simp; done) | (simp; omega) | (simp at *; done) | (simp at *; omega)) rfl rfl rfl ?_
    repeat (first | refine stp ?_ | refine N_block_pass rfl ?_ | refine WL_gT rfl rfl ?_ | refine sp1 ?_ | refine WL_nil ?_)
    refine s_call0 hsY rfl rfl rfl (by rw [hn]; rfl) rfl rfl (by first | trivial | (simp; done) | (simp; omega) | (simp at *; done) | (simp at *; omega)) rfl rfl rfl ?_
    repeat (first | refine stp ?_ | refine N_block_pass rfl ?_ | refine WL_gT rfl rfl ?_ | refine sp1 ?_ | refine WL_nil ?_)
    refine s_call0 hsY rfl rfl rfl (by rw [hn]; rfl) rfl rfl (by first | trivial | (simp; done) | (simp; omega) | (simp at *; done) | (simp at *; omega)) rfl rfl rfl ?_
    repeat (first | refine stp ?_ | refine N_block_pass rfl ?_ | refine WL_gT rfl rfl ?_ | refine sp1 ?_ | refine WL_nil ?_)
    refine s_call0 hrt rfl rfl rfl (by rw [hn]; rfl) rfl rfl (by first | trivial | (simp; done) | (simp; omega) | (simp at *; done) | (simp at *; omega)) rfl rfl rfl ?_
    repeat (first | refine stp ?_ | refine N_block_pass rfl ?_ | refine WL_gT rfl rfl ?_ | refine sp1 ?_ | refine WL_nil ?_)
    refine rt2 [] ?_ ?_
    · refine congrArg (fun x => lv (.bool x)) ?_
      simp
    · trivial
  · have hr : rightO o = false := by simpa using hr
    have e1 : conP o = ([], 1) := if_neg (by simp [hr])
    have e2 : whoP o = ([], 1) := if_neg (by simp [hr])
    have ht := text_err o (by omega) hr
    rw [e1] at hc
    rw [e2] at hw hm
    rw [hr] at h16 h17
    refine CtG_intro Tryd.func4 rfl rfl rfl rfl rfl (fun E hn hb hG hM => ?_)
    repeat (first | refine stp ?_ | refine N_block_pass rfl ?_ | refine sp1 ?_ | refine sg1 ?_ | refine WL_nil ?_)
    refine s_call0 hf rfl rfl rfl (by rw [hn]; rfl) rfl rfl (by first | trivial | (simp; done) | (simp; omega) | (simp at *; done) | (simp at *; omega)) rfl rfl rfl ?_
    repeat (first | refine stp ?_ | refine N_block_pass rfl ?_ | refine sp1 ?_ | refine sg1 ?_ | refine WL_nil ?_)
    refine s_litI rfl rfl rfl (by rw [hn]; rfl) (elt_mk Tryd.underlying22 rfl rfl) (zok3) (by first | trivial | (simp; done) | (simp; omega) | (simp at *; done) | (simp at *; omega)) ⟨by decide, rfl⟩ ?_
    repeat (first | refine stp ?_ | refine N_block_pass rfl ?_ | refine sp1 ?_ | refine sg1 ?_ | refine WL_nil ?_)
    refine s_appI rfl rfl rfl rfl rfl rfl (by rw [hn]; rfl) (elt_mk Tryd.underlying22 rfl rfl) rfl rfl rfl rfl (by first | trivial | (simp; done) | (simp; omega) | (simp at *; done) | (simp at *; omega)) (by first | rfl | (simp; done) | (simp; omega)) ⟨by first | (simp; done) | (simp; omega) | (simp at *; omega), by decide⟩ ?_
    refine WL_freeze 77 [(15, I64 o)] rfl hb ⟨⟨rfl, rfl, rfl, by simp, by simp⟩, rfl⟩ ?_
    repeat (first | refine stp ?_ | refine N_block_pass rfl ?_ | refine sp1 ?_ | refine sg1 ?_ | refine WL_nil ?_)
    refine s_call0 hc rfl rfl rfl (by rw [hn]; rfl) rfl rfl (by first | trivial | (simp; done) | (simp; omega) | (simp at *; done) | (simp at *; omega)) rfl rfl rfl ?_
    repeat (first | refine stp ?_ | refine N_block_pass rfl ?_ | refine sp1 ?_ | refine sg1 ?_ | refine WL_nil ?_)
    refine s_call0 hw rfl rfl rfl (by rw [hn]; rfl) rfl rfl (by first | trivial | (simp; done) | (simp; omega) | (simp at *; done) | (simp at *; omega)) rfl rfl rfl ?_
    repeat (first | refine stp ?_ | refine N_block_pass rfl ?_ | refine sp1 ?_ | refine sg1 ?_ | refine WL_nil ?_)
    refine s_call0 ht rfl rfl rfl (by rw [hn]; rfl) rfl rfl (by first | trivial | (simp; done) | (simp; omega) | (simp at *; done) | (simp at *; omega)) rfl rfl rfl ?_
    repeat (first | refine stp ?_ | refine N_block_pass rfl ?_ | refine sp1 ?_ | refine sg1 ?_ | refine WL_nil ?_)
    refine s_call0 hm rfl rfl rfl (by rw [hn]; rfl) rfl rfl (by first | trivial | (simp; done) | (simp; omega) | (simp at *; done) | (simp at *; omega)) rfl rfl rfl ?_
    repeat (first | refine stp ?_ | refine N_block_pass rfl ?_ | refine sp1 ?_ | refine sg1 ?_ | refine WL_nil ?_)
    refine s_call0 h16 rfl rfl rfl (by rw [hn]; rfl) rfl rfl (by first | trivial | (simp; done) | (simp; omega) | (simp at *; done) | (simp at *; omega)) rfl rfl rfl ?_
    repeat (first | refine stp ?_ | refine N_block_pass rfl ?_ | refine sp1 ?_ | refine sg1 ?_ | refine WL_nil ?_)
    refine s_call0 h17 rfl rfl rfl (by rw [hn]; rfl) rfl rfl (by first | trivial | (simp; done) | (simp; omega) | (simp at *; done) | (simp at *; omega)) rfl rfl rfl ?_
    repeat (first | refine stp ?_ | refine N_block_pass rfl ?_ | refine WL_gT rfl rfl ?_ | refine sp1 ?_ | refine WL_nil ?_)
    refine s_call0 hs rfl rfl rfl (by rw [hn]; rfl) rfl rfl (by first | trivial | (simp; done) | (simp; omega) | (simp at *; done) | (simp at *; omega)) rfl rfl rfl ?_
    repeat (first | refine stp ?_ | refine N_block_pass rfl ?_ | refine WL_gT rfl rfl ?_ | refine sp1 ?_ | refine WL_nil ?_)
    refine W_cond rfl (by simp) (fun h1 => ?_) (fun h1 => ?_)
    · simp at h1
    repeat (first | refine stp ?_ | refine N_block_pass rfl ?_ | refine sp1 ?_ | refine sg1 ?_ | refine WL_nil ?_)
    refine s_call0 h17 rfl rfl rfl (by rw [hn]; rfl) rfl rfl (by first | trivial | (simp; done) | (simp; omega) | (simp at *; done) | (simp at *; omega)) rfl rfl rfl ?_
    repeat (first | refine stp ?_ | refine N_block_pass rfl ?_ | refine sp1 ?_ | refine sg1 ?_ | refine WL_nil ?_)
    refine W_cond rfl (by simp) (fun h1 => ?_) (fun h1 => ?_)
    · repeat (first | refine stp ?_ | refine N_block_pass rfl ?_ | refine sp1 ?_ | refine sg1 ?_ | refine WL_nil ?_)
      refine s_call0 hk rfl rfl rfl (by rw [hn]; rfl) rfl rfl (by first | trivial | (simp; done) | (simp; omega) | (simp at *; done) | (simp at *; omega)) rfl rfl rfl ?_
      repeat (first | refine stp ?_ | refine N_block_pass rfl ?_ | refine WL_gT rfl rfl ?_ | refine sp1 ?_ | refine WL_nil ?_)
      refine rt2 [] ?_ ?_
      · rfl
      · trivial
    · simp at h1
end Go.Proofs.YthalijmfhllgbaaDoor

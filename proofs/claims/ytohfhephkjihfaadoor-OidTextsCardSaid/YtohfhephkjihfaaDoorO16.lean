/-
  Chapter 04: oids' texts and the numbers that they say, plain. No condition.
-/
import Derived.Test.YtohfhephkjihfaaDoorO13
import Derived.Test.YtohfhephkjihfaaDoorSxG
import Derived.Test.YtohfhephkjihfaaDoorShI
namespace Go.Proofs.YtohfhephkjihfaaDoor
set_option linter.unusedSimpArgs false
set_option linter.unusedVariables false
open Go.Sx
set_option maxRecDepth 10000
theorem TabIs_keep {P : Program} {w w' : World} {M : Nat → Prop} (hk : Keep w M w') (hM : ∀ g, ¬ M g) {name : String} {k : IntKind} {zs : List Int} (h : Lib.TabIs P w name k zs) : Lib.TabIs P w' name k zs := by
 unfold Lib.TabIs World.var? at *
 obtain ⟨g, hg, h⟩ := Option.bind_eq_some_iff.1 h
 refine Option.bind_eq_some_iff.2 ⟨g, hg, ?_⟩
 have hlt : g < w.heap.size := by
   rcases Nat.lt_or_ge g w.heap.size with h1 | h1
   · exact h1
   · rw [Array.getElem?_eq_none h1] at h; cases h
 rw [hk.block g hlt (hM g)]
 exact h
def Gp (w : World) : Prop := Lib.TabIs Tryd.prog w "internal/strconv.uint64pow10" .u64 Lib.pow10Tab
theorem Gp_keep {w w' : World} {M : Nat → Prop} (hM : ∀ g, ¬ M g) (h : Gp w) (hk : Keep w M w') : Gp w' := TabIs_keep hk hM h
theorem itoaG {n : Int} (h : 0 ≤ n ∧ n ≤ 2147483647) : CtG Tryd.prog Gp 23 [lv (.int .i64 n)] [] (lv (.string (refS n))) [] [] := by
 refine ⟨rfl, ⟨_, Tryd.func23, by kernel_rfl, rfl⟩, fun w hG β F vs hl ha _ _ _ hnone hF => ?_⟩
 obtain ⟨v, rfl⟩ : ∃ v, vs = [v] := by
   match vs, hl with
   | [v], _ => exact ⟨v, rfl⟩
 have h0 := ha 0 _ v rfl rfl
 have hv : v = .int .i64 n := by cases h0 with | c h0 => cases h0 with | lf h0 => cases h0 with | v _ h0 => rfl
 subst hv
 refine (Tryd.strconv_Itoa n (by omega) (by omega) w hG).mono fun e w' hq => ?_
 obtain ⟨rfl, k, os, rfl⟩ := hq
 rw [itoa_ref h]
 have hblk : ∀ g, g < w.heap.size → (Go.Sort.grow (w.drewN k) os).heap[g]? = w.heap[g]? := fun g hg => by
   show (w.heap ++ os)[g]? = w.heap[g]?
   rw [Array.getElem?_append_left hg]
 have hsz : w.heap.size ≤ (Go.Sort.grow (w.drewN k) os).heap.size := by
   show w.heap.size ≤ (w.heap ++ os).size
   rw [Array.size_append]; omega
 refine ⟨_, β, F, rfl, .c (.lf (.v _ rfl)), fun i b h => by simp at h, fun i b h => by simp at h, fun i hi => rfl, fun i j g hi => absurd hi (by simp), fun j g hj => absurd hj (by simp), fun i g hi => absurd hi (by simp), fun b hb => ⟨Nat.lt_of_lt_of_le (hF b hb) hsz, .inl hb⟩, ⟨rfl, rfl, rfl, hsz, fun g hg _ => hblk g hg, fun g n hc => hc.same (hblk g hc.lt)⟩⟩
theorem text_ofG (o : List Int) (hr : rightO o = true) :
   CtG Tryd.prog Gp 7 [I64 o] [] (.tup [lv (.string (strOfNums (textO refS o))), lv (.int .i64 0)]) [] [] := by
 have hs := refS_size
 have hs1 := refS_pos
 have hI : ∀ x ∈ o, CtG Tryd.prog Gp 23 [lv (.int .i64 x)] [] (lv (.string (refS x))) [] [] := fun x hx => itoaG (right_in hr x hx)
 have hl : o.length ≤ 32 ∧ 2 ≤ o.length := by
   obtain ⟨a, b, t, rfl, _, _, _, _, ht, _⟩ := right_nums hr
   simp; omega
 have h1 := oright_ok o (by omega)
 rw [hr] at h1
 refine CtG_intro Tryd.func7 rfl rfl rfl rfl rfl (fun E hn hb hG hM => ?_)
 have hGs : ∀ w, Keep E.w0 E.M w → Gp w := fun w hk => Gp_keep (fun g hg => by obtain ⟨i, hi, _⟩ := hM g hg; simp at hi) hG hk
 repeat (refine nst ?_)
 refine s_call0 h1 rfl rfl rfl (by rw [hn]; rfl) rfl rfl (by exact vcs) rfl rfl rfl ?_
 repeat (refine nst ?_)
 refine W_cond rfl (by simp) (fun hc => ?_) (fun hc => ?_)
 · simp at hc
 clear hc
 repeat (refine nst ?_)
 refine s_allocT rfl rfl rfl (by rw [hn]; rfl) rfl zok50 ?_
 repeat (refine nst ?_)
 refine W_sr (fun a w h => SR.cell_nilT 5 (cs := [.lf (.v (.pointer none)), .lf (.v (.slice none 0 0))]) (cs' := [.lf (.v (.pointer none)), .town 900 0 0 5]) 68 1 900 rfl rfl rfl rfl rfl h) ?_
 refine W_weaken (St.le_of (l := [(4, .c (.tptr 68 50)), (10, I64 o), (11, lv (.int .i64 (o.length : Int))), (12, lv (.int .i64 ((0 : Nat) : Int)))]) (h := [(68, .cells [adr 68 0, .town 900 0 ([] : List Int).length 5]), (900, .row (.ints .u8 []))]) (by refine ⟨?_, ?_⟩ <;> (repeat' (first | exact trivial | exact rfl | refine ⟨?_, ?_⟩)) <;> first | exact rfl | (simp; done) | skip)) ?_
 refine W_loop (ι := {s : Nat × List Int // s.1 ≤ o.length ∧ s.2 = textO refS (o.take s.1)}) (fun s => St.of [(4, .c (.tptr 68 50)), (10, I64 o), (11, lv (.int .i64 (o.length : Int))), (12, lv (.int .i64 (s.1.1 : Int)))] [(68, .cells [adr 68 s.1.1, .town 900 0 s.1.2.length 5]), (900, .row (.ints .u8 s.1.2))]) (fun s => o.length - s.1.1) (fun s => ?_) ⟨(0, []), by dsimp only; omega, rfl⟩
 obtain ⟨⟨i, acc⟩, hi, he⟩ := s
 dsimp only at hi he ⊢
 repeat (refine nst ?_)
 refine W_cond rfl (by simp) (fun hc => ?_) (fun hc => ?_)
 · have hi2 : i < o.length := by simpa using hc
   have hal : acc.length ≤ 1000 := by
     have := textO_len refS hs (o.take i)
     rw [he]
     simp at this
     omega
   have hxi : o.getD i 0 ∈ o := by rw [List.getD_eq_getElem?_getD, List.getElem?_eq_getElem hi2]; exact List.getElem_mem hi2
   have hIx := hI _ hxi
   have hsx := hs (o.getD i 0)
   match i, hi, he, hi2, hxi, hIx, hsx with
   | 0, hi, he, hi2, hxi, hIx, hsx =>
     have he0 : acc = [] := he
     subst he0
     have hnext : strL (refS (o.getD 0 0)) = textO refS (o.take (0 + 1)) := by
       match o, hi2 with
       | x :: t, _ => simp [textO]
     generalize hX : o.getD 0 0 = x at *
     generalize hFX : refS x = F at *
     have hw := writeString_ok (p := nilC) (.inl rfl) [] F (by simp) (by omega)
     repeat (refine nst ?_)
     rw [show o.getD (Int.toNat ((0 : Nat) : Int)) 0 = x from hX]
     refine W_cond rfl (by simp) (fun h2 => ?_) (fun h2 => ?_)
     · simp at h2
     repeat (refine nst ?_)
     refine s_callG [] hIx hGs rfl rfl (by rw [hn]; rfl) rfl rfl (by trivial) ⟨rfl, trivial, trivial, rfl⟩ ?_
     repeat (refine nst ?_)
     refine s_callM [68, 900] hw rfl rfl (by rw [hn]; rfl) rfl rfl (by trivial) ⟨rfl, ⟨rfl, rfl⟩, (by simp [ordL]), rfl⟩ ?_
     repeat (refine nst ?_)
     refine N_sr (fun a w h => SR.mv 86 900 rfl rfl rfl rfl rfl h) ?_
     exact N_round ⟨(0 + 1, [] ++ strL F), by dsimp only; omega, hnext⟩ (by dsimp only; omega) (St.le_of ⟨⟨rfl, rfl, rfl, rfl⟩, ⟨by dsimp only; rw [List.length_append, strL_len]; rfl, rfl⟩⟩)
   | i + 1, hi, he, hi2, hxi, hIx, hsx =>
     have hnext := textO_take refS hi2 (by omega)
     rw [← he] at hnext
     generalize hX : o.getD (i + 1) 0 = x at *
     generalize hFX : refS x = F at *
     have hb1 := writeByte_ok (p := .ptr 0 0) (.inr rfl) acc (by omega) 46 (by decide)
     have hw := writeString_ok (p := .ptr 0 0) (.inr rfl) (acc ++ [46]) F (by simp; omega) (by omega)
     have e1 : acc.length + 1 = (acc ++ [46]).length := by simp
     rw [e1] at hb1
     have e2 : (acc ++ [46]) ++ strL F = acc ++ 46 :: strL F := by simp
     rw [e2] at hw
     have e3 : (acc ++ [46]).length + F.size = (acc ++ 46 :: strL F).length := by simp [strL_len]; omega
     rw [e3] at hw
     repeat (refine nst ?_)
     rw [show o.getD (Int.toNat ((i + 1 : Nat) : Int)) 0 = x from hX]
     refine W_cond rfl (by simp) (fun h2 => ?_) (fun h2 => ?_)
     · repeat (refine nst ?_)
       refine s_callM [68, 900] hb1 rfl rfl (by rw [hn]; rfl) rfl rfl (by trivial) ⟨rfl, ⟨rfl, rfl⟩, (by simp [ordL]), rfl⟩ ?_
       repeat (refine nst ?_)
       refine WL_sr (fun a w h => SR.mv 83 900 rfl rfl rfl rfl rfl h) ?_
       refine s_callG [] hIx hGs rfl rfl (by rw [hn]; rfl) rfl rfl (by trivial) ⟨rfl, trivial, trivial, rfl⟩ ?_
       repeat (refine nst ?_)
       refine s_callM [68, 900] hw rfl rfl (by rw [hn]; rfl) rfl rfl (by trivial) ⟨rfl, ⟨rfl, rfl⟩, (by simp [ordL]), rfl⟩ ?_
       repeat (refine nst ?_)
       refine N_sr (fun a w h => SR.mv 86 900 rfl rfl rfl rfl rfl h) ?_
       exact N_round ⟨(i + 1 + 1, acc ++ 46 :: strL F), by dsimp only; omega, hnext.symm⟩ (by dsimp only; omega) (St.le_of ⟨⟨rfl, rfl, rfl, rfl⟩, ⟨rfl, rfl⟩⟩)
     · simp at h2
 · have hi2 : i = o.length := by simp at hc; omega
   subst hi2
   rw [List.take_length] at he
   subst he
   have hne : textO refS o ≠ [] := by
     obtain ⟨a, b, t, rfl, _⟩ := right_nums hr
     have := hs1 a
     intro h
     have h3 := congrArg List.length h
     simp [textO, strL_len] at h3
     try omega
   have hst := string_ok (textO refS o) (by have := textO_len refS hs o; omega) hne (textO_wf refS o)
   have hi0 : ∃ k, o.length = k + 1 := ⟨o.length - 1, by omega⟩
   obtain ⟨k, hk⟩ := hi0
   rw [show adr 68 o.length = .ptr 68 0 from by rw [hk]; rfl]
   repeat (refine nst ?_)
   refine s_callX [68, 900] hst hb rfl rfl rfl rfl (by rw [hn]; rfl) rfl rfl (by trivial) ⟨rfl, ⟨rfl, rfl⟩, by simp [ordL], rfl⟩ ?_
   repeat (refine nst ?_)
   exact rt1 []

theorem text_err (o : List Int) (hl : o.length ≤ 1000000) (hr : rightO o = false) : Ct Tryd.prog 7 [I64 o] [] (.tup [lv (.string (ByteArray.mk #[])), lv (.int .i64 1)]) [] [] := by
 have h1 := oright_ok o hl
 rw [hr] at h1
 refine Ct_intro Tryd.func7 rfl rfl rfl rfl rfl (fun E hn hb => ?_)
 repeat (refine nst ?_)
 refine s_call0 h1 rfl rfl rfl (by rw [hn]; rfl) rfl rfl (by exact vcs) rfl rfl rfl ?_
 repeat (refine nst ?_)
 refine W_cond rfl (by simp) (fun hc => ?_) (fun hc => ?_)
 · repeat (refine nst ?_)
   exact rt1 []
 · simp at hc

def splitP : List Int → List (List Int)
 | [] => [[]]
 | x :: l => if x = 46 then [] :: splitP l else match splitP l with | [] => [[x]] | p :: ps => (x :: p) :: ps
theorem splitP_ne : ∀ l, splitP l ≠ []
 | [] => by simp [splitP]
 | x :: l => by
   rw [splitP]
   split
   · simp
   · split <;> simp
def ptI : List Int → Int
 | [] => -1
 | x :: l => if x = 46 then 0 else if ptI l < 0 then -1 else ptI l + 1
theorem ptI_ge : ∀ l, -1 ≤ ptI l ∧ ptI l < l.length
 | [] => by simp [ptI]
 | x :: l => by
   have := ptI_ge l
   rw [ptI]
   simp only [List.length_cons]
   split
   · omega
   · split <;> omega
theorem splitP_no : ∀ {l}, ptI l < 0 → splitP l = [l]
 | [], _ => rfl
 | x :: l, h => by
   rw [ptI] at h
   rw [splitP]
   by_cases h1 : x = 46
   · rw [if_pos h1] at h; omega
   · rw [if_neg h1] at h ⊢
     have h2 : ptI l < 0 := by
       by_cases h2 : ptI l < 0
       · exact h2
       · rw [if_neg h2] at h; omega
     rw [splitP_no h2]
theorem splitP_at : ∀ {l} {k : Nat}, ptI l = k → splitP l = l.take k :: splitP (l.drop (k + 1))
 | [], k, h => by simp [ptI] at h
 | x :: l, k, h => by
   rw [ptI] at h
   rw [splitP]
   by_cases h1 : x = 46
   · rw [if_pos h1] at h ⊢
     obtain rfl : k = 0 := by omega
     simp
   · rw [if_neg h1] at h ⊢
     by_cases h2 : ptI l < 0
     · rw [if_pos h2] at h; omega
     · rw [if_neg h2] at h
       obtain ⟨m, rfl⟩ : ∃ m, k = m + 1 := ⟨k - 1, by omega⟩
       rw [splitP_at (l := l) (k := m) (by omega)]
       simp
theorem splitP_len : ∀ l, (splitP l).length = l.count 46 + 1
 | [] => by simp [splitP]
 | x :: l => by
   have ih := splitP_len l
   rw [splitP]
   by_cases h1 : x = 46
   · rw [if_pos h1, h1]; simp [ih]
   · rw [if_neg h1, List.count_cons_of_ne h1]
     have := splitP_ne l
     match hs : splitP l with
     | [] => exact absurd hs this
     | p :: ps => rw [hs] at ih; simpa using ih
def numT (p : List Int) : Option Nat :=
 if p.length = 0 ∨ 10 < p.length ∨ (p.getD 0 0 = 48 ∧ 1 < p.length) then none else if p.all isDig = true then some (decV p) else none
theorem numT_back {p : List Int} {n : Nat} (h : numT p = some n) : decT n = p := by
 unfold numT at h
 by_cases h1 : p.length = 0 ∨ 10 < p.length ∨ (p.getD 0 0 = 48 ∧ 1 < p.length)
 · rw [if_pos h1] at h; cases h
 · rw [if_neg h1] at h
   by_cases h2 : p.all isDig = true
   · rw [if_pos h2] at h
     have h := Option.some.inj h
     subst h
     by_cases h3 : p = [48]
     · subst h3; rfl
     · have hne : ∀ x t, p = x :: t → x ≠ 48 := fun x t e hx => by
         subst e
         subst hx
         cases t with
         | nil => exact h3 rfl
         | cons y t => exact h1 (.inr (.inr ⟨rfl, by simp⟩))
       have e := decL_decV p.length p (Nat.le_refl _) h2 hne
       unfold decT
       rw [if_neg, e, List.reverse_reverse]
       intro h0
       rw [h0, decL_zero] at e
       have : p = [] := by simpa using e.symm
       subst this
       exact h1 (.inl rfl)
   · rw [if_neg h2] at h; cases h
def numsT : List (List Int) → Option (List Int)
 | [] => some []
 | p :: ps => match numT p with | none => none | some n => (match numsT ps with | none => none | some ns => some ((n : Int) :: ns))
def joinP : List (List Int) → List Int
 | [] => []
 | [p] => p
 | p :: q :: ps => p ++ 46 :: joinP (q :: ps)
theorem joinP_cons (p : List Int) {ps : List (List Int)} (h : ps ≠ []) : joinP (p :: ps) = p ++ 46 :: joinP ps := by
 match ps, h with
 | q :: ps, _ => rfl
theorem join_split : ∀ l, joinP (splitP l) = l
 | [] => rfl
 | x :: l => by
   have ih := join_split l
   have hne := splitP_ne l
   rw [splitP]
   by_cases h1 : x = 46
   · rw [if_pos h1, joinP_cons _ hne, ih, h1]; rfl
   · rw [if_neg h1]
     match hs : splitP l, hne with
     | [p], _ => rw [hs] at ih; simp only [joinP] at ih ⊢; rw [ih]
     | p :: q :: ps, _ => rw [hs] at ih; simp only [joinP, List.cons_append] at ih ⊢; rw [ih]
theorem split_part : ∀ {p : List Int}, (∀ x ∈ p, x ≠ 46) → splitP p = [p]
 | [], _ => rfl
 | x :: p, h => by
   rw [splitP, if_neg (h x (List.mem_cons_self ..)), split_part fun y hy => h y (List.mem_cons_of_mem _ hy)]
theorem split_app : ∀ {p : List Int} (l : List Int), (∀ x ∈ p, x ≠ 46) → splitP (p ++ 46 :: l) = p :: splitP l
 | [], l, _ => by simp [splitP]
 | x :: p, l, h => by
   rw [List.cons_append, splitP, if_neg (h x (List.mem_cons_self ..)), split_app l fun y hy => h y (List.mem_cons_of_mem _ hy)]
theorem numsT_back : ∀ {ps : List (List Int)} {o : List Int}, numsT ps = some o → (o.map fun x => decT x.toNat) = ps ∧ (∀ x ∈ o, 0 ≤ x)
 | [], o, h => by simp [numsT] at h; subst h; exact ⟨rfl, fun x hx => by cases hx⟩
 | p :: ps, o, h => by
   rw [numsT] at h
   cases h1 : numT p with
   | none => rw [h1] at h; cases h
   | some n =>
     rw [h1] at h
     cases h2 : numsT ps with
     | none => rw [h2] at h; cases h
     | some ns =>
       rw [h2] at h
       have h := Option.some.inj h
       subst h
       obtain ⟨e1, e2⟩ := numsT_back h2
       refine ⟨by rw [List.map_cons, Int.toNat_natCast, numT_back h1, e1], fun x hx => ?_⟩
       rcases List.mem_cons.1 hx with rfl | hx
       · omega
       · exact e2 x hx
theorem text_join : ∀ {o : List Int}, (∀ x ∈ o, 0 ≤ x ∧ x ≤ 2147483647) → textO refS o = joinP (o.map fun x => decT x.toNat)
 | [], _ => rfl
 | x :: t, h => by
   rw [textO, List.map_cons, strL_ref (h x (List.mem_cons_self ..))]
   have key : ∀ (t : List Int) (p : List Int), (∀ y ∈ t, 0 ≤ y ∧ y ≤ 2147483647) → p ++ t.flatMap (fun y => 46 :: strL (refS y)) = joinP (p :: t.map fun x => decT x.toNat) := by
     intro t
     induction t with
     | nil => intro p _; simp [joinP]
     | cons y t ih =>
       intro p hy
       rw [List.flatMap_cons, List.map_cons, joinP_cons _ (by simp), ← ih (decT y.toNat) fun z hz => hy z (List.mem_cons_of_mem _ hz), strL_ref (hy y (List.mem_cons_self ..))]
       simp
   exact key t _ fun y hy => h y (List.mem_cons_of_mem _ hy)
def frT (l : List Int) : List Int × Int := match numsT (splitP l) with
 | none => ([], 6)
 | some o => if rightO o = true then (o, 0) else ([], 1)
theorem frT_back {l o : List Int} (h : frT l = (o, 0)) : rightO o = true ∧ textO refS o = l := by
 unfold frT at h
 cases h1 : numsT (splitP l) with
 | none => rw [h1] at h; simp at h
 | some q =>
   rw [h1] at h
   dsimp only at h
   by_cases h2 : rightO q = true
   · rw [if_pos h2] at h
     simp only [Prod.mk.injEq, and_true] at h
     subst h
     refine ⟨h2, ?_⟩
     rw [text_join fun x hx => right_in h2 x hx, (numsT_back h1).1, join_split]
   · rw [if_neg h2] at h; simp at h
end Go.Proofs.YtohfhephkjihfaaDoor

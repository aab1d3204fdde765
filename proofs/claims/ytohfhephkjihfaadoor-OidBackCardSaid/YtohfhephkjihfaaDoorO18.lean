/-
  Chapter 04: strings.Split at points; a part's number. The conditions: texts of at most a million bytes.
-/
import Derived.Test.YtohfhephkjihfaaDoorO13
import Derived.Test.YtohfhephkjihfaaDoorSxG
import Derived.Test.YtohfhephkjihfaaDoorShI
import Derived.Test.YtohfhephkjihfaaDoorSxT
import Derived.Test.YtohfhephkjihfaaDoorSxQ
import Derived.Lib.Bytealg
import Derived.Test.YtohfhephkjihfaaDoorW16
namespace Go.Proofs.YtohfhephkjihfaaDoor
set_option linter.unusedSimpArgs false
set_option linter.unusedVariables false
open Go.Sx
set_option maxRecDepth 10000
theorem TabIs_keep {P : Program} {w w' : World} {M : Nat → Prop} (hk : Keep w M w') (hM : ∀ g, ¬ M g) {name : String} {k : IntKind} {zs : List Int} (h : Lib.TabIs P w name k zs) : Lib.TabIs P w' name k zs := by
 unfold Lib.TabIs World.var? at *
 obtain ⟨g, hg, h⟩ := Option.bind_eq_some_iff.1 h
 refine Option.bind_eq_some_iff.2 ⟨g, hg, ?_⟩
 have hlt : g < w.heap.size := by
   rcases Nat.lt_or_ge g w.heap.size with h1 | h1
   · exact h1
   · rw [Array.getElem?_eq_none h1] at h; cases h
 rw [hk.block g hlt (hM g)]
 exact h
def Gp (w : World) : Prop := Lib.TabIs Tryd.prog w "internal/strconv.uint64pow10" .u64 Lib.pow10Tab
theorem Gp_keep {w w' : World} {M : Nat → Prop} (hM : ∀ g, ¬ M g) (h : Gp w) (hk : Keep w M w') : Gp w' := TabIs_keep hk hM h
theorem itoaG {n : Int} (h : 0 ≤ n ∧ n ≤ 2147483647) : CtG Tryd.prog Gp 23 [lv (.int .i64 n)] [] (lv (.string (refS n))) [] [] := by
 refine ⟨rfl, ⟨_, Tryd.func23, by kernel_rfl, rfl⟩, fun w hG β F vs hl ha _ _ _ hnone hF => ?_⟩
 obtain ⟨v, rfl⟩ : ∃ v, vs = [v] := by
   match vs, hl with
   | [v], _ => exact ⟨v, rfl⟩
 have h0 := ha 0 _ v rfl rfl
 have hv : v = .int .i64 n := by cases h0 with | c h0 => cases h0 with | lf h0 => cases h0 with | v _ h0 => rfl
 subst hv
 refine (Tryd.strconv_Itoa n (by omega) (by omega) w hG).mono fun e w' hq => ?_
 obtain ⟨rfl, k, os, rfl⟩ := hq
 rw [itoa_ref h]
 have hblk : ∀ g, g < w.heap.size → (Go.Sort.grow (w.drewN k) os).heap[g]? = w.heap[g]? := fun g hg => by
   show (w.heap ++ os)[g]? = w.heap[g]?
   rw [Array.getElem?_append_left hg]
 have hsz : w.heap.size ≤ (Go.Sort.grow (w.drewN k) os).heap.size := by
   show w.heap.size ≤ (w.heap ++ os).size
   rw [Array.size_append]; omega
 refine ⟨_, β, F, rfl, .c (.lf (.v _ rfl)), fun i b h => by simp at h, fun i b h => by simp at h, fun i hi => rfl, fun i j g hi => absurd hi (by simp), fun j g hj => absurd hj (by simp), fun i g hi => absurd hi (by simp), fun b hb => ⟨Nat.lt_of_lt_of_le (hF b hb) hsz, .inl hb⟩, ⟨rfl, rfl, rfl, hsz, fun g hg _ => hblk g hg, fun g n hc => hc.same (hblk g hc.lt)⟩⟩
theorem text_ofG (o : List Int) (hr : rightO o = true) :
   CtG Tryd.prog Gp 7 [I64 o] [] (.tup [lv (.string (strOfNums (textO refS o))), lv (.int .i64 0)]) [] [] := by
 have hs := refS_size
 have hs1 := refS_pos
 have hI : ∀ x ∈ o, CtG Tryd.prog Gp 23 [lv (.int .i64 x)] [] (lv (.string (refS x))) [] [] := fun x hx => itoaG (right_in hr x hx)
 have hl : o.length ≤ 32 ∧ 2 ≤ o.length := by
   obtain ⟨a, b, t, rfl, _, _, _, _, ht, _⟩ := right_nums hr
   simp; omega
 have h1 := oright_ok o (by omega)
 rw [hr] at h1
 refine CtG_intro Tryd.func7 rfl rfl rfl rfl rfl (fun E hn hb hG hM => ?_)
 have hGs : ∀ w, Keep E.w0 E.M w → Gp w := fun w hk => Gp_keep (fun g hg => by obtain ⟨i, hi, _⟩ := hM g hg; simp at hi) hG hk
 repeat (refine nst ?_)
 refine s_call0 h1 rfl rfl rfl (by rw [hn]; rfl) rfl rfl (by exact vcs) rfl rfl rfl ?_
 repeat (refine nst ?_)
 refine W_cond rfl (by simp) (fun hc => ?_) (fun hc => ?_)
 · simp at hc
 clear hc
 repeat (refine nst ?_)
 refine s_allocT rfl rfl rfl (by rw [hn]; rfl) rfl zok50 ?_
 repeat (refine nst ?_)
 refine W_sr (fun a w h => SR.cell_nilT 5 (cs := [.lf (.v (.pointer none)), .lf (.v (.slice none 0 0))]) (cs' := [.lf (.v (.pointer none)), .town 900 0 0 5]) 68 1 900 rfl rfl rfl rfl rfl h) ?_
 refine W_weaken (St.le_of (l := [(4, .c (.tptr 68 50)), (10, I64 o), (11, lv (.int .i64 (o.length : Int))), (12, lv (.int .i64 ((0 : Nat) : Int)))]) (h := [(68, .cells [adr 68 0, .town 900 0 ([] : List Int).length 5]), (900, .row (.ints .u8 []))]) (by refine ⟨?_, ?_⟩ <;> (repeat' (first | exact trivial | exact rfl | refine ⟨?_, ?_⟩)) <;> first | exact rfl | (simp; done) | skip)) ?_
 refine W_loop (ι := {s : Nat × List Int // s.1 ≤ o.length ∧ s.2 = textO refS (o.take s.1)}) (fun s => St.of [(4, .c (.tptr 68 50)), (10, I64 o), (11, lv (.int .i64 (o.length : Int))), (12, lv (.int .i64 (s.1.1 : Int)))] [(68, .cells [adr 68 s.1.1, .town 900 0 s.1.2.length 5]), (900, .row (.ints .u8 s.1.2))]) (fun s => o.length - s.1.1) (fun s => ?_) ⟨(0, []), by dsimp only; omega, rfl⟩
 obtain ⟨⟨i, acc⟩, hi, he⟩ := s
 dsimp only at hi he ⊢
 repeat (refine nst ?_)
 refine W_cond rfl (by simp) (fun hc => ?_) (fun hc => ?_)
 · have hi2 : i < o.length := by simpa using hc
   have hal : acc.length ≤ 1000 := by
     have := textO_len refS hs (o.take i)
     rw [he]
     simp at this
     omega
   have hxi : o.getD i 0 ∈ o := by rw [List.getD_eq_getElem?_getD, List.getElem?_eq_getElem hi2]; exact List.getElem_mem hi2
   have hIx := hI _ hxi
   have hsx := hs (o.getD i 0)
   match i, hi, he, hi2, hxi, hIx, hsx with
   | 0, hi, he, hi2, hxi, hIx, hsx =>
     have he0 : acc = [] := he
     subst he0
     have hnext : strL (refS (o.getD 0 0)) = textO refS (o.take (0 + 1)) := by
       match o, hi2 with
       | x :: t, _ => simp [textO]
     generalize hX : o.getD 0 0 = x at *
     generalize hFX : refS x = F at *
     have hw := writeString_ok (p := nilC) (.inl rfl) [] F (by simp) (by omega)
     repeat (refine nst ?_)
     rw [show o.getD (Int.toNat ((0 : Nat) : Int)) 0 = x from hX]
     refine W_cond rfl (by simp) (fun h2 => ?_) (fun h2 => ?_)
     · simp at h2
     repeat (refine nst ?_)
     refine s_callG [] hIx hGs rfl rfl (by rw [hn]; rfl) rfl rfl (by trivial) ⟨rfl, trivial, trivial, rfl⟩ ?_
     repeat (refine nst ?_)
     refine s_callM [68, 900] hw rfl rfl (by rw [hn]; rfl) rfl rfl (by trivial) ⟨rfl, ⟨rfl, rfl⟩, (by simp [ordL]), rfl⟩ ?_
     repeat (refine nst ?_)
     refine N_sr (fun a w h => SR.mv 86 900 rfl rfl rfl rfl rfl h) ?_
     exact N_round ⟨(0 + 1, [] ++ strL F), by dsimp only; omega, hnext⟩ (by dsimp only; omega) (St.le_of ⟨⟨rfl, rfl, rfl, rfl⟩, ⟨by dsimp only; rw [List.length_append, strL_len]; rfl, rfl⟩⟩)
   | i + 1, hi, he, hi2, hxi, hIx, hsx =>
     have hnext := textO_take refS hi2 (by omega)
     rw [← he] at hnext
     generalize hX : o.getD (i + 1) 0 = x at *
     generalize hFX : refS x = F at *
     have hb1 := writeByte_ok (p := .ptr 0 0) (.inr rfl) acc (by omega) 46 (by decide)
     have hw := writeString_ok (p := .ptr 0 0) (.inr rfl) (acc ++ [46]) F (by simp; omega) (by omega)
     have e1 : acc.length + 1 = (acc ++ [46]).length := by simp
     rw [e1] at hb1
     have e2 : (acc ++ [46]) ++ strL F = acc ++ 46 :: strL F := by simp
     rw [e2] at hw
     have e3 : (acc ++ [46]).length + F.size = (acc ++ 46 :: strL F).length := by simp [strL_len]; omega
     rw [e3] at hw
     repeat (refine nst ?_)
     rw [show o.getD (Int.toNat ((i + 1 : Nat) : Int)) 0 = x from hX]
     refine W_cond rfl (by simp) (fun h2 => ?_) (fun h2 => ?_)
     · repeat (refine nst ?_)
       refine s_callM [68, 900] hb1 rfl rfl (by rw [hn]; rfl) rfl rfl (by trivial) ⟨rfl, ⟨rfl, rfl⟩, (by simp [ordL]), rfl⟩ ?_
       repeat (refine nst ?_)
       refine WL_sr (fun a w h => SR.mv 83 900 rfl rfl rfl rfl rfl h) ?_
       refine s_callG [] hIx hGs rfl rfl (by rw [hn]; rfl) rfl rfl (by trivial) ⟨rfl, trivial, trivial, rfl⟩ ?_
       repeat (refine nst ?_)
       refine s_callM [68, 900] hw rfl rfl (by rw [hn]; rfl) rfl rfl (by trivial) ⟨rfl, ⟨rfl, rfl⟩, (by simp [ordL]), rfl⟩ ?_
       repeat (refine nst ?_)
       refine N_sr (fun a w h => SR.mv 86 900 rfl rfl rfl rfl rfl h) ?_
       exact N_round ⟨(i + 1 + 1, acc ++ 46 :: strL F), by dsimp only; omega, hnext.symm⟩ (by dsimp only; omega) (St.le_of ⟨⟨rfl, rfl, rfl, rfl⟩, ⟨rfl, rfl⟩⟩)
     · simp at h2
 · have hi2 : i = o.length := by simp at hc; omega
   subst hi2
   rw [List.take_length] at he
   subst he
   have hne : textO refS o ≠ [] := by
     obtain ⟨a, b, t, rfl, _⟩ := right_nums hr
     have := hs1 a
     intro h
     have h3 := congrArg List.length h
     simp [textO, strL_len] at h3
     try omega
   have hst := string_ok (textO refS o) (by have := textO_len refS hs o; omega) hne (textO_wf refS o)
   have hi0 : ∃ k, o.length = k + 1 := ⟨o.length - 1, by omega⟩
   obtain ⟨k, hk⟩ := hi0
   rw [show adr 68 o.length = .ptr 68 0 from by rw [hk]; rfl]
   repeat (refine nst ?_)
   refine s_callX [68, 900] hst hb rfl rfl rfl rfl (by rw [hn]; rfl) rfl rfl (by trivial) ⟨rfl, ⟨rfl, rfl⟩, by simp [ordL], rfl⟩ ?_
   repeat (refine nst ?_)
   exact rt1 []

theorem samA_ok (a : List Int) (ha : a.length ≤ 1000000) : Ct Tryd.prog 16 [B8 a, B8 a] [] (lv (.bool true)) [] [] := by
 have h := same_ok a a ha ha
 rwa [show decide (a = a) = true from decide_eq_true rfl] at h
theorem wrapO_len (t : TagP) (X : List Int) : (wrapL t X).length ≤ X.length + 20 := by
 have h1 := lowD_len 128 5 t.2.1.toNat
 have h2 := lowD_len 256 5 X.length
 have hT5 : (tgL t).length ≤ 10 := by
   unfold tgL
   split
   · simp
   · simp [hiL_len]; omega
 have hL5 : (lenL X.length).length ≤ 10 := by
   generalize X.length = n at *
   unfold lenL
   split
   · simp
   · simp; omega
 simp only [wrapL, List.length_append]
 omega

def splitP : List Int → List (List Int)
 | [] => [[]]
 | x :: l => if x = 46 then [] :: splitP l else match splitP l with | [] => [[x]] | p :: ps => (x :: p) :: ps
theorem splitP_ne : ∀ l, splitP l ≠ []
 | [] => by simp [splitP]
 | x :: l => by
   rw [splitP]
   split
   · simp
   · split <;> simp
def ptI : List Int → Int
 | [] => -1
 | x :: l => if x = 46 then 0 else if ptI l < 0 then -1 else ptI l + 1
theorem ptI_ge : ∀ l, -1 ≤ ptI l ∧ ptI l < l.length
 | [] => by simp [ptI]
 | x :: l => by
   have := ptI_ge l
   rw [ptI]
   simp only [List.length_cons]
   split
   · omega
   · split <;> omega
theorem splitP_no : ∀ {l}, ptI l < 0 → splitP l = [l]
 | [], _ => rfl
 | x :: l, h => by
   rw [ptI] at h
   rw [splitP]
   by_cases h1 : x = 46
   · rw [if_pos h1] at h; omega
   · rw [if_neg h1] at h ⊢
     have h2 : ptI l < 0 := by
       by_cases h2 : ptI l < 0
       · exact h2
       · rw [if_neg h2] at h; omega
     rw [splitP_no h2]
theorem splitP_at : ∀ {l} {k : Nat}, ptI l = k → splitP l = l.take k :: splitP (l.drop (k + 1))
 | [], k, h => by simp [ptI] at h
 | x :: l, k, h => by
   rw [ptI] at h
   rw [splitP]
   by_cases h1 : x = 46
   · rw [if_pos h1] at h ⊢
     obtain rfl : k = 0 := by omega
     simp
   · rw [if_neg h1] at h ⊢
     by_cases h2 : ptI l < 0
     · rw [if_pos h2] at h; omega
     · rw [if_neg h2] at h
       obtain ⟨m, rfl⟩ : ∃ m, k = m + 1 := ⟨k - 1, by omega⟩
       rw [splitP_at (l := l) (k := m) (by omega)]
       simp
theorem splitP_len : ∀ l, (splitP l).length = l.count 46 + 1
 | [] => by simp [splitP]
 | x :: l => by
   have ih := splitP_len l
   rw [splitP]
   by_cases h1 : x = 46
   · rw [if_pos h1, h1]; simp [ih]
   · rw [if_neg h1, List.count_cons_of_ne h1]
     have := splitP_ne l
     match hs : splitP l with
     | [] => exact absurd hs this
     | p :: ps => rw [hs] at ih; simpa using ih
def numT (p : List Int) : Option Nat :=
 if p.length = 0 ∨ 10 < p.length ∨ (p.getD 0 0 = 48 ∧ 1 < p.length) then none else if p.all isDig = true then some (decV p) else none
theorem numT_dec {n : Nat} (h : n < 2147483648) : numT (decT n) = some n := by
 have h1 := decT_len h
 have h2 := decT_pos n
 by_cases h0 : n = 0
 · subst h0; rfl
 · have e : decT n = (decL n).reverse := if_neg h0
   obtain ⟨a, x, ea, hx⟩ := decL_last n n (Nat.le_refl _) h0
   unfold numT
   rw [if_neg]
   · rw [e, if_pos (by rw [List.all_reverse]; exact decL_isDig n n (Nat.le_refl _)), decV_decL n n (Nat.le_refl _)]
   · rintro (h3 | h3 | ⟨h3, _⟩)
     · omega
     · omega
     · rw [e, ea] at h3
       simp at h3
       omega
theorem numT_back {p : List Int} {n : Nat} (h : numT p = some n) : decT n = p := by
 unfold numT at h
 by_cases h1 : p.length = 0 ∨ 10 < p.length ∨ (p.getD 0 0 = 48 ∧ 1 < p.length)
 · rw [if_pos h1] at h; cases h
 · rw [if_neg h1] at h
   by_cases h2 : p.all isDig = true
   · rw [if_pos h2] at h
     have h := Option.some.inj h
     subst h
     by_cases h3 : p = [48]
     · subst h3; rfl
     · have hne : ∀ x t, p = x :: t → x ≠ 48 := fun x t e hx => by
         subst e
         subst hx
         cases t with
         | nil => exact h3 rfl
         | cons y t => exact h1 (.inr (.inr ⟨rfl, by simp⟩))
       have e := decL_decV p.length p (Nat.le_refl _) h2 hne
       unfold decT
       rw [if_neg, e, List.reverse_reverse]
       intro h0
       rw [h0, decL_zero] at e
       have : p = [] := by simpa using e.symm
       subst this
       exact h1 (.inl rfl)
   · rw [if_neg h2] at h; cases h
def numsT : List (List Int) → Option (List Int)
 | [] => some []
 | p :: ps => match numT p with | none => none | some n => (match numsT ps with | none => none | some ns => some ((n : Int) :: ns))
def joinP : List (List Int) → List Int
 | [] => []
 | [p] => p
 | p :: q :: ps => p ++ 46 :: joinP (q :: ps)
theorem joinP_cons (p : List Int) {ps : List (List Int)} (h : ps ≠ []) : joinP (p :: ps) = p ++ 46 :: joinP ps := by
 match ps, h with
 | q :: ps, _ => rfl
theorem split_part : ∀ {p : List Int}, (∀ x ∈ p, x ≠ 46) → splitP p = [p]
 | [], _ => rfl
 | x :: p, h => by
   rw [splitP, if_neg (h x (List.mem_cons_self ..)), split_part fun y hy => h y (List.mem_cons_of_mem _ hy)]
theorem split_app : ∀ {p : List Int} (l : List Int), (∀ x ∈ p, x ≠ 46) → splitP (p ++ 46 :: l) = p :: splitP l
 | [], l, _ => by simp [splitP]
 | x :: p, l, h => by
   rw [List.cons_append, splitP, if_neg (h x (List.mem_cons_self ..)), split_app l fun y hy => h y (List.mem_cons_of_mem _ hy)]
theorem split_join : ∀ {ps : List (List Int)}, ps ≠ [] → (∀ p ∈ ps, ∀ x ∈ p, x ≠ 46) → splitP (joinP ps) = ps
 | [p], _, h => split_part (h p (List.mem_cons_self ..))
 | p :: q :: ps, _, h => by
   rw [joinP, split_app _ (h p (List.mem_cons_self ..)), split_join (by simp) fun r hr => h r (List.mem_cons_of_mem _ hr)]
theorem numsT_dec : ∀ {o : List Int}, (∀ x ∈ o, 0 ≤ x ∧ x ≤ 2147483647) → numsT (o.map fun x => decT x.toNat) = some o
 | [], _ => rfl
 | x :: o, h => by
   have hx := h x (List.mem_cons_self ..)
   rw [List.map_cons, numsT, numT_dec (by omega), numsT_dec fun y hy => h y (List.mem_cons_of_mem _ hy)]
   dsimp only
   rw [Int.toNat_of_nonneg hx.1]
theorem numsT_back : ∀ {ps : List (List Int)} {o : List Int}, numsT ps = some o → (o.map fun x => decT x.toNat) = ps ∧ (∀ x ∈ o, 0 ≤ x)
 | [], o, h => by simp [numsT] at h; subst h; exact ⟨rfl, fun x hx => by cases hx⟩
 | p :: ps, o, h => by
   rw [numsT] at h
   cases h1 : numT p with
   | none => rw [h1] at h; cases h
   | some n =>
     rw [h1] at h
     cases h2 : numsT ps with
     | none => rw [h2] at h; cases h
     | some ns =>
       rw [h2] at h
       have h := Option.some.inj h
       subst h
       obtain ⟨e1, e2⟩ := numsT_back h2
       refine ⟨by rw [List.map_cons, Int.toNat_natCast, numT_back h1, e1], fun x hx => ?_⟩
       rcases List.mem_cons.1 hx with rfl | hx
       · omega
       · exact e2 x hx
theorem decT_no46 (n : Nat) : ∀ x ∈ decT n, x ≠ 46 := by
 intro x hx
 unfold decT at hx
 split at hx
 · simp at hx; omega
 · have := List.all_eq_true.1 (decL_isDig n n (Nat.le_refl _)) x (List.mem_reverse.1 hx)
   simp [isDig] at this
   omega
theorem text_join : ∀ {o : List Int}, (∀ x ∈ o, 0 ≤ x ∧ x ≤ 2147483647) → textO refS o = joinP (o.map fun x => decT x.toNat)
 | [], _ => rfl
 | x :: t, h => by
   rw [textO, List.map_cons, strL_ref (h x (List.mem_cons_self ..))]
   have key : ∀ (t : List Int) (p : List Int), (∀ y ∈ t, 0 ≤ y ∧ y ≤ 2147483647) → p ++ t.flatMap (fun y => 46 :: strL (refS y)) = joinP (p :: t.map fun x => decT x.toNat) := by
     intro t
     induction t with
     | nil => intro p _; simp [joinP]
     | cons y t ih =>
       intro p hy
       rw [List.flatMap_cons, List.map_cons, joinP_cons _ (by simp), ← ih (decT y.toNat) fun z hz => hy z (List.mem_cons_of_mem _ hz), strL_ref (hy y (List.mem_cons_self ..))]
       simp
   exact key t _ fun y hy => h y (List.mem_cons_of_mem _ hy)
def frT (l : List Int) : List Int × Int := match numsT (splitP l) with
 | none => ([], 6)
 | some o => if rightO o = true then (o, 0) else ([], 1)
theorem frT_text {o : List Int} (h : rightO o = true) : frT (textO refS o) = (o, 0) := by
 have hin : ∀ x ∈ o, 0 ≤ x ∧ x ≤ 2147483647 := fun x hx => right_in h x hx
 have hne : o.map (fun x => decT x.toNat) ≠ [] := by
   intro e
   have : o = [] := List.map_eq_nil_iff.1 e
   rw [this] at h
   cases h
 unfold frT
 rw [text_join hin, split_join hne fun p hp x hx => by
   obtain ⟨n, _, rfl⟩ := List.mem_map.1 hp
   exact decT_no46 _ x hx, numsT_dec hin]
 dsimp only
 rw [if_pos h]
end Go.Proofs.YtohfhephkjihfaaDoor

namespace Go.Sx
open Go
set_option linter.unusedVariables false
set_option linter.unusedSimpArgs false
section
variable {P : Program} {E : Env} {ops : Array Oper} {Q : Exit → Act → World → Prop} {rest : List Oper} {o : Oper} {σ : St}
theorem opy_ext2 {c : Call} {f : FuncId} {fn : Func} {x y : Operand} {px py : List Prop} {u v r : Value} {ext : Array Value → Sem Value} (hop : o.op = .call c) (hcv : c.callee = .value (.func f)) (ha : c.args = #[x, y]) (hf : P.funcs[f]? = some fn) (hname : (fn.name == "runtime.NumGoroutine") = false)
   (hb : fn.body.isNone = true) (hn : Extern.findNext fn = none) (he : Extern.find fn = some ext) (hx : ox σ x = (px, lv u)) (hy : ox σ y = (py, lv v)) (hp : AllP (px ++ py)) (hr : ∀ w, (ext #[u, v]).run P w = .ok r w) (h1 : r.oneCell' = true) : OpY P E o σ (lv r) := by
 refine opy_run fun β F a w hS => ?_
 have hv1 := oxR hS x
 rw [hx] at hv1
 have hv1 := (hv1 hp.left).val
 have hv2 := oxR hS y
 rw [hy] at hv2
 have hv2 := (hv2 hp.right).val
 refine ⟨r, ?_, .c (.lf (.v _ h1))⟩
 have hev : a.eval (.func f) = .func (.func f) #[] #[] := rfl
 simp only [execOp, hop, resolve, hcv, hev, ha, Deferred.ofValue, Sem.run_bind, Sem.run_pure, Result.andThen_ok, invoke]
 simp only [List.map_toArray, List.map_cons, List.map_nil, Array.empty_append, Array.append_empty, hv1, hv2]
 rw [run_callFunc_extern hf hname hb hn he, hr]
 rfl
theorem s_makeS {t e : TypeId} {x y : Operand} {dd : Option Nat} {px py : List Prop} {u : ByteArray} {kl kc : IntKind} {n : Int} {by_ : Nat} (m : Nat) (hop : o.op = .makeSlice t x y) (hg : o.guard = none) (hdf : forceO o.dst some = some dd) (hd : dstOk E.n dd = true) (hE : Elt P t e 1 by_) (hz : (P.info? e).bind (·.zero) = some (.string u))
   (hx : ox (σ.kill (nk dd 0)) x = (px, lv (.int kl n))) (hy : ox (σ.kill (nk dd 0)) y = (py, lv (.int kc n))) (hp : AllP (px ++ py)) (hm : n = m) (hn : n ≤ 9223372036854775807 ∧ (by_ : Int) * n ≤ 281474976710656)
   (hk : WL P E ops Q rest (((σ.kill (nk dd 0)).seth (nk dd 0) (.row (.recs 1 (List.replicate m [.v (.string u)])))).put dd (.c (.own (nk dd 0) 1 0 m)))) : WL P E ops Q (o :: rest) σ := by
 simp only [forceO_eq, Option.some.injEq] at hdf
 subst hdf
 subst hm
 refine WL_step hg _ (fun a w hS => ?_) hk
 obtain ⟨β, F, hS⟩ := hS
 obtain ⟨β', hS', h1, h2, h3⟩ := hS.fresh o.dst
 have hv1 := oxR hS' x
 rw [show fresh σ o.dst = σ.kill (nk o.dst 0) from rfl, hx] at hv1
 have hv1 := (hv1 hp.left).val
 have hv2 := oxR hS' y
 rw [show fresh σ o.dst = σ.kill (nk o.dst 0) from rfl, hy] at hv2
 have hv2 := (hv2 hp.right).val
 obtain ⟨ht, i, z, hi, hz', hsz, hby, _⟩ := hE
 have : z = .string u := by simpa [hi, hz'] using hz
 subst this
 obtain ⟨c3, c4⟩ := hn
 have hrun := run_make (P := P) w t e i (.string u) ht hi hz' kl kc (m : Int) (m : Int) (by omega) (Int.le_refl _) (by rw [hby]; exact c4) c3
 simp only [hsz, Nat.mul_one] at hrun
 have hget : ∀ j, j < m → (madeCells (Value.string u).cells m)[j]? = some (.string u) := fun j hj => by
   simp [madeCells, Value.cells, hj, Nat.mod_one]
 obtain ⟨β2, hS2, h4⟩ := newRow' (t := e) (cur := madeCells (Value.string u).cells m) (vs := List.replicate m (Value.string u)) (d := .recs 1 (List.replicate m [.v (.string u)])) hS' h1 h2 h3 ⟨by simp, fun r hr => by rw [List.eq_of_mem_replicate hr]; rfl, fun i r k x hi hk => by
   rw [List.getElem?_replicate] at hi
   split at hi
   · rename_i hlt
     cases hi
     cases k with
     | zero => simp at hk; subst hk; exact ⟨.string u, by simp [hlt], .v _ rfl⟩
     | succ k => simp at hk
   · cases hi⟩ (fun j v hv => by
   rw [List.getElem?_replicate] at hv
   split at hv
   · rename_i hj
     rw [hget j hj]; exact hv
   · cases hv)
 simp only [Int.toNat_natCast] at hrun
 refine ⟨.slice (some ⟨w.heap.size, 0, none⟩) m m, w.alloc (.cells (madeCells (Value.string u).cells m) e), ?_, β2, F, hS2.put (.c (.own _ _ _ _ _ _ (Nat.le_refl _) (by simp only [maxLen]; omega) ?_)) (dstOk_lt hd)⟩
 · simp only [execOp, hop, hv1, hv2, Sem.run_bind, hrun, Result.andThen_ok]
   rfl
 · refine .inr ⟨_, h4, rfl, _, row_alloc _ _, ?_⟩
   simp [madeCells]
end
end Go.Sx

namespace Go.Proofs.YtohfhephkjihfaaDoor
set_option linter.unusedSimpArgs false
set_option linter.unusedVariables false
open Go Go.Sx
set_option maxRecDepth 10000
abbrev dotS : ByteArray := ByteArray.mk #[46]
abbrev strA (l : List Int) : Av := lv (.string (strOfNums l))
theorem str_data (l : List Int) : (strOfNums l).data.toList = l.map fun n => UInt8.ofNat n.toNat := by simp [strOfNums]
theorem u8_46 {x : Int} (h : 0 ≤ x ∧ x < 256) : (UInt8.ofNat x.toNat == (46 : Int).toNat.toUInt8) = decide (x = 46) := by
 obtain ⟨n, rfl⟩ : ∃ n : Nat, x = n := ⟨x.toNat, by omega⟩
 have key : ∀ n : Fin 256, (UInt8.ofNat ((n.val : Nat) : Int).toNat == (46 : Int).toNat.toUInt8) = decide (((n.val : Nat) : Int) = 46) := by decide +kernel
 exact key ⟨n, by omega⟩
theorem cnt46 : ∀ {l : List Int}, WfB l → Lib.countByte (strOfNums l).data.toList (46 : Int).toNat.toUInt8 = l.count 46
 | [], _ => by simp [str_data, Lib.countByte]
 | x :: l, h => by
   have ih := cnt46 (l := l) fun y hy => h y (List.mem_cons_of_mem _ hy)
   rw [str_data] at ih ⊢
   unfold Lib.countByte at ih ⊢
   rw [List.map_cons, List.count_cons, List.count_cons, ih, u8_46 (h x (List.mem_cons_self ..))]
   congr 1
theorem idx46 : ∀ {l : List Int}, WfB l → Lib.indexByte (strOfNums l).data.toList (46 : Int).toNat.toUInt8 = ptI l
 | [], _ => by simp [str_data, Lib.indexByte, ptI]
 | x :: l, h => by
   have ih := idx46 (l := l) fun y hy => h y (List.mem_cons_of_mem _ hy)
   have hge := (ptI_ge l).1
   rw [str_data] at ih ⊢
   rw [List.map_cons, Lib.indexByte, ih, u8_46 (h x (List.mem_cons_self ..)), ptI]
   by_cases hx : x = 46
   · simp [hx]
   · simp only [hx, decide_false, Bool.false_eq_true, if_false]
     by_cases h2 : ptI l < 0
     · rw [if_pos h2, if_pos (by simp; omega)]
     · rw [if_neg h2, if_neg (by simp; omega)]
theorem count46_ok (l : List Int) (hl : l.length ≤ 1000000) (hw : WfB l) : Ct Tryd.prog 54 [strA l, lv (.string dotS)] [] (lv (.int .i64 ((l.count 46 : Nat) : Int))) [] [] := by
 have hd : (dotS.size : Int) = 1 := rfl
 have hbs : bs dotS = [46] := rfl
 have hr : ∀ w, (Extern.BytealgCount.count #[.string (strOfNums l), .int .u8 46]).run Tryd.prog w = .ok (.int .i64 ((l.count 46 : Nat) : Int)) w := fun w => by
   rw [Lib.run_countString, cnt46 hw]
 refine Ct_intro Tryd.func54 rfl rfl rfl rfl rfl (fun E hn hb => ?_)
 repeat (first | refine nx ?_ | rw [hd])
 refine WL_q (opq_of (opy_ext2 (fn := Tryd.f69) (u := .string (strOfNums l)) (v := .int .u8 46) rfl rfl rfl Tryd.func69 (by kernel_rfl) (by kernel_rfl) (by kernel_rfl) (by kernel_rfl) rfl rfl (by trivial) hr rfl) rfl) (by rw [hn]; rfl) ?_
 repeat refine nx ?_
 exact rt1 []
theorem idxB_ok (l : List Int) (hl : l.length ≤ 1000000) (hw : WfB l) : Ct Tryd.prog 84 [strA l, lv (.int .u8 46)] [] (lv (.int .i64 (ptI l))) [] [] := by
 have hr : ∀ w, (Extern.BytealgIndexByte.indexByte #[.string (strOfNums l), .int .u8 46]).run Tryd.prog w = .ok (.int .i64 (ptI l)) w := fun w => by
   rw [Lib.run_indexByteString, idx46 hw]
 refine Ct_intro Tryd.func84 rfl rfl rfl rfl rfl (fun E hn hb => ?_)
 repeat refine nx ?_
 refine WL_q (opq_of (opy_ext2 (fn := Tryd.f93) (u := .string (strOfNums l)) (v := .int .u8 46) rfl rfl rfl Tryd.func93 (by kernel_rfl) (by kernel_rfl) (by kernel_rfl) (by kernel_rfl) rfl rfl (by trivial) hr rfl) rfl) (by rw [hn]; rfl) ?_
 repeat refine nx ?_
 exact rt1 []
theorem sidx_ok (l : List Int) (hl : l.length ≤ 1000000) (hw : WfB l) : Ct Tryd.prog 70 [strA l, lv (.string dotS)] [] (lv (.int .i64 (ptI l))) [] [] := by
 have hd : (dotS.size : Int) = 1 := rfl
 have hbs : bs dotS = [46] := rfl
 have h1 := idxB_ok l hl hw
 have he : (dotS.toList == (strOfNums l).toList) = decide (l = [46]) := by
   have := byte_string_eq [46] l (fun x hx => by simp at hx; omega) hw
   rw [show dotS = strOfNums [46] from rfl, this]
   rw [Bool.eq_iff_iff]
   simp [eq_comm]
 by_cases h46 : l = [46]
 · subst h46
   refine Ct_intro Tryd.func70 rfl rfl rfl rfl rfl (fun E hn hb => ?_)
   repeat (first | refine nx ?_ | rw [hd] | rw [he])
   trace_state
   exact rt1 []
 · rw [decide_eq_false h46] at he
   refine Ct_intro Tryd.func70 rfl rfl rfl rfl rfl (fun E hn hb => ?_)
   repeat (first | refine nx ?_ | rw [hd] | rw [he])
   trace_state
   exact rt1 []
theorem index46_ok (l : List Int) (hl : l.length ≤ 1000000) (hw : WfB l) : Ct Tryd.prog 55 [strA l, lv (.string dotS)] [] (lv (.int .i64 (ptI l))) [] [] := by
 have h1 := sidx_ok l hl hw
 refine Ct_intro Tryd.func55 rfl rfl rfl rfl rfl (fun E hn hb => ?_)
 repeat refine nx ?_
 exact rt1 []
end Go.Proofs.YtohfhephkjihfaaDoor

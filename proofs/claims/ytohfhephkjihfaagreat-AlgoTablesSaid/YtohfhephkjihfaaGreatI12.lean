/-
  Chapter 18: the program's table is the document's, whatever the order of its names. Plain. The conditions: names and secrets of a few bytes.
-/
import Derived.Test.YtohfhephkjihfaaGreatSxO
import Derived.Test.YtohfhephkjihfaaGreatI1
import Derived.Test.YtohfhephkjihfaaGreatA37
import Derived.Test.YtohfhephkjihfaaGreatM10
import Derived.Test.YtohfhephkjihfaaGreatB15
namespace Go.Proofs.YtohfhephkjihfaaGreat
set_option linter.unusedSimpArgs false
set_option linter.unusedVariables false
open Go Go.Sx
set_option maxRecDepth 10000
theorem setM_new {s : ByteArray} {x : Leaf} : ∀ {es : MapL}, s ∉ es.map (·.1) → setM es s x = es ++ [(s, x)]
 | [], _ => rfl
 | (k, y) :: es, h => by
   simp only [List.map_cons, List.mem_cons, not_or] at h
   unfold setM
   rw [if_neg h.1, setM_new h.2]
   rfl
abbrev dfM : ByteArray × Leaf := (default, .v (.bool false))
def atM (es : MapL) (d : List Nat) : MapL := d.map fun i => es.getD i dfM
theorem atM_next {es : MapL} {d : List Nat} {i : Nat} {n : ByteArray} {y : Leaf} (h : es[i]? = some (n, y)) : atM es (d ++ [i]) = atM es d ++ [(n, y)] := by
 simp [atM, List.getD_eq_getElem?_getD, h]
theorem atM_not {es : MapL} {d : List Nat} {i : Nat} {n : ByteArray} {y : Leaf} (hn : (es.map (·.1)).Nodup) (hd : ∀ j ∈ d, j < es.length) (h : es[i]? = some (n, y)) (hi : i ∉ d) : n ∉ (atM es d).map (·.1) := by
 intro hm
 simp only [atM, List.map_map, List.mem_map, Function.comp_apply] at hm
 obtain ⟨j, hj, e⟩ := hm
 have hlt := hd j hj
 have hil : i < es.length := (List.getElem?_eq_some_iff.1 h).1
 have e1 : (es.map (·.1))[j]? = some n := by
   rw [List.getElem?_map, List.getElem?_eq_getElem hlt, ← e, List.getD_eq_getElem?_getD, List.getElem?_eq_getElem hlt]
   rfl
 have e2 : (es.map (·.1))[i]? = some n := by rw [List.getElem?_map, h]; rfl
 exact hi ((List.getElem?_inj (by simpa using hlt) hn).1 (e1.trans e2.symm) ▸ hj)
theorem atM_all {es : MapL} {d : List Nat} (hn : d.Nodup) (hd : ∀ j ∈ d, j < es.length) (ha : ∀ i, i < es.length → i ∈ d) : (atM es d).Perm es := by
 have h1 : d.Perm (List.range es.length) := (List.perm_ext_iff_of_nodup hn List.nodup_range).2 fun i => by
   rw [List.mem_range]
   exact ⟨hd i, ha i⟩
 have h2 : (List.range es.length).map (fun i => es.getD i dfM) = es := by
   apply List.ext_getElem
   · simp
   · intro i h1 h2
     simp [List.getD_eq_getElem?_getD, List.getElem?_eq_getElem h2]
 have h3 := h1.map fun i => es.getD i dfM
 rwa [h2] at h3
def leftN (n : Nat) (d : List Nat) : Nat := ((List.range n).filter fun i => !d.contains i).length
theorem leftN_next {n i : Nat} {d : List Nat} (hi : i < n) (hd : i ∉ d) : leftN n (d ++ [i]) < leftN n d := by
 refine filter_lt (fun i => !d.contains i) (fun j => !(d ++ [i]).contains j) (fun x hx => ?_) i ?_ ?_ _ (List.mem_range.2 hi)
 · simp at hx ⊢
   exact hx.1
 · simpa using hd
 · simp
set_option maxHeartbeats 8000000 in
theorem tcopy_ok (es : MapL) (hv : ∀ p ∈ es, ∃ s, p.2 = .ints .u8 s ∧ s.length ≤ 1000) : Ct Tryz.prog 16 [.c (.ptr 0 0)] [tabB, .map es] (.c (.ptr 2 0)) [tabB, .map es] [.cells [.map 3], .map es] := by
 have hnew := tnew_ok
 refine Ct_intro Tryz.func16 rfl rfl rfl rfl rfl (fun E hn hb => ?_)
 repeat refine nxm ?_
 refine WL_openM (j := 1) rfl fun g ms ck es' hp hnd => ?_
 refine s_range rfl rfl (by rw [hn]; rfl) Tryz.underlying51 rfl (by trivial) rfl (by intro h; simp [nk]; omega) fun r => ?_
 repeat refine nxm ?_
 refine W_weaken (St.le_of (l := [(3, .c (.ptr 70 0)), (13, .c (.ptr 77 0))]) (h := [(0, tabB), (1, .mapS g ms ck es'), (70, .cells [.map 1070]), (1070, .map (atM es' [])), (77, .raw r (.mapIter (some g) ck (seenO ms []) ck))]) (by refine ⟨?_, ?_⟩ <;> (repeat' (first | exact trivial | exact rfl | refine ⟨?_, ?_⟩)) <;> first | exact rfl | (simp; done) | skip)) ?_
 refine W_loop (ι := {d : List Nat // d.Nodup ∧ ∀ j ∈ d, j < es'.length}) (fun d => St.of [(3, .c (.ptr 70 0)), (13, .c (.ptr 77 0))] [(0, tabB), (1, .mapS g ms ck es'), (70, .cells [.map 1070]), (1070, .map (atM es' d.1)), (77, .raw r (.mapIter (some g) ck (seenO ms d.1) ck))]) (fun d => leftN es'.length d.1) (fun d => ?_) ⟨[], by simp, by simp⟩
 obtain ⟨d, hd1, hd2⟩ := d
 dsimp only
 repeat refine nxm ?_
 refine s_next (j := 1) (k := 77) (d := d) rfl rfl (by rw [hn]; rfl) rfl (by trivial) rfl (Nat.le_refl _) rfl hd2 (fun hall => ?_) (fun i n y hi hid => ?_)
 · repeat refine nxm ?_
   refine N_sr (fun a w h => (h.permM (j := 1070) (es := es) rfl ((atM_all hd1 hd2 hall).trans hp)).closeM (j := 1) (es := es) rfl hp) ?_
   exact rt1 [70, 1070]
 · have hil : i < es'.length := (List.getElem?_eq_some_iff.1 hi).1
   have hnm := atM_not hnd hd2 hi hid
   have hnx := atM_next (d := d) hi
   obtain ⟨s, rfl, hs⟩ : ∃ s, y = .ints .u8 s ∧ s.length ≤ 1000 := hv (n, y) (hp.mem_iff.1 (List.mem_of_getElem? hi))
   have hcl := clone_ok s (by omega)
   have hst := setM_new (x := .ints .u8 s) hnm
   rw [← hnx] at hst
   repeat refine nxm ?_
   refine s_entry (j := 1) (k := 77) (d := d) (i := i) rfl rfl (by rw [hn]; rfl) rfl (by trivial) rfl rfl hi ?_
   repeat (first | refine du3D [] [(7, 1070)] ?_ | refine nxm ?_)
   refine N_round ⟨d ++ [i], ?_, ?_⟩ (leftN_next hil hid) (St.le_of ⟨⟨rfl, rfl⟩, ⟨rfl, rfl, rfl, ?_, rfl⟩⟩)
   · rw [List.nodup_append]
     exact ⟨hd1, by simp, fun a ha b hb => by simp at hb; rintro rfl; rw [hb] at ha; exact hid ha⟩
   · intro j hj
     rcases List.mem_append.1 hj with h | h
     · exact hd2 j h
     · rw [List.mem_singleton.1 h]; exact hil
   · dsimp only
     rw [← hst]
     rfl

abbrev bsR (k : ByteArray) : List Leaf := [.ints .u8 (bs k)]
abbrev sR (k : ByteArray) : List Leaf := [.v (.string k)]
theorem names_any (es : MapL) (hks : ∀ p ∈ es, p.1.size ≤ 1000) (hes : es.length ≤ 10000) : Ct Tryz.prog 17 [.c (.ptr 0 0)] [tabB, .map es] (.c (.lf (.recs 1 ((srtK es).map bsR)))) [tabB, .map es] [] := by
 have h1 := keys_ok es
 have h2 := skeysA_ok es (fun p hp => by have := hks p hp; omega) (by omega)
 have hl := srtK_len es
 have hsz : ∀ k ∈ srtK es, k.size ≤ 1000 := fun k hk => by
   unfold srtK at hk
   obtain ⟨l, hl1, rfl⟩ := List.mem_map.1 hk
   have := (List.mergeSort_perm (keyBs es) leB8).mem_iff.1 hl1
   unfold keyBs at this
   obtain ⟨p, hp, rfl⟩ := List.mem_map.1 this
   exact hks p hp
 change Ct _ _ _ _ (.c (.lf (.recs 1 ((srtK es).map sR)))) _ _ at h2
 generalize hK : srtK es = ks at *
 refine Ct_intro Tryz.func17 rfl rfl rfl rfl rfl (fun E hn hb => ?_)
 repeat refine nx ?_
 refine s_call [76, 1] h2 rfl rfl (by rw [hn]; rfl) rfl rfl (by trivial) ⟨rfl, ⟨rfl, rfl⟩, by simp [ordL], rfl⟩ ?_
 repeat refine nx ?_
 have hlm : ((ks.map sR).length : Int) = (ks.length : Int) := by simp
 rw [hlm]
 refine W_own_nil 3 95 1 (.recs 1 []) rfl rfl (.inr (.inr ⟨_, rfl⟩)) ?_
 refine W_weaken (St.le_of (l := [(3, .c (.own 95 1 0 ((([] : List ByteArray).map bsR).length))), (13, .c (.lf (.recs 1 (ks.map sR)))), (14, lv (.int .i64 (ks.length : Int))), (15, lv (.int .i64 ((0 : Nat) : Int)))]) (h := [(0, tabB), (1, .map es), (95, .row (.recs 1 (([] : List ByteArray).map bsR)))]) (by refine ⟨?_, ?_⟩ <;> (repeat' (first | exact trivial | exact rfl | refine ⟨?_, ?_⟩)) <;> first | exact rfl | (simp; done) | skip)) ?_
 refine W_loop (ι := {i : Nat // i ≤ ks.length}) (fun i => St.of [(3, .c (.own 95 1 0 (((ks.take i.1).map bsR).length))), (13, .c (.lf (.recs 1 (ks.map sR)))), (14, lv (.int .i64 (ks.length : Int))), (15, lv (.int .i64 (i.1 : Int)))] [(0, tabB), (1, .map es), (95, .row (.recs 1 ((ks.take i.1).map bsR)))]) (fun i => ks.length - i.1) (fun i => ?_) ⟨0, by omega⟩
 obtain ⟨i, hi⟩ := i
 dsimp only
 repeat refine nx ?_
 refine W_cond rfl (by simp) (fun hc => ?_) (fun hc => ?_)
 · have hi2 : i < ks.length := by simpa using hc
   have hx : ks.getD (i : Int).toNat default = ks[i] := by simp [hi2]
   have hT : ks.take (i + 1) = ks.take i ++ [ks[i]] := by rw [List.take_add_one, List.getElem?_eq_getElem hi2]; rfl
   have hs1 : ks[i].size ≤ 1000 := hsz _ (List.getElem_mem hi2)
   generalize ks[i] = k at *
   repeat (first | refine nx ?_ | rw [hx])
   refine WL_q (opq_of (opy_bytes rfl Tryz.underlying9 Tryz.underlying29 Tryz.underlying5 rfl (by exact vcs) (by simp [maxLen]; omega)) rfl) (by rw [hn]; rfl) ?_
   repeat refine nx ?_
   refine N_round ⟨i + 1, by omega⟩ (by dsimp only; omega) ?_
   dsimp only
   have hT2 : (ks.take (i + 1)).map bsR = (ks.take i).map bsR ++ [[.ints .u8 (bs k)]] := by rw [hT, List.map_append]; rfl
   rw [hT2]
   exact St.le_of ⟨⟨rfl, rfl, rfl, rfl⟩, ⟨rfl, rfl, rfl⟩⟩
 · have hi2 : i = ks.length := by simp at hc; omega
   subst hi2
   rw [List.take_length]
   refine frzW 3 ?_
   repeat refine nx ?_
   exact rt1 []

def fsD (d : List Int) : List ByteArray → Nat → Int
 | [], _ => -1
 | k :: l, i => if digS (bs k) = d then (i : Int) else fsD d l (i + 1)
theorem bs_wf (k : ByteArray) : WfB (bs k) := by
 obtain ⟨l, rfl, h, _⟩ := str_of k
 rw [bs_str h]
 exact h
theorem bs_len (k : ByteArray) : (bs k).length = k.size := by
 obtain ⟨l, rfl, h, hl⟩ := str_of k
 rw [bs_str h, hl]
theorem fsD_rng (d : List Int) : ∀ (l : List ByteArray) (i : Nat), fsD d l i = -1 ∨ ((i : Int) ≤ fsD d l i ∧ fsD d l i < i + l.length)
 | [], i => .inl rfl
 | k :: l, i => by
   unfold fsD
   simp only [List.length_cons]
   split
   · right; omega
   · rcases fsD_rng d l (i + 1) with h | h
     · exact .inl h
     · right; omega
def bdP (es : MapL) (d : List Int) : List Int × Int := if fsD d (srtK es) 0 < 0 then ([], 14) else (bs ((srtK es).getD (fsD d (srtK es) 0).toNat default), 0)

def bdR (d : List Int) : List PairT → List Int × Int
 | [] => ([], 14)
 | p :: l => if digS p.1 = d then (p.1, 0) else bdR d l

theorem rdropB_no (L : List PairT) (n : List Int) (hL : L.length ≤ 100) (hls : ∀ p ∈ L, p.1.length ≤ 1000000) (hn1 : n.length ≤ 1000000) (hf : (plP L n).2 = false) :
   Ct Tryz.prog 9 [.c (.ptr 0 0), B8 n] [rtB L, rowP L] (lv (.int .i64 14)) [rtB L, rowP L] [] := by
 have h1 := rplace_ok L n (by omega) hls hn1
 rw [hf] at h1
 refine Ct_intro Tryz.func9 rfl rfl rfl rfl rfl (fun E hn hb => ?_)
 repeat refine nx ?_
 exact rt1 []
set_option maxHeartbeats 8000000 in
theorem rdropB_ok (L : List PairT) (n : List Int) (hL : L.length ≤ 100) (hls : ∀ p ∈ L, p.1.length ≤ 1000000) (hn1 : n.length ≤ 1000000) (hf : (plP L n).2 = true) :
   Ct Tryz.prog 9 [.c (.ptr 0 0), B8 n] [rtD L] (lv (.int .i64 0)) [.cells [.own 1 2 0 (L.eraseIdx (plP L n).1).length]] [rowP (L.eraseIdx (plP L n).1)] := by
 have h1 := rplace_okD L n (by omega) hls hn1
 have hle := (plP_le L n).2 hf
 rw [hf] at h1
 generalize (plP L n).1 = i at *
 have e : [] ++ (L.map prL).take (i : Int).toNat ++ (L.map prL).drop ((i : Int) + 1).toNat = (L.eraseIdx i).map prL := by
   rw [List.nil_append, List.eraseIdx_eq_take_drop_succ, List.map_append, List.map_take, List.map_drop]
   simp
 refine Ct_intro Tryz.func9 rfl rfl rfl rfl rfl (fun E hn hb => ?_)
 repeat refine nxw ?_
 repeat (first | refine du2 (id := 4) ?_ | refine nx ?_)
 rw [e]
 simp only [List.length_map]
 exact rt1 [95]

def mapOf (L : List PairT) : MapL := L.map fun p => (strOfNums p.1, Leaf.ints .u8 p.2)
def rowsOk (L : List PairT) : Prop := ∀ p ∈ L, p.1.length ≤ 64 ∧ WfB p.1 ∧ p.2.length ≤ 256 ∧ WfB p.2
def srtd (L : List PairT) : Prop := L.Pairwise fun a b => cmpL a.1 b.1 < 0
structure TI (es : MapL) (L : List PairT) : Prop where
 perm : es.Perm (mapOf L)
 srt : srtd L
 ok : rowsOk L
theorem cmp_self (a : List Int) : cmpL a a = 0 := (cmpL_eq a a).2 rfl
theorem cmp_lt_trans {a b c : List Int} (h1 : cmpL a b < 0) (h2 : cmpL b c < 0) : cmpL a c < 0 := by
 have h := cmpL_trans a b c (by omega) (by omega)
 rcases Int.lt_or_eq_of_le h with h | h
 · exact h
 · rw [(cmpL_eq a c).1 h] at h1
   have := (cmpL_anti c b).1 h1
   omega
theorem mapOf_nodup {L : List PairT} (hs : srtd L) (ho : rowsOk L) : ((mapOf L).map (·.1)).Nodup := by
 unfold mapOf
 rw [List.map_map, List.nodup_iff_pairwise_ne, List.pairwise_map]
 refine (List.Pairwise.and_mem.1 hs).imp ?_
 rintro a b ⟨ha, hb, h⟩ e
 have : a.1 = b.1 := strN_inj (ho a ha).2.1 (ho b hb).2.1 e
 rw [this, cmp_self] at h
 omega
theorem TI.len {es : MapL} {L : List PairT} (h : TI es L) : es.length = L.length := by rw [h.perm.length_eq]; simp [mapOf]
theorem gt_none {n : List Int} : ∀ {L : List PairT}, (∀ p ∈ L, 0 < cmpL p.1 n) → gtR L n = none
 | [], _ => rfl
 | p :: L, h => by
   have := h p (List.mem_cons_self ..)
   rw [gtR, if_neg (by omega), if_neg (by omega)]
theorem find_mapOf {n : List Int} (hn : WfB n) : ∀ {L : List PairT}, srtd L → rowsOk L → findM (mapOf L) (strOfNums n) = (gtR L n).map fun s => .ints .u8 s
 | [], _, _ => rfl
 | p :: L, hs, ho => by
   have hs' := List.pairwise_cons.1 hs
   have ih := find_mapOf hn (L := L) hs'.2 fun q hq => ho q (List.mem_cons_of_mem _ hq)
   show (if strOfNums n = strOfNums p.1 then some (Leaf.ints .u8 p.2) else findM (mapOf L) (strOfNums n)) = _
   unfold gtR
   by_cases h1 : cmpL p.1 n < 0
   · rw [if_pos h1, if_neg fun e => by rw [strN_inj hn (ho p (List.mem_cons_self ..)).2.1 e, cmp_self] at h1; omega, ih]
   · rw [if_neg h1]
     by_cases h2 : cmpL p.1 n = 0
     · rw [if_pos h2, (cmpL_eq _ _).1 h2, if_pos rfl]
       rfl
     · rw [if_neg h2, if_neg fun e => by rw [strN_inj hn (ho p (List.mem_cons_self ..)).2.1 e, cmp_self] at h2; omega, ih, gt_none fun q hq => ?_]
       have h3 : cmpL n p.1 < 0 := (cmpL_anti n p.1).2 (by omega)
       have h4 := cmp_lt_trans h3 (hs'.1 q hq)
       exact (cmpL_anti n q.1).1 h4
theorem TI.find {es : MapL} {L : List PairT} (h : TI es L) {n : List Int} (hn : WfB n) : findM es (strOfNums n) = (gtR L n).map fun s => .ints .u8 s := by
 rw [findM_perm h.perm (mapOf_nodup h.srt h.ok), find_mapOf hn h.srt h.ok]
theorem TI.vals {es : MapL} {L : List PairT} (h : TI es L) : ∀ p ∈ es, ∃ s, p.2 = .ints .u8 s ∧ s.length ≤ 1000 := fun p hp => by
 have := h.perm.mem_iff.1 hp
 obtain ⟨q, hq, rfl⟩ := List.mem_map.1 this
 exact ⟨q.2, rfl, by have := (h.ok q hq).2.2.1; omega⟩
theorem TI.keys {es : MapL} {L : List PairT} (h : TI es L) : ∀ p ∈ es, p.1.size ≤ 1000 := fun p hp => by
 have := h.perm.mem_iff.1 hp
 obtain ⟨q, hq, rfl⟩ := List.mem_map.1 this
 rw [strOfNums_size]
 have := (h.ok q hq).1
 omega
def lessP (L : List PairT) (n : List Int) : List PairT := L.filter fun p => decide (p.1 ≠ n)
theorem less_all {n : List Int} {L : List PairT} (h : ∀ p ∈ L, cmpL p.1 n ≠ 0) : lessP L n = L := List.filter_eq_self.2 fun p hp => by
 have := h p hp
 simp only [ne_eq, decide_not, Bool.not_eq_eq_eq_not, Bool.not_true, decide_eq_false_iff_not]
 rintro rfl
 exact this (cmp_self _)
theorem ins_perm (n s : List Int) : ∀ {L : List PairT}, srtd L → (insP L n s).Perm ((n, s) :: lessP L n)
 | [], _ => .refl _
 | p :: L, hs => by
   have hs' := List.pairwise_cons.1 hs
   have ih := ins_perm n s hs'.2
   unfold insP
   by_cases h1 : cmpL p.1 n < 0
   · rw [if_pos h1]
     have hne : p.1 ≠ n := by rintro rfl; rw [cmp_self] at h1; omega
     rw [show lessP (p :: L) n = p :: lessP L n from List.filter_cons_of_pos (by simpa using hne)]
     exact (ih.cons p).trans (.swap ..)
   · rw [if_neg h1]
     by_cases h2 : cmpL p.1 n = 0
     · rw [if_pos h2]
       have he := (cmpL_eq _ _).1 h2
       rw [show lessP (p :: L) n = lessP L n from List.filter_cons_of_neg (by simpa using he), less_all fun q hq => ?_, he]
       have := hs'.1 q hq
       rw [he] at this
       have := (cmpL_anti n q.1).1 this
       omega
     · rw [if_neg h2, less_all fun q hq => ?_]
       rcases List.mem_cons.1 hq with rfl | hq
       · exact h2
       · have h3 : cmpL n p.1 < 0 := (cmpL_anti n p.1).2 (by omega)
         have := (cmpL_anti n q.1).1 (cmp_lt_trans h3 (hs'.1 q hq))
         omega
theorem ins_srtd (n s : List Int) : ∀ {L : List PairT}, srtd L → srtd (insP L n s)
 | [], _ => List.pairwise_singleton ..
 | p :: L, hs => by
   have hs' := List.pairwise_cons.1 hs
   have ih := ins_srtd n s hs'.2
   unfold insP
   by_cases h1 : cmpL p.1 n < 0
   · rw [if_pos h1]
     refine List.pairwise_cons.2 ⟨fun q hq => ?_, ih⟩
     rcases (ins_mem hq).1 with h | ⟨r, hr, h⟩
     · rw [h]; exact h1
     · rw [h]; exact hs'.1 r hr
   · rw [if_neg h1]
     by_cases h2 : cmpL p.1 n = 0
     · rw [if_pos h2]
       exact List.pairwise_cons.2 ⟨fun q hq => hs'.1 q hq, hs'.2⟩
     · rw [if_neg h2]
       have h3 : cmpL n p.1 < 0 := (cmpL_anti n p.1).2 (by omega)
       refine List.pairwise_cons.2 ⟨fun q hq => ?_, hs⟩
       rcases List.mem_cons.1 hq with rfl | hq
       · exact h3
       · exact cmp_lt_trans h3 (hs'.1 q hq)
theorem mapOf_less {n : List Int} (hn : WfB n) {L : List PairT} (hs : srtd L) (ho : rowsOk L) : delM (mapOf L) (strOfNums n) = mapOf (lessP L n) := by
 rw [delM_filter _ (mapOf_nodup hs ho)]
 unfold mapOf lessP
 rw [List.filter_map]
 congr 1
 refine List.filter_congr fun p hp => ?_
 have h1 := (ho p hp).2.1
 simp only [Function.comp_apply]
 by_cases e : p.1 = n
 · simp [e]
 · simp [e]
   exact fun h => e (strN_inj h1 hn h)
theorem TI.put {es : MapL} {L : List PairT} (h : TI es L) {n s : List Int} (hn : n.length ≤ 64 ∧ WfB n) (hs : s.length ≤ 256 ∧ WfB s) : TI (setM es (strOfNums n) (.ints .u8 s)) (insP L n s) := by
 refine ⟨?_, ins_srtd n s h.srt, fun p hp => ?_⟩
 · refine (setM_perm h.perm (mapOf_nodup h.srt h.ok) _ _).trans ((setM_del _ _ _).trans ?_)
   rw [mapOf_less hn.2 h.srt h.ok]
   exact ((ins_perm n s h.srt).map fun p => (strOfNums p.1, Leaf.ints .u8 p.2)).symm
 · obtain ⟨h1, h2⟩ := ins_mem hp
   have a : p.1.length ≤ 64 ∧ WfB p.1 := by
     rcases h1 with e | ⟨r, hr, e⟩
     · rw [e]; exact hn
     · rw [e]; exact ⟨(h.ok r hr).1, (h.ok r hr).2.1⟩
   have b : p.2.length ≤ 256 ∧ WfB p.2 := by
     rcases h2 with e | ⟨r, hr, e⟩
     · rw [e]; exact hs
     · rw [e]; exact (h.ok r hr).2.2
   exact ⟨a.1, a.2, b.1, b.2⟩
theorem drop_less {n : List Int} : ∀ {L : List PairT}, srtd L → (plP L n).2 = true → L.eraseIdx (plP L n).1 = lessP L n
 | [], _, h => by simp [plP] at h
 | p :: L, hs, h => by
   have hs' := List.pairwise_cons.1 hs
   rw [plP_cons] at h ⊢
   by_cases h1 : 0 ≤ cmpL p.1 n
   · rw [if_pos h1] at h ⊢
     have h2 : cmpL p.1 n = 0 := by simpa using h
     have he := (cmpL_eq _ _).1 h2
     rw [show lessP (p :: L) n = lessP L n from List.filter_cons_of_neg (by simpa using he), less_all fun q hq => ?_]
     · rfl
     · have := hs'.1 q hq
       rw [he] at this
       have := (cmpL_anti n q.1).1 this
       omega
   · rw [if_neg h1] at h ⊢
     have hne : p.1 ≠ n := by rintro rfl; rw [cmp_self] at h1; omega
     rw [show lessP (p :: L) n = p :: lessP L n from List.filter_cons_of_pos (by simpa using hne), ← drop_less hs'.2 h]
     rfl
theorem TI.drop {es : MapL} {L : List PairT} (h : TI es L) {n : List Int} (hn : WfB n) (hf : (plP L n).2 = true) : TI (delM es (strOfNums n)) (L.eraseIdx (plP L n).1) := by
 rw [drop_less h.srt hf]
 refine ⟨?_, List.Pairwise.sublist List.filter_sublist h.srt, fun p hp => h.ok p (List.mem_filter.1 hp).1⟩
 rw [← mapOf_less hn h.srt h.ok]
 exact delM_perm h.perm (mapOf_nodup h.srt h.ok) _
theorem le8_of : ∀ {a b : List Int}, WfB a → WfB b → cmpL a b < 0 → leB8 (strOfNums a).data.toList (strOfNums b).data.toList = true
 | [], b, _, _, _ => by simp [leB8, strOfNums_data]
 | x :: a, [], _, _, h => by simp [cmpL] at h
 | x :: a, y :: b, ha, hb, h => by
   have hx := ha x (List.mem_cons_self ..)
   have hy := hb y (List.mem_cons_self ..)
   rw [cmpL] at h
   simp only [leB8, strOfNums_data, List.map_cons, decide_eq_true_eq, List.cons_le_cons_iff]
   have hlt : ∀ u v : Int, 0 ≤ u → u < 256 → 0 ≤ v → v < 256 → u < v → UInt8.ofNat u.toNat < UInt8.ofNat v.toNat := fun u v h1 h2 h3 h4 h5 => by
     rw [UInt8.lt_iff_toNat_lt]
     simp
     omega
   by_cases h1 : x < y
   · exact .inl (hlt x y hx.1 hx.2 hy.1 hy.2 h1)
   · rw [if_neg h1] at h
     by_cases h2 : y < x
     · rw [if_pos h2] at h; omega
     · rw [if_neg h2] at h
       have ih := le8_of (fun z hz => ha z (List.mem_cons_of_mem _ hz)) (fun z hz => hb z (List.mem_cons_of_mem _ hz)) h
       simp only [leB8, strOfNums_data, decide_eq_true_eq] at ih
       exact .inr ⟨by rw [show x = y by omega], @of_decide_eq_true _ _ ih⟩
theorem TI.names {es : MapL} {L : List PairT} (h : TI es L) : srtK es = L.map fun p => strOfNums p.1 := by
 have e1 : (keyBs es).Perm (L.map fun p => (strOfNums p.1).data.toList) := by
   have := h.perm.map fun p => p.1.data.toList
   unfold mapOf at this
   rwa [List.map_map] at this
 have hs : (L.map fun p => (strOfNums p.1).data.toList).Pairwise (fun a b => leB8 a b = true) := by
   rw [List.pairwise_map]
   refine (List.Pairwise.and_mem.1 h.srt).imp ?_
   rintro a b ⟨ha, hb, hc⟩
   exact le8_of (h.ok a ha).2.1 (h.ok b hb).2.1 hc
 unfold srtK
 rw [sort_perm e1, ((List.mergeSort_perm _ leB8).eq_of_pairwise (fun x y _ _ h1 h2 => leB8_anti x y h1 h2) (List.pairwise_mergeSort leB8_trans leB8_total _) hs), List.map_map]
 rfl
theorem fsD_R (d : List Int) : ∀ {L : List PairT} (i : Nat), rowsOk L → (fsD d (L.map fun p => strOfNums p.1) i < 0 → bdR d L = ([], 14)) ∧
   (¬ fsD d (L.map fun p => strOfNums p.1) i < 0 → bdR d L = (bs ((L.map fun p => strOfNums p.1).getD ((fsD d (L.map fun p => strOfNums p.1) i).toNat - i) default), 0))
 | [], i, _ => ⟨fun _ => rfl, fun h => absurd (show (-1 : Int) < 0 by decide) h⟩
 | p :: L, i, ho => by
   have ih := fsD_R d (L := L) (i + 1) fun q hq => ho q (List.mem_cons_of_mem _ hq)
   have hb := bs_str (ho p (List.mem_cons_self ..)).2.1
   have hr := fsD_rng d (L.map fun p => strOfNums p.1) (i + 1)
   rw [List.map_cons]
   unfold fsD bdR
   rw [hb]
   by_cases he : digS p.1 = d
   · rw [if_pos he, if_pos he]
     refine ⟨fun h => by omega, fun _ => ?_⟩
     rw [show ((i : Int)).toNat - i = 0 by omega, List.getD_cons_zero, hb]
   · rw [if_neg he, if_neg he]
     refine ⟨ih.1, fun h => ?_⟩
     rw [ih.2 h]
     rcases hr with h2 | ⟨h2, _⟩
     · omega
     · rw [show (fsD d (L.map fun p => strOfNums p.1) (i + 1)).toNat - i = ((fsD d (L.map fun p => strOfNums p.1) (i + 1)).toNat - (i + 1)) + 1 by omega, List.getD_cons_succ]
theorem TI.dig {es : MapL} {L : List PairT} (h : TI es L) (d : List Int) : bdP es d = bdR d L := by
 obtain ⟨h1, h2⟩ := fsD_R d 0 h.ok
 unfold bdP
 rw [h.names]
 split
 · rename_i h3; exact (h1 h3).symm
 · rename_i h3
   have := h2 h3
   rw [Nat.sub_zero] at this
   exact this.symm
end Go.Proofs.YtohfhephkjihfaaGreat

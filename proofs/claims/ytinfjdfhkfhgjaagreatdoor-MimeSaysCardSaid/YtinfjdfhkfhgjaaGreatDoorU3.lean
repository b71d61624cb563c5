import Derived.Test.YtinfjdfhkfhgjaaGreatDoorU2
import Derived.Lib.Join
import Derived.Test.YtinfjdfhkfhgjaaGreatDoorU1
import Derived.Shelf.GgClosure.StringsIndexFunc
import Derived.Laws.RangeString
import Derived.Laws.RangeAny
import Derived.Shelf.Abstract
import Derived.Lib.IndexBytes
import Derived.Lib.IndexMore
import Derived.Shelf.Strings.SlTrimAscii
import Derived.Lib.SmallJoins
import Derived.Laws.StructEq
import Derived.Deep.RegionWith
set_option maxRecDepth 100000
set_option maxHeartbeats 40000000
namespace Go.Proofs.YtinfjdfhkfhgjaaGreatDoor
open Go.RowKit
def dash (border : List UInt8) : List UInt8 := [45, 45] ++ border
/-- A border, as Split looks for it. -/
def bord2 (border : List UInt8) : Prop := (∀ b ∈ border, 32 < b.toNat)
theorem line_app {x y : List UInt8} (h : ∀ b ∈ x, b ≠ 10) : lineM (x ++ 10 :: y) = (x ++ [10], y) := by
 have hi : Lib.indexByte (x ++ 10 :: y) 10 = (x.length : Nat) := by
  rw [indexByte_tw, if_pos (by simp)]
  congr 1
  rw [List.takeWhile_append_of_pos (fun b hb => by simpa using h b hb)]
  simp
 unfold lineM
 rw [hi, if_neg (by omega), Int.toNat_natCast]
 have e : x ++ 10 :: y = (x ++ [10]) ++ y := by simp
 rw [e, List.take_left' (by simp), List.drop_left' (by simp)]
theorem line_len {b : List UInt8} (h : b ≠ []) : (lineM b).2.length < b.length ∧ (lineM b).1 ++ (lineM b).2 = b := by
 unfold lineM
 split
 · exact ⟨by simp [List.length_pos_iff, h], by simp⟩
 · rename_i h1
   have := indexByte_bd b 10
   exact ⟨by simp; omega, by simp⟩
theorem split_fuel (border : List UInt8) : ∀ (f g : Nat) (b : List UInt8) (cur : Option (List UInt8)) (out : List (List UInt8)), b.length < f → b.length < g → splitF border f b cur out = splitF border g b cur out
 | 0, _, _, _, _, h, _ => absurd h (by omega)
 | _, 0, _, _, _, _, h => absurd h (by omega)
 | f + 1, g + 1, b, cur, out, h1, h2 => by
  rw [splitF, splitF]
  by_cases hb : b = []
  · rw [if_pos hb, if_pos hb]
  · rw [if_neg hb, if_neg hb]
    have := (line_len hb).1
    rw [split_fuel border f g _ _ _ (by omega) (by omega), split_fuel border f g _ _ _ (by omega) (by omega)]
def isBo (border line : List UInt8) : Prop := bareM line = dash border ∨ bareM line = dash border ++ [45, 45]
theorem bare_pre (line : List UInt8) : ∃ z, line = bareM line ++ z := by
 unfold bareM Lib.trimRightS
 refine ⟨(line.reverse.takeWhile (([32, 9, 13, 10] : List UInt8).contains ·)).reverse, ?_⟩
 rw [← List.reverse_append, List.takeWhile_append_dropWhile, List.reverse_reverse]
theorem isBo_has {border line : List UInt8} (h : isBo border line) : hasI (dash border) line := by
 obtain ⟨z, hz⟩ := bare_pre line
 rcases h with h | h
 · exact ⟨[], z, by rw [List.nil_append, ← h]; exact hz⟩
 · exact ⟨[], [45, 45] ++ z, by rw [List.nil_append, ← List.append_assoc, ← h]; exact hz⟩
theorem not10 {border : List UInt8} (h : bord2 border) : (10 : UInt8) ∉ dash border := by
 intro hm
 unfold dash at hm
 simp at hm
 exact absurd (h 10 hm) (by decide)
theorem not13 {border : List UInt8} (h : bord2 border) : (13 : UInt8) ∉ dash border := by
 intro hm
 unfold dash at hm
 simp at hm
 exact absurd (h 13 hm) (by decide)
theorem dash_ne (border : List UInt8) : ¬ hasI (dash border) [] := by
 rintro ⟨a, b, e⟩
 unfold dash at e
 simp at e
theorem has_end {border k : List UInt8} (hb : bord2 border) (h : ¬ hasI (dash border) k) : ¬ hasI (dash border) (k ++ [13, 10]) := by
 intro h1
 rcases hasI_split (not13 hb) h1 with h1 | h1
 · exact h h1
 · rcases hasI_split (x := []) (not10 hb) h1 with h1 | h1
   · exact dash_ne _ h1
   · exact dash_ne _ h1
/-- Lines that are no border are taken as they are. -/
theorem split_lines (border : List UInt8) (_hb : bord2 border) : ∀ (n : Nat) (s rest : List UInt8) (f g : Nat) (cur : Option (List UInt8)) (out : List (List UInt8)), s.length ≤ n → (s = [] ∨ s.getLast? = some 10) → ¬ hasI (dash border) s → (s ++ rest).length < f → rest.length < g →
 splitF border f (s ++ rest) cur out = splitF border g rest (cur.map (· ++ s)) out := by
 intro n
 induction n with
 | zero =>
  intro s rest f g cur out hn _ _ hf hg
  obtain rfl : s = [] := List.eq_nil_of_length_eq_zero (by omega)
  rw [List.nil_append] at hf ⊢
  rw [split_fuel border f g rest cur out hf hg]
  cases cur <;> simp
 | succ n ih =>
  intro s rest f g cur out hn hl hs hf hg
  by_cases h0 : s = []
  · subst h0
    rw [List.nil_append] at hf ⊢
    rw [split_fuel border f g rest cur out hf hg]
    cases cur <;> simp
  · have h10 : (10 : UInt8) ∈ s := by
     rcases hl with h | h
     · exact absurd h h0
     · exact List.mem_of_getLast? h
    obtain ⟨x, y, rfl, hx⟩ := first_of s 10 h10
    obtain ⟨f, rfl⟩ : ∃ j, f = j + 1 := ⟨f - 1, by omega⟩
    have e : x ++ 10 :: y ++ rest = x ++ 10 :: (y ++ rest) := by simp
    have hx1 : ¬ hasI (dash border) (x ++ [10]) := fun h => hs (by
     have := hasI_left (t := y) h
     simpa using this)
    have n1 : bareM (x ++ [10]) ≠ dash border := fun h => hx1 (isBo_has (.inl h))
    have n2 : bareM (x ++ [10]) ≠ dash border ++ [45, 45] := fun h => hx1 (isBo_has (.inr h))
    unfold dash at n1 n2
    rw [e] at hf ⊢
    rw [splitF, if_neg (by simp), line_app hx]
    simp only
    rw [if_neg n1, if_neg n2]
    have hy : y = [] ∨ y.getLast? = some 10 := by
     cases y with
     | nil => exact .inl rfl
     | cons c r =>
      rcases hl with h | h
      · exact absurd h (by simp)
      · right
        rw [last_append _ _ (by simp)] at h
        simpa using h
    simp only [List.length_append, List.length_cons] at hn hf
    rw [ih y rest f g _ out (by omega) hy (fun h => hs (by
     have := hasI_right (s := x ++ [10]) h
     simpa using this)) (by rw [List.length_append]; omega) hg]
    cases cur <;> simp
theorem bare_end {m : List UInt8} (h : ∀ b ∈ m, 32 < b.toNat) : bareM (m ++ [13, 10]) = m := by
 unfold bareM
 refine trimR_pad m [13, 10] [32, 9, 13, 10] (by decide) (fun x hx => ?_)
 have := h x (List.mem_of_getLast? hx)
 simp only [List.contains_eq_mem, List.mem_cons, List.not_mem_nil, or_false, decide_eq_false_iff_not, not_or]
 refine ⟨?_, ?_, ?_, ?_⟩ <;> (intro e; rw [e] at this; exact absurd this (by decide))
theorem inner_end (k : List UInt8) : innerM (k ++ [13, 10]) = k := by
 have h1 : chopB (k ++ [13, 10]) 10 = k ++ [13] := by
  unfold chopB
  have : Lib.hasSuffix (k ++ [13, 10]) [10] = true := by unfold Lib.hasSuffix; rw [List.isSuffixOf_iff_suffix]; exact ⟨k ++ [13], by simp⟩
  rw [this, if_pos rfl]
  have e : k ++ [13, 10] = (k ++ [13]) ++ [10] := by simp
  rw [e, List.take_left' (by simp)]
 have h2 : chopB (k ++ [13]) 13 = k := by
  unfold chopB
  have : Lib.hasSuffix (k ++ [13]) [13] = true := by unfold Lib.hasSuffix; rw [List.isSuffixOf_iff_suffix]; exact ⟨k, rfl⟩
  rw [this, if_pos rfl, List.take_left' (by simp)]
 unfold innerM
 rw [h1, h2]
/-- What stands between borders is what was put there. -/
theorem split_wrap (border tail : List UInt8) (hb : bord2 border) : ∀ (l : List (List UInt8)) (f : Nat) (cur : Option (List UInt8)) (out : List (List UInt8)), (∀ k ∈ l, ¬ hasI (dash border) k) → (wrapM border l ++ tail).length < f →
 splitF border f (wrapM border l ++ tail) cur out = (openM cur out ++ l, 0) := by
 have hd : ∀ b ∈ dash border, 32 < b.toNat := by
  intro b hm
  unfold dash at hm
  simp at hm
  rcases hm with rfl | hm
  · decide
  · exact hb b hm
 have hd2 : ∀ b ∈ dash border ++ [45, 45], 32 < b.toNat := by
  intro b hm
  rcases List.mem_append.1 hm with hm | hm
  · exact hd b hm
  · simp at hm; subst hm; decide
 intro l
 induction l with
 | nil =>
  intro f cur out _ hf
  obtain ⟨f, rfl⟩ : ∃ j, f = j + 1 := ⟨f - 1, by omega⟩
  have e : wrapM border [] ++ tail = (dash border ++ [45, 45] ++ [13]) ++ 10 :: tail := by unfold wrapM dash; simp
  rw [e, splitF, if_neg (by simp), line_app (fun b hm e => by
   rcases List.mem_append.1 hm with hm | hm
   · have := hd2 b hm; rw [e] at this; exact absurd this (by decide)
   · simp at hm; rw [hm] at e; exact absurd e (by decide))]
  simp only
  have e2 : dash border ++ [45, 45] ++ [13] ++ [10] = (dash border ++ [45, 45]) ++ [13, 10] := by simp
  rw [e2, bare_end hd2]
  rw [if_neg (by unfold dash; simp), if_pos (by unfold dash; simp)]
  simp only [List.append_nil]
 | cons k l ih =>
  intro f cur out hk hf
  obtain ⟨f, rfl⟩ : ∃ j, f = j + 1 := ⟨f - 1, by omega⟩
  have e : wrapM border (k :: l) ++ tail = (dash border ++ [13]) ++ 10 :: ((k ++ [13, 10]) ++ (wrapM border l ++ tail)) := by rw [wrapM]; unfold dash; simp
  rw [e] at hf ⊢
  rw [splitF, if_neg (by simp), line_app (fun b hm e => by
   rcases List.mem_append.1 hm with hm | hm
   · have := hd b hm; rw [e] at this; exact absurd this (by decide)
   · simp at hm; rw [hm] at e; exact absurd e (by decide))]
  simp only
  have e2 : dash border ++ [13] ++ [10] = dash border ++ [13, 10] := by simp
  rw [e2, bare_end hd, if_pos (by unfold dash; simp)]
  rw [List.length_append, List.length_cons] at hf
  rw [split_lines border hb _ (k ++ [13, 10]) _ f ((wrapM border l ++ tail).length + 1) _ _ (Nat.le_refl _) (.inr (by rw [last_append _ _ (by simp)]; rfl)) (has_end hb (hk k (by simp))) (by omega) (by omega)]
  rw [ih _ _ _ (fun x hx => hk x (by simp [hx])) (by omega)]
  simp only [Option.map_some, openM, List.nil_append, inner_end]
  rw [List.append_assoc]
  rfl
theorem split_all {border : List UInt8} (hb : bordOk border) {l : List (List UInt8)} (ahead tail : List UInt8) (ha : ahead = [] ∨ ahead.getLast? = some 10) (hna : ¬ hasI (dash border) ahead) (hl : ∀ k ∈ l, ¬ hasI (dash border) k) (hlen : (ahead ++ (wrapM border l ++ tail)).length ≤ 40000) :
 splitM (ahead ++ (wrapM border l ++ tail)) border = (l, 0) := by
 have h2 : bord2 border := fun b hm => (hb.2.2 b hm).1
 have h60 := hb.2.1
 unfold splitM
 rw [if_neg (by omega), if_neg (by intro h; rcases h with h | h; exact hb.1 h; omega)]
 rw [split_lines border h2 _ ahead _ _ ((wrapM border l ++ tail).length + 1) _ _ (Nat.le_refl _) ha hna (by omega) (by omega), split_wrap border tail h2 l _ _ _ hl (by omega)]
 simp [openM]
theorem texts_map : ∀ ps : List PartD, textsM ps = ps.map textM
 | [] => by rw [textsM]; rfl
 | p :: ps => by rw [textsM, texts_map ps]; rfl
theorem text_leaf (p : PartD) (h : manyB p.type = false) : textM p = textF (fieldsM p.type p.cs p.id p.loc p.how []) ++ encM p.how p.body := by
 obtain ⟨t, cs, id, loc, how, body, parts⟩ := p
 rw [textM]
 simp only at h
 rw [h, if_neg (by simp)]
def bordP (p : PartD) : List UInt8 := bordM (bordN (nlJ (textsM p.parts)))
theorem text_many (p : PartD) (h : manyB p.type = true) : textM p = textF (fieldsM p.type p.cs p.id p.loc p.how (bordP p)) ++ wrapM (bordP p) (textsM p.parts) := by
 obtain ⟨t, cs, id, loc, how, body, parts⟩ := p
 rw [textM]
 simp only at h
 rw [h, if_pos rfl]
 rfl
theorem wrap_len (border : List UInt8) : ∀ l : List (List UInt8), (nlJ l).length ≤ (wrapM border l).length ∧ ∀ k ∈ l, k.length ≤ (wrapM border l).length
 | [] => ⟨by simp [nlJ, joinC], by simp⟩
 | [k] => by
  refine ⟨?_, fun x hx => ?_⟩
  · simp only [nlJ, joinC, wrapM, List.length_append]; omega
  · simp at hx; subst hx; simp only [wrapM, List.length_append]; omega
 | k :: y :: r => by
  obtain ⟨h1, h2⟩ := wrap_len border (y :: r)
  unfold nlJ at h1 ⊢
  refine ⟨?_, fun x hx => ?_⟩
  · rw [joinC, wrapM]
    simp only [List.length_append, List.length_cons, List.length_nil]
    omega
  · rw [wrapM]
    rcases List.mem_cons.1 hx with rfl | hx
    · simp only [List.length_append]; omega
    · have := h2 x hx
      simp only [List.length_append]
      omega
theorem nl_mem (m : List UInt8) : ∀ l : List (List UInt8), ∀ k ∈ l, hasI m k → hasI m (nlJ l)
 | [], _, hk, _ => by simp at hk
 | [x], k, hk, h => by simp at hk; subst hk; exact h
 | x :: y :: r, k, hk, h => by
  unfold nlJ
  rw [joinC]
  rcases List.mem_cons.1 hk with rfl | hk
  · exact hasI_left h
  · have := nl_mem m (y :: r) k hk h
    have := hasI_right (s := [10]) this
    exact hasI_right this
theorem cnts_each (k : Nat) : ∀ (ps : List PartD) (n c : Nat), cntsD k n ps = some c → ∀ x ∈ ps, ∃ d, cntD k x = some d
 | [], _, _, _ => by simp
 | p :: ps, n, c, h => by
  rw [cntsD_cons] at h
  cases hc : cntD k p with
  | none => rw [hc] at h; cases h
  | some d =>
   rw [hc] at h
   simp only [cntNext] at h
   split at h
   · cases h
   · intro x hx
     rcases List.mem_cons.1 hx with rfl | hx
     · exact ⟨d, hc⟩
     · exact cnts_each k ps _ _ h x hx
theorem chkB_zero {ty ce tk wi wl : Bool} {how : Int} {n : Nat} {m : Bool} {n2 : Nat} (h : chkB ty ce tk wi wl how n m n2 = 0) :
 ty = true ∧ (ce = true ∨ tk = true) ∧ wi = true ∧ wl = true ∧ 0 ≤ how ∧ how ≤ 2 ∧ n ≤ 4000 ∧ (m = true → 0 < n2 ∧ n = 0 ∧ how = 0 ∧ ce = true) ∧ (m = false → n2 = 0) := by
 unfold chkB at h
 split at h
 · cases h
 · rename_i h1
   split at h
   · cases h
   · rename_i h2
     split at h
     · cases h
     · rename_i h3
       split at h
       · cases h
       · rename_i h4
         simp at h1 h2 h3 h4
         refine ⟨h1.1.1.1, ?_, h1.1.2, h1.2, h2.1, h2.2, h3, fun hm => ?_, fun hm => ?_⟩
         · rcases hce : ce with _ | _
           · exact .inr (h1.1.1.2 hce)
           · exact .inl rfl
         · rw [hm] at h4
           simp at h4
           exact ⟨by omega, h4.2.1.1, h4.2.1.2, h4.2.2⟩
         · rw [hm] at h4
           simp at h4
           omega
theorem firstErr_allM : ∀ (L : List PartD), firstErr L = 0 → ∀ q ∈ L, chkD q = 0
 | [], _ => by simp
 | q :: r, h => by
  unfold firstErr at h
  split at h
  · rename_i hq
    intro x hx
    rcases List.mem_cons.1 hx with rfl | hx
    · exact hq
    · exact firstErr_allM r h x hx
  · rename_i hq
    exact absurd h hq
theorem parse_more {l : List FieldD} (h : chkF l = 0) (more : List UInt8) (hl : (textF l ++ more).length ≤ 40000) : parseF (textF l ++ more) = (l, (textF l).length, 0) := by
 have h1 := (parse_back (parse_text h)).2.2.2 more
 rw [List.take_length] at h1
 exact h1 hl
/-- Parts that are told alike. -/
def goodP (p : PartD) : Prop := ∀ q ∈ flatD p, chkD q = 0
theorem part_text : ∀ (k : Nat) (p : PartD) (cnt c : Nat), cntD k p = some c → goodP p → cnt + (flatD p).length ≤ 12 → (textM p).length ≤ 40000 → partM k cnt (textM p) = (p, cnt + (flatD p).length, 0) := by
 intro k
 induction k with
 | zero => intro p cnt c h; obtain ⟨t, cs, id, loc, how, body, parts⟩ := p; rw [cntD] at h; cases h
 | succ k ih =>
  intro p cnt c h hg hc hl
  have h0 := hg p (by rw [flatD_eq]; simp)
  have hcl : 1 ≤ (flatD p).length := by rw [flatD_eq]; simp
  unfold chkD at h0
  obtain ⟨ht, hcs, hid, hloc, hw0, hw2, hbo, hm1, hm0⟩ := chkB_zero h0
  have hcs' : p.cs = [] ∨ tokB p.cs = true := by
   rcases hcs with h | h
   · exact .inl (by simpa using h)
   · exact .inr h
  rw [partM, if_neg (by omega)]
  have hct : ∀ b, (if getF (fieldsM p.type p.cs p.id p.loc p.how b) ctN = [] then [116, 101, 120, 116, 47, 112, 108, 97, 105, 110] else getF (fieldsM p.type p.cs p.id p.loc p.how b) ctN) = typeV p.type p.cs b := by
   intro b
   rw [get_ct, if_neg]
   intro e
   have := (typ_parts ht).1
   unfold typeV at e
   simp at e
   exact this e.1
  cases hm : manyB p.type with
  | false =>
   have hp0 := hm0 hm
   have hps : p.parts = [] := List.eq_nil_of_length_eq_zero hp0
   have hck := fields_chk (b := []) (how := p.how) ht hcs' hid hloc (.inl rfl)
   have e := text_leaf p hm
   rw [e] at hl ⊢
   rw [parse_more hck _ hl]
   simp only
   rw [if_neg (by simp), List.drop_left, hct []]
   have hpar : paramsF (typeV p.type p.cs []) = (p.type, (if p.cs = [] then [] else [⟨charsetN, p.cs⟩]), 0) := by
    by_cases h2 : p.cs = []
    · rw [h2, params_none ht, if_pos rfl]
    · rw [params_cs ht (hcs'.resolve_left h2), if_neg h2]
   rw [hpar]
   simp only
   rw [if_neg (by simp), hm, if_neg (by simp), get_cte, body_back p.how p.body hw0 hw2 hbo]
   simp only
   rw [if_neg (by simp), get_id, id_back, get_loc]
   have hcg : getF (if p.cs = [] then [] else [⟨charsetN, p.cs⟩]) ([99, 104, 97, 114, 115, 101, 116]) = p.cs := by
    by_cases h2 : p.cs = []
    · rw [if_pos h2, h2]; rfl
    · rw [if_neg h2]; exact get_one charsetN p.cs
   rw [hcg]
   have hfl : (flatD p).length = 1 := by rw [flatD_eq, hps]; rfl
   rw [hfl]
   obtain ⟨t, cs, id, loc, how, body, parts⟩ := p
   simp only at hps
   subst hps
   rfl
  | true =>
   obtain ⟨m1, m2, m3, m4⟩ := hm1 hm
   replace m4 : p.cs = [] := by simpa using m4
   replace m2 : p.body = [] := List.eq_nil_of_length_eq_zero m2
   have hbk : bordOk (bordP p) := bordM_ok _
   have hck := fields_chk (b := bordP p) (how := p.how) ht hcs' hid hloc (.inr hbk)
   have e := text_many p hm
   rw [e] at hl ⊢
   rw [parse_more hck _ hl]
   simp only
   rw [if_neg (by simp), List.drop_left, hct (bordP p), m4, params_bd ht hbk]
   simp only
   rw [if_neg (by simp), hm, if_pos rfl, show ([98, 111, 117, 110, 100, 97, 114, 121]) = boundN from rfl, get_one]
   obtain ⟨w1, w2⟩ := wrap_len (bordP p) (textsM p.parts)
   rw [List.length_append] at hl
   have hfree : ∀ x ∈ textsM p.parts, ¬ hasI (dash (bordP p)) x := by
    intro x hx hi
    have h1 := nl_mem _ _ x hx hi
    have h2 := (bordN_spec (nlJ (textsM p.parts)) (by omega)).2.2.1
    exact hasS_false h2 h1
   have hsp := split_all hbk [] [] (.inl rfl) (dash_ne _) hfree (by simp; omega)
   rw [List.nil_append, List.append_nil] at hsp
   rw [hsp]
   simp only
   rw [if_neg (by simp)]
   have hfl : (flatD p).length = 1 + (flatsD p.parts).length := by rw [flatD_eq, List.length_cons]; omega
   have key : ∀ (ps out : List PartD) (cnt : Nat), (∀ x ∈ ps, ∃ d, cntD k x = some d) → (∀ x ∈ flatsD ps, chkD x = 0) → cnt + (flatsD ps).length ≤ 12 → (∀ x ∈ textsM ps, x.length ≤ 40000) → eachM (partM k) (textsM ps) cnt out = (out ++ ps, cnt + (flatsD ps).length, 0) := by
    intro ps
    induction ps with
    | nil => intro out cnt _ _ _ _; rw [textsM, eachM, flatsD]; simp
    | cons x xs ihx =>
     intro out cnt g1 g2 g3 g4
     rw [flatsD, List.length_append] at g3
     obtain ⟨d, hd⟩ := g1 x (by simp)
     rw [textsM] at g4
     have hx := ih x cnt d hd (fun q hq => g2 q (by rw [flatsD]; simp [hq])) (by omega) (g4 _ (by simp))
     rw [textsM, eachM, hx]
     simp only [if_true]
     rw [ihx _ _ (fun y hy => g1 y (by simp [hy])) (fun y hy => g2 y (by rw [flatsD]; simp [hy])) (by omega) (fun y hy => g4 y (by simp [hy])), flatsD]
     simp only [List.append_assoc, List.cons_append, List.nil_append, List.length_append]
     rw [Nat.add_assoc]
   have hcn : ∀ x ∈ p.parts, ∃ d, cntD k x = some d := by
    obtain ⟨t, cs, id, loc, how, body, parts⟩ := p
    rw [cntD] at h
    exact cnts_each k parts 1 c h
   have hx := key p.parts [] (cnt + 1) hcn (fun x hx => hg x (by rw [flatD_eq]; simp [hx])) (by omega) (fun x hx => by have := w2 x hx; omega)
   rw [List.nil_append] at hx
   rw [hx]
   simp only
   rw [if_neg (by simp)]
   have i1 := get_id p.type [] p.id p.loc (bordP p) p.how
   have i2 := get_loc p.type [] p.id p.loc (bordP p) p.how
   rw [i1, id_back, i2, hfl]
   obtain ⟨t, cs, id, loc, how, body, parts⟩ := p
   simp only at m2 m3 m4
   subst m2; subst m3; subst m4
   simp only [Prod.mk.injEq, true_and, and_true]
   omega
theorem checkM_parts {p : PartD} (h : checkD p = 0) : goodP p ∧ (∃ c, cntD 3 p = some c) ∧ (flatD p).length ≤ 12 := by
 unfold checkD at h
 cases hc : cntD 3 p with
 | none => rw [hc] at h; cases h
 | some c =>
  rw [hc] at h
  refine ⟨firstErr_allM _ h, ⟨c, rfl⟩, ?_⟩
  rw [cntD_flat 3 p c hc]
  exact (cntD_le 3 p c hc).2
/-- What is written is read as it was. -/
theorem read_back {p : PartD} (h : checkD p = 0) (hl : (textM p).length ≤ 40000) : readM (textM p) = (p, 0) := by
 obtain ⟨h1, ⟨c, hc⟩, h2⟩ := checkM_parts h
 have := part_text 3 p 0 c hc h1 (by omega) hl
 unfold readM
 rw [if_neg (by omega), this]
 simp only
 rw [if_neg (by simp), if_neg (by omega)]
theorem enc_small (how : Int) (l : List UInt8) (h : l.length ≤ 4000) : (encM how l).length ≤ 12600 := by
 unfold encM
 split
 · have := enc_len2 l.length 0 l (Nat.le_refl _) (by omega)
   rw [Nat.mul_zero] at this
   omega
 · split
   · have := encQ_len3 l 0 (by omega)
     omega
   · omega
theorem fields_len (t cs id loc b : List UInt8) (how : Int) : (fieldsM t cs id loc how b).length ≤ 4 := by
 unfold fieldsM
 simp only [List.length_append, List.length_cons, List.length_nil]
 have : (if id = [] then [] else [FieldD.mk idN ([60] ++ id ++ [62])]).length ≤ 1 := by split <;> simp
 have : (if loc = [] then [] else [FieldD.mk locN loc]).length ≤ 1 := by split <;> simp
 have : (if b = [] then [FieldD.mk cteN (howS how)] else []).length ≤ 1 := by split <;> simp
 omega
theorem fields_text {t cs id loc b : List UInt8} {how : Int} (ht : typB t = true) (hcs : cs = [] ∨ tokB cs = true) (hid : wordB id = true) (hloc : wordB loc = true) (hb : b = [] ∨ bordOk b) : (textF (fieldsM t cs id loc how b)).length ≤ 3740 := by
 have h1 := (chk_len (fields_chk (how := how) ht hcs hid hloc hb)).2
 have h2 := textF_len h1
 have h3 := fields_len t cs id loc b how
 omega
theorem wrap_sum (border : List UInt8) (hb : border.length ≤ 9) : ∀ l : List (List UInt8), (wrapM border l).length ≤ (l.map (fun k => k.length + 15)).sum + 15
 | [] => by simp [wrapM]; omega
 | k :: l => by
  have := wrap_sum border hb l
  rw [wrapM, List.map_cons, List.sum_cons]
  simp only [List.length_append, List.length_cons, List.length_nil]
  omega
mutual
theorem textM_len : ∀ (p : PartD), goodP p → (textM p).length + 15 ≤ 17000 * (flatD p).length
 | ⟨t, cs, id, loc, how, body, parts⟩, h => by
  have h0 := h ⟨t, cs, id, loc, how, body, parts⟩ (by rw [flatD]; simp)
  unfold chkD at h0
  obtain ⟨ht, hcs, hid, hloc, hw0, hw2, hbo, hm1, hm0⟩ := chkB_zero h0
  simp only at ht hcs hid hloc hbo hm1 hm0
  have hcs' : cs = [] ∨ tokB cs = true := by
   rcases hcs with h | h
   · exact .inl (by simpa using h)
   · exact .inr h
  have hs := textsM_len parts (fun q hq => h q (by rw [flatD]; simp [hq]))
  rw [textM, flatD, List.length_cons]
  split
  · have h1 := fields_text (how := how) ht hcs' hid hloc (.inr (bordM_ok (nlJ (textsM parts))))
    have h2 := wrap_sum (bordM (bordN (nlJ (textsM parts)))) (bord_len _) (textsM parts)
    rw [List.length_append]
    omega
  · have h1 := fields_text (b := []) (how := how) ht hcs' hid hloc (.inl rfl)
    have h2 := enc_small how body hbo
    rw [List.length_append]
    omega
theorem textsM_len : ∀ (ps : List PartD), (∀ q ∈ flatsD ps, chkD q = 0) → ((textsM ps).map (fun k => k.length + 15)).sum ≤ 17000 * (flatsD ps).length
 | [], _ => by rw [textsM]; simp
 | p :: ps, h => by
  have h1 := textM_len p (fun q hq => h q (by rw [flatsD]; simp [hq]))
  have h2 := textsM_len ps (fun q hq => h q (by rw [flatsD]; simp [hq]))
  rw [textsM, flatsD, List.map_cons, List.sum_cons, List.length_append]
  omega
end
theorem nl_sum : ∀ l : List (List UInt8), (nlJ l).length ≤ (l.map (fun k => k.length + 15)).sum
 | [] => by simp [nlJ, joinC]
 | [k] => by simp [nlJ, joinC]
 | k :: y :: r => by
  have := nl_sum (y :: r)
  unfold nlJ at this ⊢
  rw [joinC, List.map_cons, List.sum_cons, List.length_append, List.length_cons]
  omega
theorem join_nl : ∀ l : List (List UInt8), Lib.join l [10] = nlJ l
 | [] => rfl
 | [x] => by rw [Lib.join_one]; rfl
 | x :: y :: r => by
  have := join_nl (y :: r)
  rw [Lib.join_cons] at this ⊢
  unfold nlJ at this ⊢
  rw [joinC, ← this]
  simp [Lib.joinTail]
end Go.Proofs.YtinfjdfhkfhgjaaGreatDoor
namespace Go.Proofs.YtinfjdfhkfhgjaaGreatDoor
/-- A rune of a text for which p says yes: a byte for which it does, where p says yes to all beyond ASCII, or the text has none of these. -/
theorem idxFunc_any (p : Nat → Bool) (l : List UInt8) (h : (∀ r, 128 ≤ r → p r = true) ∨ ∀ b ∈ l, b.toNat < 128) : decide (0 ≤ Lib.idxFunc p true ⟨l.toArray⟩) = l.any (fun b => p b.toNat) := by
 have key : ∀ (f pos : Nat), l.length ≤ f + pos → (0 ≤ Lib.idxFuncFrom p true ⟨l.toArray⟩ f pos ↔ (l.drop pos).any (fun b => p b.toNat) = true) := by
  intro f
  induction f with
  | zero =>
   intro pos hl
   rw [List.drop_of_length_le (by omega)]
   simp [Lib.idxFuncFrom]
  | succ f ih =>
   intro pos hl
   unfold Lib.idxFuncFrom
   have hsz : (⟨l.toArray⟩ : ByteArray).size = l.length := by simp [ByteArray.size]
   by_cases hp : pos < l.length
   · rw [if_pos (by rw [hsz]; exact hp), List.drop_eq_getElem_cons hp, List.any_cons]
     have hb : ((⟨l.toArray⟩ : ByteArray)[pos]'(by rw [hsz]; exact hp)) = l[pos] := by
      show (l.toArray[pos]) = _
      simp
     rcases Nat.lt_or_ge (l[pos]).toNat 128 with h128 | h128
     · have hd := decode_ascii ⟨l.toArray⟩ pos (by rw [hsz]; exact hp) (by rw [hb]; exact h128)
       rw [hb] at hd
       rw [hd]
       by_cases hpb : p (l[pos]).toNat = true
       · rw [if_pos hpb, hpb]
         simp
       · rw [if_neg hpb]
         have := ih (pos + 1) (by omega)
         rw [this]
         simp [hpb]
     · have hd := decode_high ⟨l.toArray⟩ pos (by rw [hsz]; exact hp) (by rw [hb]; exact h128)
       rcases h with h | h
       · rw [if_pos (h _ hd.1), h _ h128]
         simp
       · exact absurd (h _ (List.getElem_mem hp)) (by omega)
   · rw [if_neg (by rw [hsz]; exact hp), List.drop_of_length_le (by omega)]
     simp
 have := key (⟨l.toArray⟩ : ByteArray).size 0 (by simp [ByteArray.size])
 unfold Lib.idxFunc
 rw [Bool.eq_iff_iff, decide_eq_true_eq, this, List.drop_zero]
end Go.Proofs.YtinfjdfhkfhgjaaGreatDoor
namespace Go.Proofs.YtinfjdfhkfhgjaaGreatDoor
open Go.RowKit
/-- What a predicate on bytes is good for. -/
def PredB (g : Nat) (lb : Array Value) (p : Nat → Bool) (w : World) : Prop :=
 ∀ (W : World) (x : Nat), x < 256 → Below w.heap.size w W → Calls Tryz.prog g (#[.int .u8 (x : Int)] ++ lb) W fun e w' => e = .returned (.bool (p x)) ∧ Below W.heap.size W w'
def IdxRes (b : Bool) (w : World) (e : Ending) (w' : World) : Prop := ∃ i : Int, e = .returned (.int .i64 i) ∧ decide (0 ≤ i) = b ∧ Below w.heap.size w w'
theorem any_hit (l : List UInt8) (p : Nat → Bool) (k : Nat) (hk : k < l.length) (h : p (nth l k) = true) : l.any (fun b => p b.toNat) = true := by
 rw [List.any_eq_true]
 exact ⟨l[k], List.getElem_mem hk, by rw [← nth_of l k hk]; exact h⟩
theorem any_miss (l : List UInt8) (p : Nat → Bool) (h : ∀ j, j < l.length → p (nth l j) = false) : l.any (fun b => p b.toNat) = false := by
 rw [List.any_eq_false]
 intro x hx
 obtain ⟨j, hj, rfl⟩ := List.getElem_of_mem hx
 rw [← nth_of l j hj, h j hj]
 simp
theorem IndexFunc_bytes (g : Nat) (lb : Array Value) (eg : ∀ args w, (callFunc g args).run Tryz.prog w = .ok (.enter g args) w) (p : Nat → Bool) (A : Option Addr) (n c B : Nat) (l : List UInt8) (w : World) (hb : By w B A n l) (hB : B ≤ w.heap.size) (hm : n ≤ maxLen) (hp : PredB g lb p w) :
 Calls Tryz.prog 170 #[.slice A n c, .func (.func g) #[] lb] w (IdxRes (l.any (fun b => p b.toNat)) w) := by
 have hl := hb.len
 have h1 := any_hit l p
 have h2 := any_miss l p
 generalize l.any (fun b => p b.toNat) = r at h1 h2
 have Hl := Lib.hid hl
 have H1 := Lib.hid h1
 have H2 := Lib.hid h2
 have Hp := Lib.hid hp
 clear hl h1 h2 hp
 unfold maxLen at hm
 go_enter Tryz.func170, Tryz.ntmps170
 go_wp2_with fail
 go_loopw [8] (fun iv wr => ∃ k : Nat, k ≤ n ∧ iv = .int .i64 k ∧ Below w.heap.size w wr ∧ Hid (∀ j, j < k → p (nth l j) = false)) (fun iv _ => n - (intOf iv).toNat)
 case atStart => exact ⟨0, by omega, rfl, Below.refl _ _, fun j hj => absurd hj (by omega)⟩
 case round =>
  obtain ⟨k, hk, rfl, hbel, hz⟩ := hrel
  by_cases hkn : k < n
  · obtain ⟨b, off, rfl, hbB, hcell1⟩ := hb.at_ hkn
    have hcell := (hbel.cell (p := ⟨b, off + k, none⟩) (Nat.lt_of_lt_of_le hbB hB)).trans hcell1
    have cS := Hp.out wr (nth l k) (nth_lt l k) hbel
    clear hcell1
    by_cases hpk : p (nth l k) = true
    · have hr : Hid (r = true) := H1.out k (by rw [Hl.out]; exact hkn) hpk
      rw [hpk] at cS
      clear hpk
      go_wp2_with (go_at_fn g; refine cS.mono ?_; rintro e w1 ⟨rfl, hb1⟩)
      go_ret
      exact ⟨k, rfl, by rw [hr.out]; simp, hbel.trans (hb1.mono hbel.size)⟩
    · have hpf : p (nth l k) = false := by simpa using hpk
      rw [hpf] at cS
      have HF := Lib.hid hpf
      clear hpk hpf
      go_wp2_with (go_at_fn g; refine cS.mono ?_; rintro e w1 ⟨rfl, hb1⟩)
      refine ⟨⟨k + 1, by omega, by go_num, hbel.trans (hb1.mono hbel.size), fun j hj => ?_⟩, by simp [intOf]; omega⟩
      rcases Nat.lt_or_ge j k with h | h
      · exact hz.out j h
      · rw [show j = k from by omega]; exact HF.out
  · have hr : Hid (r = false) := H2.out fun j hj => hz.out j (by rw [Hl.out] at hj; omega)
    go_wp2_with fail
    go_ret
    exact ⟨-1, rfl, by rw [hr.out]; rfl, hbel⟩
theorem ContainsFunc_bytes (g : Nat) (lb : Array Value) (eg : ∀ args w, (callFunc g args).run Tryz.prog w = .ok (.enter g args) w) (p : Nat → Bool) (A : Option Addr) (n c B : Nat) (l : List UInt8) (w : World) (hb : By w B A n l) (hB : B ≤ w.heap.size) (hm : n ≤ maxLen) (hp : PredB g lb p w) :
 Calls Tryz.prog 135 #[.slice A n c, .func (.func g) #[] lb] w fun e w' => e = .returned (.bool (l.any (fun b => p b.toNat))) ∧ Below w.heap.size w w' := by
 have h := IndexFunc_bytes g lb eg p A n c B l w hb hB hm hp
 generalize l.any (fun b => p b.toNat) = r at h ⊢
 clear hp hb
 have H := Lib.hid h
 clear h eg
 go_enter Tryz.func135, Tryz.ntmps135
 go_wp2_with fail
 refine H.out.mono ?_
 rintro e w1 ⟨i, rfl, hi, hb1⟩
 have Hi := Lib.hid hi
 clear hi
 go_wp2_with fail
 all_goals
  go_ret
  exact ⟨by rw [← Hi.out]; rfl, hb1⟩
theorem own_below {w w' : World} {base : Nat} {e : TypeId} {size : Nat} {v : Value} {n : Nat} {xs : List Value} (h : w.ownsRow base e size v n xs) (hb : Below w.heap.size w w') : w'.ownsRow base e size v n xs :=
 h.kept (row := none) ⟨hb.os, hb.tape, hb.output, hb.size, fun k hk _ => hb.block k hk⟩ (by cases h : v.ownBlock <;> simp)
theorem own_cap {w : World} {base : Nat} {e : TypeId} {size : Nat} {S : Option Addr} {n c : Nat} {xs : List Value} (h : w.ownsRow base e size (.slice S n c) n xs) : n ≤ c := by
 rcases h.2 with ⟨hv, h0⟩ | ⟨g', cap', cur', hv', _, _, hnc', _⟩
 · omega
 · injection hv' with _ _ hcc; omega
theorem one_u8 (x : Int) : ∀ u ∈ [Value.int .u8 x], u.oneCell' = true := by intro u hu; simp at hu; subst hu; rfl
theorem two_u8 (x y : Int) : ∀ u ∈ [Value.int .u8 x, Value.int .u8 y], u.oneCell' = true := by intro u hu; simp at hu; rcases hu with rfl | rfl <;> rfl
theorem news_one (w : World) (t : TypeId) (v : Value) : ∀ j u, [v][j]? = some u → (w.alloc (.cells #[v] t)).cell? ((⟨w.heap.size, 0, none⟩ : Addr).add j) = some u := by
 intro j u hj
 match j, hj with
 | 0, hj => simp at hj; subst hj; simp [Addr.add]
theorem wrap_u8N (z : Nat) (h : z < 256) : IntKind.u8.wrap (z : Int) = (z : Int) := by
 rw [IntKind.wrap_u8]; omega
theorem byte_cell (x : Nat) (h : x < 256) : Lib.byteCells [UInt8.ofNat x] = [.int .u8 (x : Int)] := by
 have : (UInt8.ofNat x).toNat = x := by rw [UInt8.toNat_ofNat']; omega
 simp [Lib.byteCells]
 omega
theorem cut_one_yes {l : List UInt8} {c : UInt8} {k : Nat} (h : Lib.indexByte l c = (k : Int)) : Lib.cut l [c] = (l.take k, l.drop (k + 1), true) := by
 unfold Lib.cut
 rw [Lib.index_one, h, if_pos (by omega)]
 simp
theorem cut_one_no {l : List UInt8} {c : UInt8} (h : Lib.indexByte l c < 0) : Lib.cut l [c] = (l, [], false) := by
 unfold Lib.cut
 rw [Lib.index_one, if_neg (by omega)]
theorem sliteCut_one (l : List UInt8) (c : UInt8) (w : World) (hl : l.length ≤ maxLen) :
 Calls Tryz.prog 142 #[str l, .string ⟨#[c]⟩] w fun e w' => e = .returned (.tuple #[str (Lib.cut l [c]).1, str (Lib.cut l [c]).2.1, .bool (Lib.cut l [c]).2.2]) ∧ ∃ q, w' = w.drewN q := by
 unfold maxLen at hl
 have hge := Lib.indexByte_ge l c
 by_cases h0 : 0 ≤ Lib.indexByte l c
 · obtain ⟨k, hk⟩ := Int.eq_ofNat_of_zero_le h0
   have hlt : k < l.length := by
    have := (Lib.indexByte_some hk).1
    rcases Nat.lt_or_ge k l.length with h | h
    · exact h
    · rw [List.getElem?_eq_none h] at this; cases this
   have hidx := fun W => Go.Proofs.Tryz.stringslite_Index_one ⟨l.toArray⟩ c W
   rw [show (⟨l.toArray⟩ : ByteArray).data.toList = l from rfl, hk] at hidx
   rw [cut_one_yes hk]
   have Hidx := Lib.hid hidx
   clear hidx hk h0 hge
   go_enter Tryz.func142, Tryz.ntmps142
   go_wp2_with fail
   refine (Hidx.out _).mono ?_
   rintro e w1 ⟨rfl, rfl⟩
   go_wp2_with fail
   have i1 : IntKind.i64.wrap ((k : Int) + 1) = (k : Int) + 1 := IntWalk.i64_in _ (by omega)
   have i2 : 0 ≤ (k : Int) + 1 := by omega
   have i3 : ((k : Int) + 1).toNat = k + 1 := by omega
   have i4 : (k : Int) + 1 ≤ l.length := by omega
   have i5 : (k : Int) ≤ l.length := by omega
   go_quiet (fail)
   clear i1 i2 i3 i4 i5
   go_wp2_with fail
   go_ret3
   exact ⟨rfl, _, rfl⟩
 · have hidx := fun W => Go.Proofs.Tryz.stringslite_Index_one ⟨l.toArray⟩ c W
   rw [show (⟨l.toArray⟩ : ByteArray).data.toList = l from rfl, show Lib.indexByte l c = -1 by omega] at hidx
   rw [cut_one_no (by omega)]
   have Hidx := Lib.hid hidx
   clear hidx hge h0
   go_enter Tryz.func142, Tryz.ntmps142
   go_wp2_with fail
   refine (Hidx.out _).mono ?_
   rintro e w1 ⟨rfl, rfl⟩
   go_wp2_with fail
   go_ret3
   exact ⟨rfl, 0, rfl⟩
theorem Cut_one (l : List UInt8) (c : UInt8) (w : World) (hl : l.length ≤ maxLen) :
 Calls Tryz.prog 104 #[str l, .string ⟨#[c]⟩] w fun e w' => e = .returned (.tuple #[str (Lib.cut l [c]).1, str (Lib.cut l [c]).2.1, .bool (Lib.cut l [c]).2.2]) ∧ ∃ q, w' = w.drewN q := by
 have h := sliteCut_one l c w hl
 generalize Lib.cut l [c] = x at h ⊢
 obtain ⟨a, b, d⟩ := x
 go_enter Tryz.func104, Tryz.ntmps104
 go_wp2_with fail
 refine h.mono ?_
 rintro e w1 ⟨rfl, q, rfl⟩
 go_wp2_with fail
 go_ret3
 exact ⟨rfl, q, rfl⟩
theorem HasPrefix_any (l p : List UInt8) (w : World) : Calls Tryz.prog 96 #[str l, .string ⟨p.toArray⟩] w fun e w' => e = .returned (.bool (Lib.hasPrefix l p)) ∧ w = w' := by
 refine (Go.Proofs.Tryz.strings_HasPrefix ⟨l.toArray⟩ ⟨p.toArray⟩ w).mono ?_
 rintro e w1 ⟨rfl, rfl⟩
 exact ⟨rfl, rfl⟩
theorem IndexByte_tspec (x : Nat) (w : World) :
 Calls Tryz.prog 89 #[.string ⟨#[40, 41, 60, 62, 64, 44, 59, 58, 92, 34, 47, 91, 93, 63, 61]⟩, .int .u8 (x : Int)] w fun e w' => e = .returned (.int .i64 (idxB tspec x)) ∧ w = w' := by
 refine (Go.Proofs.Tryz.strings_IndexByte ⟨tspec.toArray⟩ (x : Int) w).mono ?_
 rintro e w' ⟨rfl, rfl⟩
 exact ⟨rfl, rfl⟩
theorem token1_any (x : Nat) (hx : x < 256) (w : World) : Calls Tryz.prog 136 #[.int .u8 (x : Int)] w fun e w' => e = .returned (.bool (badTok x)) ∧ w = w' := by
 by_cases h1 : x ≤ 32
 · rw [show badTok x = true by simp [badTok, h1]]
   go_enter Tryz.func136, Tryz.ntmps136
   go_wp2_with fail
   go_ret
   exact ⟨rfl, rfl⟩
 · by_cases h2 : 126 < x
   · rw [show badTok x = true by simp [badTok, h2]]
     go_enter Tryz.func136, Tryz.ntmps136
     go_wp2_with fail
     go_ret
     exact ⟨rfl, rfl⟩
   · have e : badTok x = decide (0 ≤ idxB tspec x) := by simp [badTok, h1, h2]
     have d1 : decide ((x : Int) ≤ 32) = false := by simp; omega
     have d2 : decide ((126 : Int) < x) = false := by simp; omega
     rw [e]
     clear e
     go_enter Tryz.func136, Tryz.ntmps136
     go_wp2_with fail
     refine (IndexByte_tspec x _).mono ?_
     rintro e w1 ⟨rfl, rfl⟩
     go_wp2_with fail
     all_goals
      go_ret
      exact ⟨rfl, rfl⟩
theorem predTok (w : World) : PredB 136 #[] badTok w := fun W x hx _ =>
 (token1_any x hx W).mono fun _e _w' ⟨h1, h2⟩ => ⟨h1, h2 ▸ Below.refl _ _⟩
theorem Token_any (l : List UInt8) (w : World) (hl : l.length ≤ maxLen) : Calls Tryz.prog 94 #[str l] w fun e w' => e = .returned (.bool (tokB l)) ∧ Below w.heap.size w w' := by
 unfold maxLen at hl
 by_cases h0 : l = []
 · subst h0
   rw [show tokB [] = false from rfl]
   go_enter Tryz.func94, Tryz.ntmps94
   go_wp2_with fail
   go_ret
   exact ⟨rfl, Below.refl _ _⟩
 · have h1 : (l == []) = false := by simpa using h0
   by_cases h30 : l.length ≤ 30
   · have e : tokB l = !l.any (fun b => badTok b.toNat) := by simp [tokB, h1, h30]
     rw [e]
     clear e h0
     obtain ⟨A, c, w1, hconv, hby, hnc, hb1, hlt1⟩ := run_toBytes (P := Tryz.prog) w 9 22 5 l Tryz.underlying9 Tryz.underlying22 Tryz.underlying5
     have hcf := ContainsFunc_bytes 136 #[] (enters_of Tryz.func136 (by kernel_rfl) rfl) badTok A l.length c _ l w1 hby (Nat.le_refl _) (by unfold maxLen; omega) (predTok w1)
     generalize l.any (fun b => badTok b.toNat) = r at hcf ⊢
     have Hcf := Lib.hid hcf
     clear hcf hby
     go_enter Tryz.func94, Tryz.ntmps94
     go_wp2_with fail
     refine Hcf.out.mono ?_
     rintro e w2 ⟨rfl, hb2⟩
     go_wp2_with fail
     go_ret
     exact ⟨rfl, hb1.trans (hb2.mono hb1.size)⟩
   · have e : tokB l = false := by simp [tokB, h30]
     rw [e]
     clear e h0
     go_enter Tryz.func94, Tryz.ntmps94
     go_wp2_with fail
     go_ret
     exact ⟨rfl, Below.refl _ _⟩
theorem HasSuffix_any (l p : List UInt8) (w : World) (hl : l.length ≤ maxLen) : Calls Tryz.prog 45 #[str l, .string ⟨p.toArray⟩] w fun e w' => e = .returned (.bool (Lib.hasSuffix l p)) ∧ w = w' := by
 refine (Go.Proofs.Tryz.strings_HasSuffix ⟨l.toArray⟩ ⟨p.toArray⟩ w (by unfold maxLen at hl; simpa [ByteArray.size] using hl)).mono ?_
 rintro e w1 ⟨rfl, rfl⟩
 exact ⟨rfl, rfl⟩
theorem TrimRight_any (l cs : List UInt8) (w : World) (hl : l.length ≤ maxLen) (hc : cs.length < 4294967281) (ha : cs.all (fun b => decide (b.toNat < 128)) = true) :
 Calls Tryz.prog 19 #[str l, .string ⟨cs.toArray⟩] w fun e w' => e = .returned (str (Lib.trimRightS l cs)) ∧ Below w.heap.size w w' :=
 Any.strings_TrimRight_laid Go.Proofs.Tryz.lays162 (by kernel_rfl) ⟨l.toArray⟩ ⟨cs.toArray⟩ w (by unfold maxLen at hl; simpa [ByteArray.size] using hl) (by simpa [ByteArray.size] using hc) (ascii_of_all ha)
theorem or32 : ∀ x : Fin 256, bits .or .u8 ((x.val : Nat) : Int) 32 = ((x.val ||| 32 : Nat) : Int) := by decide +kernel
theorem grown_set (w : World) (b i : Nat) (v : Value) : w.grownBy (w.setCell ⟨b, i, none⟩ v) (some b) :=
 ⟨rfl, rfl, rfl, by simp, fun k _ hne => Below.heap_setCell w ⟨b, i, none⟩ v k (fun e => hne (by rw [e]))⟩
/-- A row of bytes of the call's own, that may be written. -/
def OwnB (w : World) (g : Nat) (l : List UInt8) : Prop := ∃ (cs : Array Value) (fr : Nat × Nat), w.heap[g]? = some (.cells cs 5 fr) ∧ l.length ≤ cs.size ∧ cs.toList.take l.length = Lib.byteCells l ∧ ∀ o, o < l.length → ¬ (fr.1 ≤ o ∧ o < fr.2)
theorem OwnB.by_ {w : World} {g : Nat} {l : List UInt8} (h : OwnB w g l) : By w w.heap.size (some ⟨g, 0, none⟩) l.length l := by
 obtain ⟨cs, fr, h1, h2, h3, _⟩ := h
 refine Sl.of_block h1 (by simp [Lib.byteCells]) fun j u hu => ?_
 rw [Nat.zero_add]
 rw [← h3, List.getElem?_take] at hu
 split at hu
 · simpa using hu
 · cases hu
theorem OwnB.fz {w : World} {g : Nat} {l : List UInt8} (h : OwnB w g l) (o : Nat) (ho : o < l.length) : w.frozen? ⟨g, o, none⟩ = false := by
 obtain ⟨cs, fr, h1, _, _, h4⟩ := h
 have := h4 o ho
 unfold World.frozen?
 rw [h1]
 simp
 omega
theorem OwnB.set {w : World} {g : Nat} {l : List UInt8} (h : OwnB w g l) (k : Nat) (x : UInt8) : OwnB (w.setCell ⟨g, k, none⟩ (.int .u8 (x.toNat : Int))) g (l.set k x) := by
 obtain ⟨cs, fr, h1, h2, h3, h4⟩ := h
 refine ⟨_, fr, Go.Joins.block_setCell h1 _, by simpa using h2, ?_, by simpa using h4⟩
 rw [List.length_set, Array.toList_setIfInBounds, List.take_set, h3]
 simp [Lib.byteCells, List.map_set]
theorem OwnB.below {w w' : World} {g : Nat} {l : List UInt8} (h : OwnB w g l) (hb : Below (g + 1) w w') : OwnB w' g l := by
 obtain ⟨cs, fr, h1, h2⟩ := h
 exact ⟨cs, fr, (hb.block g (by omega)).trans h1, h2⟩
theorem run_toOwn {P : Program} (w : World) (src dst e : TypeId) (l : List UInt8) (hs : P.underlying src = some .string) (hd : P.underlying dst = some (.slice e)) (he : P.underlying e = some (.int .u8)) (hee : e = 5) :
 ∃ c w', (convert src dst (str l)).run P w = .ok (.slice (some ⟨w.heap.size, 0, none⟩) l.length c) w' ∧ OwnB w' w.heap.size l ∧ l.length ≤ c ∧ Below w.heap.size w w' ∧ w'.heap.size = w.heap.size + 1 := by
 subst hee
 refine ⟨_, _, run_bytes_of_string w src dst _ ⟨l.toArray⟩ hs hd he, ⟨_, _, heap_alloc_new w.drew _, ?_, ?_, ?_⟩, grownCap_ge _ _ _ _, (Below.drew (Below.refl _ w)).alloc (Nat.le_refl _) _, by simp⟩
 · simp [bytesRow]
 · simp [bytesRow, Lib.byteCells]
 · intro o ho
   simp [bytesRow]
   omega
theorem low_at (l : List UInt8) (k : Nat) (h : k < l.length) : (l.take k).map lowB ++ l.drop k = ((l.take k).map lowB ++ l.drop k) ∧ ((l.take (k + 1)).map lowB ++ l.drop (k + 1) = ((l.take k).map lowB ++ l.drop k).set k (lowB l[k])) := by
 refine ⟨rfl, ?_⟩
 have hk : ((l.take k).map lowB).length = k := by simp; omega
 rw [List.set_append_right _ _ (by omega), hk, Nat.sub_self, List.drop_eq_getElem_cons h, List.set_cons_zero, List.take_add_one, List.getElem?_eq_getElem h, List.map_append, List.append_assoc]
 rfl
def LowRel (w : World) (n : Nat) (l : List UInt8) (iv : Value) (wr : World) : Prop :=
 ∃ k : Nat, k ≤ n ∧ iv = .int .i64 k ∧ Below w.heap.size w wr ∧ OwnB wr w.heap.size ((l.take k).map lowB ++ l.drop k)
def fieldC (l : List FieldD) : List Value := l.flatMap FieldD.cells
theorem fieldC_len (l : List FieldD) : (fieldC l).length = l.length * 2 := by
 induction l with
 | nil => rfl
 | cons a l ih => unfold fieldC at ih ⊢; rw [List.flatMap_cons, List.length_append, ih]; simp [FieldD.cells]; omega
theorem fieldC_app (a b : List FieldD) : fieldC (a ++ b) = fieldC a ++ fieldC b := by simp [fieldC]
theorem fieldC_one (l : List FieldD) : ∀ u ∈ fieldC l, u.oneCell' = true := by
 intro u hu
 simp only [fieldC, FieldD.cells, List.mem_flatMap, List.mem_cons, List.not_mem_nil, or_false] at hu
 obtain ⟨x, _, rfl | rfl⟩ := hu <;> rfl
theorem infoField : (Tryz.prog.info? 100).map (fun i => (i.zero, i.size, i.bytes)) = some (some (.agg #[.string ⟨#[]⟩, .string ⟨#[]⟩]), 2, 32) := by kernel_rfl
theorem Sl.field {w : World} {B n : Nat} {A : Option Addr} {ls : List FieldD} (h : Sl w B 2 A n (fieldC ls)) (i : Nat) (hi : i < n) :
 ∃ b off x, A = some ⟨b, off, none⟩ ∧ b < B ∧ ls.drop i = x :: ls.drop (i + 1) ∧ w.cell? ⟨b, off + i * 2, none⟩ = some (str x.name) ∧ w.cell? ⟨b, off + i * 2 + 1, none⟩ = some (str x.value) := by
 obtain ⟨b, off, hA, hb, hc⟩ := h.2 (by omega)
 have hl : ls.length = n := by have := h.1; rw [fieldC_len] at this; omega
 have hil : i < ls.length := by omega
 have hd := List.drop_eq_getElem_cons hil
 have hsplit : fieldC ls = fieldC (ls.take i) ++ fieldC (ls.drop i) := by rw [← fieldC_app, List.take_append_drop]
 have hat : ∀ k, k < 2 → (fieldC ls)[i * 2 + k]? = [str ls[i].name, str ls[i].value][k]? := by
  intro k hk
  have e : (fieldC (ls.take i)).length = i * 2 := by rw [fieldC_len, List.length_take, Nat.min_eq_left (by omega)]
  rw [hsplit, List.getElem?_append_right (by omega), e, Nat.add_sub_cancel_left, hd]
  show ((fieldC (ls[i] :: ls.drop (i + 1))))[k]? = _
  rw [show fieldC (ls[i] :: ls.drop (i + 1)) = [str ls[i].name, str ls[i].value] ++ fieldC (ls.drop (i + 1)) from rfl, List.getElem?_append_left (by simpa using hk)]
 exact ⟨b, off, ls[i], hA, hb, hd, hc _ _ (hat 0 (by omega)), hc _ _ (hat 1 (by omega))⟩
/-- Fields whose texts are strings of Go. -/
def smallF (l : List FieldD) : Prop := ∀ f ∈ l, f.name.length ≤ maxLen ∧ f.value.length ≤ maxLen
theorem smallF.at_ {l : List FieldD} (h : smallF l) {i : Nat} {x : FieldD} (hx : l.drop i = x :: l.drop (i + 1)) : x.name.length ≤ maxLen ∧ x.value.length ≤ maxLen :=
 h x (List.mem_of_mem_drop (i := i) (by rw [hx]; simp))
theorem Trim_any (l cs : List UInt8) (w : World) (hl : l.length ≤ maxLen) (hc : cs.length < 4294967281) (ha : cs.all (fun b => decide (b.toNat < 128)) = true) :
 Calls Tryz.prog 79 #[str l, .string ⟨cs.toArray⟩] w fun e w' => e = .returned (str (Lib.trimS l cs)) ∧ Below w.heap.size w w' :=
 Any.strings_Trim_laid Go.Proofs.Tryz.lays160 (by kernel_rfl) ⟨l.toArray⟩ ⟨cs.toArray⟩ w (by unfold maxLen at hl; simpa [ByteArray.size] using hl) (by simpa [ByteArray.size] using hc) (ascii_of_all ha)
theorem value1_h (x : Nat) (hx : x < 256) (w : World) : Calls Tryz.prog 144 #[.int .u8 (x : Int)] w fun e w' => e = .returned (.bool (badVal x)) ∧ w = w' := by
 go_enter Tryz.func144, Tryz.ntmps144
 go_wp2_with fail
 all_goals
  go_ret
  refine ⟨congrArg (fun b => Ending.returned (.bool b)) (?_ : _ = badVal x), rfl⟩
  rw [Bool.eq_iff_iff]
  simp [badVal]
  try omega
theorem predValH (w : World) : PredB 144 #[] badVal w := fun W x hx _ =>
 (value1_h x hx W).mono fun _e _w' ⟨h1, h2⟩ => ⟨h1, h2 ▸ Below.refl _ _⟩
theorem Value_any (l : List UInt8) (w : World) (hl : l.length ≤ maxLen) : Calls Tryz.prog 107 #[str l] w fun e w' => e = .returned (.bool (valB l)) ∧ Below w.heap.size w w' := by
 have htr := fun W => Trim_any l [32] W hl (by decide) (by decide)
 unfold maxLen at hl
 by_cases h9 : l.length ≤ 900
 · have d9 : decide ((l.length : Int) ≤ 900) = true := by simp; omega
   have d9b : decide (l.length ≤ 900) = true := by simpa using h9
   generalize hT : Lib.trimS l [32] = T at htr
   have Htr := Lib.hid htr
   by_cases hs : l = T
   · have e : valB l = !l.any (fun b => badVal b.toNat) := by
      have : (l == Lib.trimS l [32]) = true := by rw [hT]; simpa using hs
      simp [valB, h9, this]
     rw [e]
     have hlT : (l == T) = true := by simpa using hs
     clear e hs hT htr
     have hby := fun W => run_toBytes (P := Tryz.prog) W 9 22 5 l Tryz.underlying9 Tryz.underlying22 Tryz.underlying5
     generalize hr : l.any (fun b => badVal b.toNat) = r
     have Hr := Lib.hid hr
     have Hby := Lib.hid hby
     clear hby hr
     go_enter Tryz.func107, Tryz.ntmps107
     go_wp2_with fail
     refine (Htr.out _).mono ?_
     rintro e w1 ⟨rfl, hb1⟩
     obtain ⟨A, c, w2, hconv, hby2, hnc, hb2, hlt2⟩ := Hby.out w1
     have hcf := ContainsFunc_bytes 144 #[] (enters_of Tryz.func144 (by kernel_rfl) rfl) badVal A l.length c _ l w2 hby2 (Nat.le_refl _) (by unfold maxLen; omega) (predValH w2)
     rw [Hr.out] at hcf
     have Hcf := Lib.hid hcf
     clear hcf hby2
     go_wp2_with fail
     refine Hcf.out.mono ?_
     rintro e w3 ⟨rfl, hb3⟩
     go_wp2_with fail
     go_ret
     exact ⟨rfl, hb1.trans ((hb2.trans (hb3.mono hb2.size)).mono hb1.size)⟩
   · have e : valB l = false := by
      have : (l == Lib.trimS l [32]) = false := by rw [hT]; simpa using hs
      simp [valB, this]
     rw [e]
     have hlT : (l == T) = false := by simpa using hs
     clear e hs hT htr
     go_enter Tryz.func107, Tryz.ntmps107
     go_wp2_with fail
     refine (Htr.out _).mono ?_
     rintro e w1 ⟨rfl, hb1⟩
     go_wp2_with fail
     go_ret
     exact ⟨rfl, hb1⟩
 · have e : valB l = false := by simp [valB, h9]
   have d9 : decide ((l.length : Int) ≤ 900) = false := by simp; omega
   rw [e]
   clear e htr
   go_enter Tryz.func107, Tryz.ntmps107
   go_wp2_with fail
   go_ret
   exact ⟨rfl, Below.refl _ _⟩
theorem box2_new (w : World) (t : TypeId) (u v : Value) : (w.alloc (.cells #[u, v] t)).cell? ⟨w.heap.size, 0, none⟩ = some u ∧ (w.alloc (.cells #[u, v] t)).cell? ⟨w.heap.size, 1, none⟩ = some v := by
 have h := heap_alloc_new w (.cells #[u, v] t)
 constructor <;> (unfold World.cell?; rw [h]; rfl)
def FChkRel (l : List FieldD) (n : Nat) (R : Bool) (w : World) (iv : Value) (wr : World) : Prop :=
 ∃ i : Nat, iv = .int .i64 (i : Nat) ∧ i ≤ n ∧ Below w.heap.size w wr ∧ Hid ((l.drop i).all okF = R)
theorem FCheck_any (l : List FieldD) (A : Option Addr) (n c B : Nat) (w : World) (h : Sl w B 2 A n (fieldC l)) (hB : B ≤ w.heap.size) (hs : smallF l) (hn : n ≤ maxLen) :
 Calls Tryz.prog 106 #[.slice A n c] w fun e w' => e = .returned (.int .i64 (chkF l : Nat)) ∧ Below w.heap.size w w' := by
 have hl : l.length = n := by have := h.1; rw [fieldC_len] at this; omega
 unfold maxLen at hn
 by_cases h20 : 20 < n
 · rw [show chkF l = 2 from by unfold chkF; rw [if_pos (by omega)]]
   have d : decide ((20 : Int) < n) = true := by simp; omega
   clear h hl hs
   go_enter Tryz.func106, Tryz.ntmps106
   go_wp2_with fail
   go_ret
   exact ⟨rfl, Below.refl _ _⟩
 · have d : decide ((20 : Int) < n) = false := by simp; omega
   have hR : chkF l = if l.all okF then 0 else 1 := by unfold chkF; rw [if_neg (by omega)]
   rw [hR]
   obtain ⟨R, hRd⟩ : ∃ R, l.all okF = R := ⟨_, rfl⟩
   rw [hRd]
   have HR := Lib.hid hRd
   have Hl := Lib.hid hl
   have Hs := Lib.hid hs
   have HS := Lib.hid h
   clear h hl hs hR hRd
   go_enter Tryz.func106, Tryz.ntmps106
   go_wp2_with fail
   go_loopw [10] (FChkRel l n R w) (fun iv _ => n - (intOf iv).toNat)
   case atStart => exact ⟨0, rfl, Nat.zero_le _, Below.refl _ _, HR.out⟩
   case round =>
    clear HR
    obtain ⟨i, rfl, hi, hbel, hE⟩ := hrel
    by_cases hin : i < n
    · obtain ⟨b, off, x, rfl, hbB, hx, x0, x1⟩ := (HS.out.below (hbel.mono hB)).field i hin
      obtain ⟨hx1, hx2⟩ := Hs.out.at_ hx
      have h1 := fun W => Token_any x.name W hx1
      have h2 := fun W => Value_any x.value W hx2
      have hE2 : Hid ((okF x && (l.drop (i + 1)).all okF) = R) := by show _ = R; rw [← hE.out, hx, List.all_cons]
      have hok : okF x = (tokB x.name && valB x.value) := rfl
      rw [hok] at hE2
      generalize tokB x.name = t1 at h1 hE2
      generalize valB x.value = t2 at h2 hE2
      have H1 := Lib.hid h1
      have H2 := Lib.hid h2
      have hbA := hbel.alloc hbel.size (.cells #[str x.name, str x.value] 100)
      have y1 := (box2_new wr 100 (str x.name) (str x.value)).2
      clear hx hE hok h1 h2
      cases t1
      · obtain rfl : false = R := by simpa using hE2.out
        go_wp2_with fail
        refine (H1.out _).mono ?_
        rintro e w1 ⟨rfl, hb1⟩
        clear x0 x1
        go_wp2_with fail
        go_ret
        exact ⟨rfl, hbA.trans (hb1.mono hbA.size)⟩
      · go_wp2_with fail
        refine (H1.out _).mono ?_
        rintro e w1 ⟨rfl, hb1⟩
        have y1' := (hb1.cell (p := ⟨wr.heap.size, 1, none⟩) (by simp)).trans y1
        have hbel1 := hbA.trans (hb1.mono hbA.size)
        clear x0 x1 y1
        go_wp2_with fail
        refine (H2.out _).mono ?_
        rintro e w2 ⟨rfl, hb2⟩
        have hbel2 := hbel1.trans (hb2.mono hbel1.size)
        clear y1'
        cases t2
        · obtain rfl : false = R := by simpa using hE2.out
          go_wp2_with fail
          go_ret
          exact ⟨rfl, hbel2⟩
        · have hE3 : Hid ((l.drop (i + 1)).all okF = R) := by show _ = R; rw [← hE2.out]; simp
          clear hE2
          go_wp2_with fail
          exact ⟨⟨i + 1, by go_num, by omega, hbel2, hE3⟩, by simp [intOf]; omega⟩
    · obtain rfl : true = R := by rw [← hE.out, List.drop_of_length_le (by rw [Hl.out]; omega)]; rfl
      go_wp2_with fail
      go_ret
      exact ⟨rfl, hbel⟩
theorem lowerH_any (l : List UInt8) (w : World) (hl : l.length ≤ maxLen) : Calls Tryz.prog 108 #[str l] w fun e w' => e = .returned (str (lowL l)) ∧ Below w.heap.size w w' := by
 unfold maxLen at hl
 obtain ⟨c, w1, hconv, hown, hc, hb1, hsz⟩ := run_toOwn (P := Tryz.prog) w 9 22 5 l Tryz.underlying9 Tryz.underlying22 Tryz.underlying5 rfl
 obtain ⟨n, hn⟩ : ∃ n, n = l.length := ⟨_, rfl⟩
 rw [← hn] at hconv hl hc
 have Hn := Lib.hid hn
 have Hown := Lib.hid hown
 have Hsz := Lib.hid hsz
 clear hn hown hsz
 go_enter Tryz.func108, Tryz.ntmps108
 go_wp2_with fail
 go_loopw [4, 5, 10] (fun _ _ iv wr => LowRel w n l iv wr) (fun _ _ iv _ => n - (intOf iv).toNat)
 case atStart => exact ⟨0, by omega, rfl, hb1, by simpa using Hown.out⟩
 case round =>
  obtain ⟨k, hk, rfl, hbel, hO⟩ := hrel
  have hlen : ((l.take k).map lowB ++ l.drop k).length = n := by
   simp only [List.length_append, List.length_map, List.length_take, List.length_drop]; have := Hn.out; omega
  by_cases hkn : k < n
  · have hkl : k < l.length := by rw [← Hn.out]; exact hkn
    have hfz := hO.fz k (by rw [hlen]; exact hkn)
    have hcell : wr.cell? ⟨w.heap.size, k, none⟩ = some (.int .u8 (nth l k)) := by
     obtain ⟨b, off, hA, _, hc⟩ := hO.by_.opn (by rw [hlen]; omega)
     injection hA with hA
     injection hA with hA hB _
     subst hA
     subst hB
     have := hc k (by rw [hlen]; exact hkn)
     rw [Nat.zero_add] at this
     rw [this]
     have e : nth ((l.take k).map lowB ++ l.drop k) k = nth l k := by
      have : ((l.take k).map lowB).length = k := by simp; omega
      unfold nth
      simp only [List.getD]
      rw [List.getElem?_append_right (by omega), this, Nat.sub_self, List.getElem?_drop, Nat.add_zero]
     rw [e]
    have hx := nth_lt l k
    have hset := (low_at l k hkl).2
    have hnk : l[k].toNat = nth l k := (nth_of l k hkl).symm
    have hO2 := hO.set k (lowB l[k])
    rw [← hset] at hO2
    have HO := Lib.hid hO
    have HO2 := Lib.hid hO2
    have Hset := Lib.hid hset
    have Hnk := Lib.hid hnk
    have Hlen := Lib.hid hlen
    clear hset hnk hO hO2 hlen
    have hsame : ¬ (65 ≤ nth l k ∧ nth l k ≤ 90) → LowRel w n l (.int .i64 ((k + 1 : Nat) : Int)) wr := by
     intro h
     refine ⟨k + 1, by omega, rfl, hbel, ?_⟩
     have e : lowB l[k] = l[k] := by
      unfold lowB
      rw [if_neg]
      intro ⟨h1, h2⟩
      have h1 := UInt8.le_iff_toNat_le.1 h1
      have h2 := UInt8.le_iff_toNat_le.1 h2
      rw [Hnk.out] at h1 h2
      exact h ⟨h1, h2⟩
     rw [Hset.out, e]
     have e2 : ((l.take k).map lowB ++ l.drop k)[k]'(by rw [Hlen.out]; exact hkn) = l[k] := by
      have : ((l.take k).map lowB).length = k := by simp; omega
      rw [List.getElem_append_right (by omega)]
      simp only [List.getElem_drop]
      congr 1
      omega
     rw [← e2, List.set_getElem_self]
     exact HO.out
    by_cases h1 : 65 ≤ nth l k
    · by_cases h2 : nth l k ≤ 90
      · clear hsame
        go_wp2_with fail
        refine ⟨⟨k + 1, by omega, by go_num, hbel.setCell (Nat.le_refl _) _, ?_⟩, by simp [intOf]; omega⟩
        have e : (lowB l[k]).toNat = nth l k + 32 := by
         unfold lowB
         rw [if_pos ⟨UInt8.le_iff_toNat_le.2 (by rw [Hnk.out]; exact h1), UInt8.le_iff_toNat_le.2 (by rw [Hnk.out]; exact h2)⟩, UInt8.toNat_add, Hnk.out]
         show (nth l k + 32) % 256 = _
         omega
        have e2 : ((nth l k : Nat) : Int) + 97 - 65 = (((lowB l[k]).toNat : Nat) : Int) := by rw [e]; omega
        rw [e2]
        exact HO2.out
      · have hs := Lib.hid (hsame (by omega))
        clear hsame
        go_wp2_with fail
        exact ⟨by have := hs.out; simpa using this, by simp [intOf]; omega⟩
    · have hs := Lib.hid (hsame (by omega))
      clear hsame
      go_wp2_with fail
      exact ⟨by have := hs.out; simpa using this, by simp [intOf]; omega⟩
  · have hkn' : k = n := by omega
    have hM : (l.take k).map lowB ++ l.drop k = lowL l := by
     rw [hkn', List.take_of_length_le (by rw [← Hn.out]; omega), List.drop_of_length_le (by rw [← Hn.out]; omega), List.append_nil]; rfl
    rw [hM] at hO hlen
    have hts := run_toStr (P := Tryz.prog) wr 22 9 5 _ (some ⟨w.heap.size, 0, none⟩) n c (lowL l) (by have := hO.by_; rw [hlen] at this; exact this) Tryz.underlying22 Tryz.underlying5 Tryz.underlying9
    clear hO hM hlen hkn'
    go_wp2_with fail
    go_ret
    exact ⟨rfl, hbel⟩
theorem textF_cons (f : FieldD) (l : List FieldD) : textF (f :: l) = lineF f ++ textF l := by simp [textF]
def FTextRel (w : World) (n : Nat) (l : List FieldD) (T : List UInt8) (iv : Value) (wr : World) : Prop :=
 ∃ (i : Nat) (out : List UInt8), iv = .int .i64 (i : Nat) ∧ i ≤ n ∧ Hid (out ++ textF (l.drop i) = T) ∧ Bld w.heap.size out wr ∧ Below w.heap.size w wr
theorem FText_any (l : List FieldD) (A : Option Addr) (n c B : Nat) (w : World) (h : Sl w B 2 A n (fieldC l)) (hB : B ≤ w.heap.size) (hn : n ≤ maxLen) (hlen : (textF l).length ≤ 1000000) :
 Calls Tryz.prog 52 #[.slice A n c] w fun e w' => e = .returned (str (textF l)) ∧ Below w.heap.size w w' := by
 have hl : l.length = n := by have := h.1; rw [fieldC_len] at this; omega
 obtain ⟨T, hT⟩ : ∃ T, T = textF l := ⟨_, rfl⟩
 rw [← hT] at hlen ⊢
 unfold maxLen at hn
 have HT := Lib.hid hT; have Hl := Lib.hid hl; clear hT hl
 go_enter Tryz.func52, Tryz.ntmps52
 go_wp2_with fail
 go_loopw [8] (FTextRel w n l T) (fun iv _ => n - (intOf iv).toNat)
 case atStart => exact ⟨0, [], rfl, by omega, by show [] ++ textF l = T; rw [HT.out]; rfl, Bld.fresh w, (Below.refl _ _).alloc (Nat.le_refl _) _⟩
 case round =>
  obtain ⟨i, out, rfl, hi, hE, hBl, hbel⟩ := hrel
  by_cases hin : i < n
  · obtain ⟨b, off, x, rfl, hbB, hx, x0, x1⟩ := (h.below (hbel.mono hB)).field i hin
    have hE2 : Hid ((out ++ (x.name ++ 58 :: 32 :: (x.value ++ [13, 10]))) ++ textF (l.drop (i + 1)) = T) := by
     show _ = T
     rw [← hE.out, hx, textF_cons, show lineF x = x.name ++ 58 :: 32 :: (x.value ++ [13, 10]) from by simp [lineF], List.append_assoc]
    have hol : out.length + (x.name.length + x.value.length + 4) ≤ 1000000 := by
     have := congrArg List.length hE2.out
     simp only [List.length_append, List.length_cons, List.length_nil] at this
     omega
    have hbA := (Below.refl wr.heap.size wr).alloc (Nat.le_refl _) (.cells #[str x.name, str x.value] 100)
    have hB1 := hBl.below hbA
    have hbelA := hbel.trans (hbA.mono hbel.size)
    have c1 : x.name.length + 2 ≤ 9223372036854775807 := by omega
    have c2 : x.name.length + 2 + x.value.length ≤ 9223372036854775807 := by omega
    have c3 : x.name.length + 2 + x.value.length + 2 ≤ 9223372036854775807 := by omega
    clear hE hx hbA hBl hbel
    go_wp2_with fail
    refine (WriteString_any w.heap.size out _ _ hB1 (by simp only [List.length_append, List.length_cons, List.length_nil]; omega)).mono ?_
    rintro e w2 ⟨rfl, hB2, hb2⟩
    go_wp2_with fail
    exact ⟨⟨i + 1, _, by go_num, by omega, hE2, hB2, hbelA.trans hb2⟩, by simp [intOf]; omega⟩
  · have hE1 : Hid (out ++ [13, 10] = T) := by
     have h := hE.out
     rw [List.drop_of_length_le (by rw [Hl.out]; omega)] at h
     exact h
    have hol : out.length + 2 ≤ 1000000 := by have := congrArg List.length hE1.out; simp only [List.length_append, List.length_cons, List.length_nil] at this; omega
    clear hE
    go_wp2_with fail
    refine (WriteString_any w.heap.size out [13, 10] _ hBl (by simp; omega)).mono ?_
    rintro e w1 ⟨rfl, hB1, hb1⟩
    go_wp2_with fail
    refine (String_any w.heap.size _ _ hB1).mono ?_
    rintro e w2 ⟨rfl, hb2⟩
    go_wp2_with fail
    go_ret
    exact ⟨by rw [hE1.out]; rfl, (hbel.trans hb1).trans hb2⟩
theorem lines_no {k : Nat} {s : List UInt8} {l : List FieldD} (h : (Lib.cut s [10]).2.2 = false) : linesF (k + 1) s l = ([], [], 1) := by
 rw [linesF, if_pos h]
theorem lines_end {k : Nat} {s : List UInt8} {l : List FieldD} (h : (Lib.cut s [10]).2.2 = true) (h2 : chopF (Lib.cut s [10]).1 = []) : linesF (k + 1) s l = if chkF l = 0 then (l, (Lib.cut s [10]).2.1, 0) else ([], [], chkF l) := by
 rw [linesF, if_neg (by rw [h]; simp), if_pos h2]
theorem lines_bad {k : Nat} {s : List UInt8} {l : List FieldD} (h : (Lib.cut s [10]).2.2 = true) (h2 : chopF (Lib.cut s [10]).1 ≠ []) (h3 : goF l (chopF (Lib.cut s [10]).1) = none) : linesF (k + 1) s l = ([], [], 1) := by
 rw [linesF, if_neg (by rw [h]; simp), if_neg h2, h3]
theorem lines_go {k : Nat} {s : List UInt8} {l m : List FieldD} (h : (Lib.cut s [10]).2.2 = true) (h2 : chopF (Lib.cut s [10]).1 ≠ []) (h3 : goF l (chopF (Lib.cut s [10]).1) = some m) : linesF (k + 1) s l = if 20 < m.length then ([], [], 2) else linesF k (Lib.cut s [10]).2.1 m := by
 rw [linesF, if_neg (by rw [h]; simp), if_neg h2, h3]
/-- How many bytes fields hold. -/
def wtF (l : List FieldD) : Nat := (l.map fun f => f.name.length + f.value.length).sum
theorem wtF_app (a b : List FieldD) : wtF (a ++ b) = wtF a + wtF b := by simp [wtF]
theorem wtF_mem : ∀ {l : List FieldD} {f : FieldD}, f ∈ l → f.name.length + f.value.length ≤ wtF l
 | [], _, h => by cases h
 | x :: l, f, h => by
  have e : wtF (x :: l) = x.name.length + x.value.length + wtF l := by simp [wtF]
  rw [e]
  rcases List.mem_cons.1 h with rfl | h
  · omega
  · have := wtF_mem h
    omega
theorem wtF_small {l : List FieldD} {N : Nat} (h : wtF l ≤ N) (hN : N ≤ maxLen) : smallF l := by
 intro f hf
 have := wtF_mem hf
 omega
theorem chop_len (l : List UInt8) : (chopF l).length ≤ l.length := by
 unfold chopF
 split
 · simp
 · exact Nat.le_refl _
theorem cut_sum {s : List UInt8} {c : UInt8} (h : (Lib.cut s [c]).2.2 = true) : s.length = (Lib.cut s [c]).1.length + 1 + (Lib.cut s [c]).2.1.length := by
 have := congrArg List.length (cut_backT s c h)
 simp only [List.length_append, List.length_cons] at this
 omega
theorem more_snoc (init : List FieldD) (f : FieldD) (line : List UInt8) : moreF (init ++ [f]) line = init ++ [{ f with value := Lib.trimS (f.value ++ 32 :: Lib.trimS line [32, 9]) [32] }] := by
 unfold moreF
 rw [List.getLast?_append]
 simp
theorem more_wt (init : List FieldD) (f : FieldD) (line : List UInt8) : wtF (moreF (init ++ [f]) line) ≤ wtF (init ++ [f]) + line.length + 1 := by
 rw [more_snoc, wtF_app, wtF_app]
 have h1 := trim_len (f.value ++ 32 :: Lib.trimS line [32, 9]) [32]
 have h2 := trim_len line [32, 9]
 simp only [List.length_append, List.length_cons] at h1
 simp [wtF]
 omega
theorem fieldC_put (init : List FieldD) (f : FieldD) (v : List UInt8) : (fieldC (init ++ [f])).set (init.length * 2 + 1) (str v) = fieldC (init ++ [{ f with value := v }]) := by
 rw [fieldC_app, fieldC_app, List.set_append_right _ _ (by rw [fieldC_len]; omega), fieldC_len, show init.length * 2 + 1 - init.length * 2 = 1 from by omega]
 rfl
theorem blank_32 {x : Nat} (h : x = 32) : blankF x = true := by subst h; rfl
theorem blank_9 {x : Nat} (h : x = 9) : blankF x = true := by subst h; rfl
theorem blank_no {x : Nat} (h : x ≠ 32) (h2 : x ≠ 9) : blankF x = false := by simp [blankF, h, h2]
theorem goF_blank0 {l : List FieldD} {line : List UInt8} (h : blankF (nth line 0) = true) (h0 : l = []) : goF l line = none := by unfold goF; rw [if_pos h, if_pos h0]
theorem goF_blank {l : List FieldD} {line : List UInt8} (h : blankF (nth line 0) = true) (h0 : l ≠ []) : goF l line = some (moreF l line) := by unfold goF; rw [if_pos h, if_neg h0]
theorem goF_none {l : List FieldD} {line : List UInt8} (h : blankF (nth line 0) = false) (h0 : (Lib.cut line [58]).2.2 = false) : goF l line = none := by unfold goF; rw [if_neg (by rw [h]; simp), if_neg (by rw [h0]; simp)]
theorem goF_new {l : List FieldD} {line : List UInt8} (h : blankF (nth line 0) = false) (h0 : (Lib.cut line [58]).2.2 = true) : goF l line = some (l ++ [⟨(Lib.cut line [58]).1, Lib.trimS (Lib.cut line [58]).2.1 [32, 9]⟩]) := by unfold goF; rw [if_neg (by rw [h]; simp), if_pos h0]
theorem new_wt (l : List FieldD) (line : List UInt8) (h0 : (Lib.cut line [58]).2.2 = true) : wtF (l ++ [⟨(Lib.cut line [58]).1, Lib.trimS (Lib.cut line [58]).2.1 [32, 9]⟩]) ≤ wtF l + line.length := by
 rw [wtF_app]
 have h1 := trim_len (Lib.cut line [58]).2.1 [32, 9]
 have h2 := cut_sum h0
 simp [wtF]
 omega
theorem TrimSuffix13 (l : List UInt8) (w : World) (hl : l.length ≤ maxLen) : Calls Tryz.prog 105 #[str l, .string ⟨#[13]⟩] w fun e w' => e = .returned (str (chopF l)) ∧ w' = w :=
 Go.Proofs.Tryz.strings_TrimSuffix ⟨l.toArray⟩ ⟨#[13]⟩ w (by unfold maxLen at hl; simpa [ByteArray.size] using hl)
theorem pfail_any (e : Nat) (w : World) : Calls Tryz.prog 103 #[.int .i64 (e : Nat)] w fun r w' => r = .returned (.tuple #[.slice none 0 0, .int .i64 0, .int .i64 (e : Nat)]) ∧ w' = w := by
 go_enter Tryz.func103, Tryz.ntmps103
 go_wp2_with fail
 go_ret3
 exact ⟨rfl, rfl⟩
/-- Fields, where what is behind them begins, what is wrong. -/
def ParseRes (r : List FieldD × Nat × Nat) (w : World) (e : Ending) (w' : World) : Prop :=
 ∃ S c, e = .returned (.tuple #[.slice S r.1.length c, .int .i64 (r.2.1 : Nat), .int .i64 (r.2.2 : Nat)]) ∧ Sl w' w'.heap.size 2 S r.1.length (fieldC r.1) ∧ smallF r.1 ∧ r.1.length ≤ c ∧ c ≤ maxLen ∧ Below w.heap.size w w'
theorem ParseRes.fail (e : Nat) {w w' : World} (hb : Below w.heap.size w w') : ParseRes ([], 0, e) w (.returned (.tuple #[.slice none 0 0, .int .i64 0, .int .i64 (e : Nat)])) w' :=
 ⟨none, 0, rfl, Sl.nil_ _ _ _ _, fun f h => (by cases h), Nat.le_refl _, Nat.zero_le _, hb⟩
/-- What the loop's end makes of it. -/
def finF (n : Nat) (r : List FieldD × List UInt8 × Nat) : List FieldD × Nat × Nat := if r.2.2 = 0 then (r.1, n - r.2.1.length, 0) else ([], 0, r.2.2)
theorem parseF_fin {b : List UInt8} (h : ¬ 40000 < b.length) : parseF b = finF b.length (linesF (b.length + 1) b []) := by unfold parseF finF; rw [if_neg h]
def PLRel (n : Nat) (R : List FieldD × List UInt8 × Nat) (w : World) (lv sv : Value) (wr : World) : Prop :=
 ∃ (k : Nat) (s : List UInt8) (out : List FieldD) (S : Option Addr) (m c : Nat), lv = .slice S m c ∧ sv = str s ∧ Hid (linesF k s out = R ∧ s.length < k ∧ out.length = m ∧ wtF out + s.length ≤ n) ∧ s.length ≤ n ∧ m ≤ 20 ∧ m ≤ c ∧ wr.ownsRow w.heap.size 100 2 (.slice S m c) m (fieldC out) ∧ Below w.heap.size w wr
theorem own_capF {w : World} {base : Nat} {e : TypeId} {size : Nat} {S : Option Addr} {n c : Nat} {xs : List Value} (h : w.ownsRow base e size (.slice S n c) n xs) : c ≤ maxLen := by
 rcases h.2 with ⟨hv, h0⟩ | ⟨g', cap', cur', hv', _, _, _, hcm, _⟩
 · injection hv with _ _ hc; rw [hc]; exact Nat.zero_le _
 · injection hv' with _ _ hcc; rw [hcc]; exact hcm
def strLn : Value → Nat | .string b => b.size | _ => 0
theorem strLn_str (l : List UInt8) : strLn (str l) = l.length := by simp [strLn, str, ByteArray.size]
end Go.Proofs.YtinfjdfhkfhgjaaGreatDoor
namespace Go.Proofs.YtinfjdfhkfhgjaaGreatDoor
open Go.RowKit
/-- 'b[k:]' at []byte. -/
theorem cut_bytes (w : World) (A : Option Addr) (n c : Nat) (ki : IntKind) (k : Int) (h0 : 0 ≤ k) (h1 : k ≤ n) :
 (Instr.slice 22 (.slice A n c) (some (.int ki k)) none none).run Tryz.prog w = .ok (.slice (cutA A c k.toNat 1) (n - k.toNat) (c - k.toNat)) w :=
 run_cut w _ _ 1 Tryz.underlying22 (Tryz.sizeOf5 w) A n c ki k h0 h1
attribute [local go_sem high] cut_bytes
theorem take_step (l l' : List UInt8) (k : Nat) (h : k < l.length) (h' : k < l'.length) (ht : l.take k = l'.take k) (hn : nth l k = nth l' k) : l.take (k + 1) = l'.take (k + 1) := by
 rw [List.take_succ_eq_append_getElem h, List.take_succ_eq_append_getElem h', ht]
 rw [nth_of l k h, nth_of l' k h'] at hn
 rw [UInt8.toNat_inj.1 hn]
theorem ne_of_nth (l l' : List UInt8) (k : Nat) (hn : nth l k ≠ nth l' k) : (l == l') = false := by
 rw [beq_eq_false_iff_ne]; rintro rfl; exact hn rfl
theorem Equal_bytes (A A' : Option Addr) (n c n' c' : Nat) (B B' : Nat) (l l' : List UInt8) (w : World) (hb : By w B A n l) (hb' : By w B' A' n' l') (hm : n ≤ maxLen) :
 Calls Tryz.prog 15 #[.slice A n c, .slice A' n' c'] w fun e w' => e = .returned (.bool (l == l')) ∧ ∃ q, w' = w.drewN q := by
 unfold maxLen at hm
 by_cases hnn : n = n'
 · subst hnn
   have hl := hb.len
   have hl' := hb'.len
   have Hl := Lib.hid hl; have Hl' := Lib.hid hl'
   clear hl hl'
   go_enter Tryz.func15, Tryz.ntmps15
   go_wp2_with fail
   go_loopw [13] (fun iv wr => ∃ k q : Nat, k ≤ n ∧ iv = .int .i64 k ∧ Hid (l.take k = l'.take k) ∧ wr = w.drewN q) (fun iv _ => n - (intOf iv).toNat)
   case atStart => exact ⟨0, 0, by omega, rfl, rfl, rfl⟩
   case round =>
    obtain ⟨k, q, hk, rfl, ht, rfl⟩ := hrel
    by_cases hkn : k < n
    · obtain ⟨b, off, rfl, _, hc⟩ := hb.at_ hkn
      obtain ⟨b', off', rfl, _, hc'⟩ := hb'.at_ hkn
      by_cases hx : nth l k = nth l' k
      · have hd : ((nth l k : Int) != (nth l' k : Int)) = false := by simp [hx]
        have Hx := Lib.hid hx; clear hx
        go_wp2_with fail
        go_quiet (fail)
        go_wp2_with fail
        exact ⟨⟨k + 1, _, by omega, by go_num, take_step l l' k (by rw [Hl.out]; exact hkn) (by rw [Hl'.out]; exact hkn) ht.out Hx.out, rfl⟩, by simp [intOf]; omega⟩
      · have hd : ((nth l k : Int) != (nth l' k : Int)) = true := by simp; omega
        have Hx := Lib.hid (ne_of_nth l l' k hx)
        clear hx
        go_wp2_with fail
        go_quiet (fail)
        go_wp2_with fail
        go_ret
        exact ⟨by rw [Hx.out]; rfl, _, World.drewN_drewN _ _ _⟩
    · go_wp2_with fail
      go_ret
      have : l = l' := by
       have h := ht.out
       rwa [List.take_of_length_le (by rw [Hl.out]; omega), List.take_of_length_le (by rw [Hl'.out]; omega)] at h
      exact ⟨by rw [this]; simp, _, rfl⟩
 · have hd : ((n : Int) != (n' : Int)) = true := by simp; omega
   have hll : (l == l') = false := by
    rw [beq_eq_false_iff_ne]
    rintro rfl
    exact hnn (hb.len.symm.trans hb'.len)
   have Hll := Lib.hid hll; clear hll
   go_enter Tryz.func15, Tryz.ntmps15
   go_wp2_with fail
   go_ret
   exact ⟨by rw [Hll.out]; rfl, 0, rfl⟩
end Go.Proofs.YtinfjdfhkfhgjaaGreatDoor
namespace Go.Proofs.YtinfjdfhkfhgjaaGreatDoor
open Go.RowKit
attribute [local go_sem high] cut_bytes
def TextRel (w : World) (T : List UInt8) (bv wv : Value) (wr : World) : Prop :=
 ∃ A' m c' rest out wide, bv = .slice A' m c' ∧ m ≤ c' ∧ m ≤ 4000 ∧ By wr w.heap.size A' m rest ∧ wv = .int .i64 (wide : Nat) ∧ wide ≤ 76 ∧ wide % 4 = 0 ∧ Hid (out ++ enc wide rest = T) ∧ Bld w.heap.size out wr ∧ Below w.heap.size w wr
theorem Text_any (A : Option Addr) (n c : Nat) (l : List UInt8) (w : World) (hb : By w w.heap.size A n l) (hn : n ≤ c) (hc : n ≤ 4000) :
 Calls Tryz.prog 50 #[.slice A n c] w fun e w' => e = .returned (str (enc 0 l)) ∧ Below w.heap.size w w' := by
 obtain ⟨T, hT⟩ : ∃ T, T = enc 0 l := ⟨_, rfl⟩
 have hTl : T.length ≤ 24000 := by
  have := enc_len l.length 0 l (Nat.le_refl _)
  have := hb.len
  rw [hT]; omega
 rw [← hT]
 have HT := Lib.hid hT; clear hT
 go_enter Tryz.func50, Tryz.ntmps50
 go_wp2_with fail
 go_loopw [0, 4] (TextRel w T) (fun bv _ _ => lenOf bv)
 case atStart => exact ⟨A, n, c, l, [], 0, rfl, hn, hc, (hb.alloc (Nat.le_refl _) _), rfl, by omega, rfl, by simpa [Hid] using HT.out.symm, Bld.fresh w, (Below.refl _ _).alloc (Nat.le_refl _) _⟩
 case round =>
  obtain ⟨A', m, c', rest, out, wide, rfl, hm, hm4, hby, rfl, hwd, hw4, hE, hB, hbel⟩ := hrel
  by_cases hm0 : m = 0
  · subst hm0
    go_wp2_with fail
    have hr0 : rest = [] := List.eq_nil_of_length_eq_zero hby.len
    obtain rfl : out = T := by have := hE.out; rw [hr0, enc_nil] at this; simpa using this
    refine (String_any w.heap.size out _ hB).mono ?_
    rintro e w1 ⟨rfl, hb1⟩
    go_wp2_with fail
    go_ret
    exact ⟨rfl, hbel.trans hb1⟩
  · have hmp : 0 < m := by omega
    have hol : out.length ≤ 24000 := by have := congrArg List.length hE.out; simp at this; omega
    obtain ⟨b', off', rfl, hb', hcell⟩ := hby.opn hmp
    have hlen := hby.len
    have hE2 : Hid (out ++ brk wide ++ quad rest ++ enc (after wide) (rest.drop (min 3 m)) = T) := by
     have h := hE.out
     rw [enc_step wide rest (by omega), hlen] at h
     show _ = _
     rw [← h]; simp
    clear hE
    have HLen := Lib.hid hlen; clear hlen
    by_cases hw7 : wide = 76
    case' pos =>
     subst hw7
     go_wp2_with fail
     refine (WriteString_any w.heap.size out [13, 10] _ hB (by simp; omega)).mono ?_
     rintro e w1 ⟨rfl, hB1, hb1⟩
     have hby1 := hby.below hb1
     have hbel1 := hbel.trans hb1
     obtain ⟨out1, ho1⟩ : ∃ o, o = out ++ [13, 10] := ⟨_, rfl⟩
     rw [← ho1] at hB1
     have hE1 : Hid (out1 ++ quad rest ++ enc (after 76) (rest.drop (min 3 m)) = T) := by rw [ho1]; exact hE2.out
     have hol1 : out1.length ≤ 24002 := by rw [ho1]; simp; omega
     have hc1 : ∀ k, k < m → w1.cell? ⟨b', off' + k, none⟩ = some (.int .u8 (nth rest k)) := fun k hk => (hb1.cell (p := ⟨b', _, none⟩) hb').trans (hcell k hk)
     clear hc hcell hB hby hbel hb1 ho1 hE2
     obtain ⟨x4, hx4, hx4b, hx4c, haft⟩ : ∃ x4 : Nat, Hid ((4 : Int) = x4) ∧ x4 ≤ 76 ∧ x4 % 4 = 0 ∧ Hid (after 76 = x4) := ⟨4, rfl, by omega, rfl, rfl⟩
     go_wp2_with fail
    case' neg =>
     have hw7' : ((wide : Int) == 76) = false := by simp; omega
     go_wp2_with fail
     obtain ⟨w1, rfl⟩ : ∃ w1 : World, w1 = wr := ⟨_, rfl⟩
     obtain ⟨out1, rfl⟩ : ∃ o, o = out := ⟨_, rfl⟩
     have hB1 := hB
     have hby1 := hby
     have hbel1 := hbel
     have hE1 : Hid (out1 ++ quad rest ++ enc (after wide) (rest.drop (min 3 m)) = T) := by
      have h := hE2.out
      unfold brk at h
      rw [if_neg hw7] at h
      show _ = _
      rw [← h]; simp
     have hol1 : out1.length ≤ 24002 := by omega
     have hc1 : ∀ k, k < m → w1.cell? ⟨b', off' + k, none⟩ = some (.int .u8 (nth rest k)) := hcell
     clear hc hcell hB hby hbel hE2 hol
     obtain ⟨x4, hx4, hx4b, hx4c, haft⟩ : ∃ x4 : Nat, Hid ((wide : Int) + 4 = x4) ∧ x4 ≤ 76 ∧ x4 % 4 = 0 ∧ Hid (after wide = x4) :=
      ⟨wide + 4, by show _ = _; omega, by omega, by omega, by show after wide = _; unfold after; rw [if_neg hw7]⟩
    all_goals
     go_loop [6, 18] (fun vv iv => ∃ i : Nat, i ≤ 3 ∧ iv = .int .i64 i ∧ vv = .int .i64 (valTo rest i : Nat)) (fun _ iv => 3 - (intOf iv).toNat)
     case atStart => exact ⟨0, by omega, rfl, rfl⟩
     case round =>
      obtain ⟨i, hi, rfl, rfl⟩ := hrel
      have hv := valTo_lt rest i
      by_cases hi3 : i < 3
      · have hv2 : valTo rest i < 65536 := by
         rcases (by omega : i = 0 ∨ i = 1 ∨ i = 2) with rfl | rfl | rfl <;> omega
        by_cases him : i < m
        · have hci := hc1 i him
          have hn8 := nth_lt rest i
          have hor : bits .or .i64 ((valTo rest i : Int) * 256) (nth rest i : Int) = ((valTo rest (i + 1) : Nat) : Int) := by
           have := i64_or (valTo rest i * 256) (nth rest i) (by omega) (by omega)
           rw [or_low8 (valTo rest i) (nth rest i) (by omega), Int.natCast_mul] at this
           exact this
          go_wp2_with fail
          exact ⟨⟨i + 1, by omega, by go_num, rfl⟩, by simp [intOf]; omega⟩
        · have hnx : Hid (valTo rest (i + 1) = valTo rest i * 256) := by
           show valTo rest i * 256 + nth rest i = _
           rw [nth_ge rest i (by rw [HLen.out]; omega)]; omega
          go_wp2_with fail
          exact ⟨⟨i + 1, by omega, by go_num, by rw [hnx.out]; go_num⟩, by simp [intOf]; omega⟩
      · obtain rfl : i = 3 := by omega
        have hk0 : 0 ≤ min 3 (m : Int) := by omega
        have hk1 : min 3 (m : Int) ≤ m := by omega
        go_wp2_with fail
        go_loopw [34] (fun iv wr => ∃ i : Nat, i ≤ 4 ∧ iv = .int .i64 i ∧ Bld w.heap.size (out1 ++ (quad rest).take i) wr ∧ Below w.heap.size w1 wr) (fun iv _ => 4 - (intOf iv).toNat)
        case atStart => exact ⟨0, by omega, rfl, by simpa using hB1, Below.refl _ _⟩
        case round =>
         obtain ⟨i, hi, rfl, hBi, hbi⟩ := hrel
         by_cases hi4 : i < 4
         · have hqt : ∀ x : UInt8, x = quadL (min 3 rest.length) (val3 rest) i → out1 ++ (quad rest).take i ++ [x] = out1 ++ (quad rest).take (i + 1) := fun x hx => by rw [hx, quad_take rest i hi4]; simp
           have Hqt := Lib.hid hqt; clear hqt
           have htl : ((quad rest).take i).length ≤ 4 := by simp; omega
           by_cases hgt : min 3 m < i
           · go_wp2_with fail
             refine (WriteByte_any w.heap.size _ 61 _ hBi (by omega) (by omega) (by simp only [List.length_append]; omega)).mono ?_
             rintro e w2 ⟨rfl, hB2, hb2⟩
             go_wp2_with fail
             refine ⟨⟨i + 1, by omega, by go_num, ?_, hbi.trans hb2⟩, by simp [intOf]; omega⟩
             exact Hqt.out 61 (by rw [quadL_gt (by rw [HLen.out]; exact hgt)]) ▸ hB2
           · obtain ⟨q, hq⟩ : ∃ q, q = valTo rest 3 / 2 ^ (18 - 6 * i) % 64 := ⟨_, rfl⟩
             have hq64 : q < 64 := by omega
             have hand : bits .and .i64 ((valTo rest 3 : Int) / 2 ^ (18 - 6 * i)) 63 = (q : Int) := by
              have h := i64_and (valTo rest 3 / 2 ^ (18 - 6 * i)) 63 (Nat.lt_of_le_of_lt (Nat.div_le_self _ _) (by have := valTo_lt rest 3; omega)) (by omega)
              rw [and_63, ← hq] at h
              simpa using h
             have Hq := Lib.hid hq; clear hq
             have hn8 := nth_lt letters q
             go_wp2_with fail
             refine (WriteByte_any w.heap.size _ _ _ hBi (Int.natCast_nonneg _) (Int.ofNat_lt.2 (nth_lt _ _)) (by simp only [List.length_append]; omega)).mono ?_
             rintro e w2 ⟨rfl, hB2, hb2⟩
             go_wp2_with fail
             refine ⟨⟨i + 1, by omega, by go_num, ?_, hbi.trans hb2⟩, by simp [intOf]; omega⟩
             exact Hqt.out (UInt8.ofNat (nth letters q)) (by rw [quadL_le (by rw [HLen.out]; exact hgt), Hq.out, valTo_three]) ▸ hB2
         · obtain rfl : i = 4 := by omega
           go_wp2_with fail
           have hk3 : (min 3 (m : Int)).toNat = min 3 m := by omega
           refine ⟨?rel, ?measure⟩
           case rel =>
            refine ⟨_, _, _, rest.drop (min 3 m), out1 ++ quad rest, x4, rfl, by omega, by omega, ?_, by rw [← hx4.out], hx4b, hx4c, ?_, ?_, hbel1.trans hbi⟩
            · rw [hk3]; exact (hby1.below hbi).cut (by omega) hm
            · have h := hE1.out; have ha := haft.out; rw [ha] at h; exact h
            · rw [← List.take_of_length_le (Nat.le_of_eq (quad_len rest))]; exact hBi
           case measure => simp only [lenOf]; omega
end Go.Proofs.YtinfjdfhkfhgjaaGreatDoor
namespace Go.Proofs.YtinfjdfhkfhgjaaGreatDoor
open Go.RowKit
theorem and15 : ∀ x : Fin 256, bits .and .u8 ((x.val : Nat) : Int) 15 = ((x.val % 16 : Nat) : Int) := by decide +kernel
theorem one_plain (c : UInt8) (w : World) (h : plainQ c.toNat = true) : Calls Tryz.prog 97 #[.int .u8 (c.toNat : Int)] w fun e w' => e = .returned (str [c]) ∧ Below w.heap.size w w' := by
 have hx := c.toNat_lt
 have hts := run_toStr (P := Tryz.prog) (w.alloc (.cells #[.int .u8 (c.toNat : Int)] 5)) 22 9 5 _ _ 1 1 [c] (By.block w [c] rfl) Tryz.underlying22 Tryz.underlying5 Tryz.underlying9
 simp only [plainQ, Bool.and_eq_true, decide_eq_true_eq, Bool.not_eq_true', beq_eq_false_iff_ne] at h
 obtain ⟨⟨h1, h2⟩, h3⟩ := h
 generalize c.toNat = x at *
 have h3' : ((x : Int) != 61) = true := by simp; omega
 go_enter Tryz.func97, Tryz.ntmps97
 go_wp2_with fail
 go_ret
 exact ⟨rfl, (Below.refl _ w).alloc (Nat.le_refl _) _⟩
theorem code_str (w : World) (p q : Nat) :
 (convert 22 9 (.slice (some ⟨w.heap.size, 0, none⟩) 3 3)).run Tryz.prog ((w.alloc (.cells #[.int .u8 61, .int .u8 (nth [48, 49, 50, 51, 52, 53, 54, 55, 56, 57, 65, 66, 67, 68, 69, 70] p : Nat), .int .u8 (nth [48, 49, 50, 51, 52, 53, 54, 55, 56, 57, 65, 66, 67, 68, 69, 70] q : Nat)] 137)).drew) =
   .ok (str [61, digits.getD p 0, digits.getD q 0]) ((w.alloc (.cells #[.int .u8 61, .int .u8 (nth [48, 49, 50, 51, 52, 53, 54, 55, 56, 57, 65, 66, 67, 68, 69, 70] p : Nat), .int .u8 (nth [48, 49, 50, 51, 52, 53, 54, 55, 56, 57, 65, 66, 67, 68, 69, 70] q : Nat)] 137)).drew) :=
 run_toStr (P := Tryz.prog) _ 22 9 5 _ _ 3 3 [61, digits.getD p 0, digits.getD q 0] (By.block w [61, digits.getD p 0, digits.getD q 0] rfl) Tryz.underlying22 Tryz.underlying5 Tryz.underlying9
theorem one_low (c : UInt8) (w : World) (h : c.toNat ≤ 32) : Calls Tryz.prog 97 #[.int .u8 (c.toNat : Int)] w fun e w' => e = .returned (str (oneQ c)) ∧ Below w.heap.size w w' := by
 have hx := c.toNat_lt
 have hand := and15 ⟨c.toNat, hx⟩
 have ho : oneQ c = [61, digits.getD (c.toNat / 16) 0, digits.getD (c.toNat % 16) 0] := by
  unfold oneQ; rw [if_neg (by simp [plainQ]; omega)]
 rw [ho]
 clear ho
 have hts := code_str w (c.toNat / 16) (c.toNat % 16)
 generalize c.toNat = x at *
 simp only at hand
 go_enter Tryz.func97, Tryz.ntmps97
 go_wp2_with fail
 go_region
 go_wp2_with fail
 go_ret
 exact ⟨rfl, ((Below.refl _ w).alloc (Nat.le_refl _) _).drew⟩
theorem one_high (c : UInt8) (w : World) (h : 126 < c.toNat) : Calls Tryz.prog 97 #[.int .u8 (c.toNat : Int)] w fun e w' => e = .returned (str (oneQ c)) ∧ Below w.heap.size w w' := by
 have hx := c.toNat_lt
 have hand := and15 ⟨c.toNat, hx⟩
 have ho : oneQ c = [61, digits.getD (c.toNat / 16) 0, digits.getD (c.toNat % 16) 0] := by
  unfold oneQ; rw [if_neg (by simp [plainQ]; omega)]
 rw [ho]
 clear ho
 have hts := code_str w (c.toNat / 16) (c.toNat % 16)
 generalize c.toNat = x at *
 simp only at hand
 go_enter Tryz.func97, Tryz.ntmps97
 go_wp2_with fail
 go_region
 go_wp2_with fail
 go_ret
 exact ⟨rfl, ((Below.refl _ w).alloc (Nat.le_refl _) _).drew⟩
theorem one_eq (c : UInt8) (w : World) (h : c.toNat = 61) : Calls Tryz.prog 97 #[.int .u8 (c.toNat : Int)] w fun e w' => e = .returned (str (oneQ c)) ∧ Below w.heap.size w w' := by
 have hx := c.toNat_lt
 have hand := and15 ⟨c.toNat, hx⟩
 have ho : oneQ c = [61, digits.getD (c.toNat / 16) 0, digits.getD (c.toNat % 16) 0] := by
  unfold oneQ; rw [if_neg (by simp [plainQ]; omega)]
 rw [ho]
 clear ho
 have hts := code_str w (c.toNat / 16) (c.toNat % 16)
 generalize c.toNat = x at *
 simp only at hand
 have h1 : 32 < x := by omega
 have h2 : x ≤ 126 := by omega
 have h3 : ((x : Int) != 61) = false := by simp [h]
 clear h
 go_enter Tryz.func97, Tryz.ntmps97
 go_wp2_with fail
 go_region
 go_wp2_with fail
 go_ret
 exact ⟨rfl, ((Below.refl _ w).alloc (Nat.le_refl _) _).drew⟩
theorem one_any (c : UInt8) (w : World) : Calls Tryz.prog 97 #[.int .u8 (c.toNat : Int)] w fun e w' => e = .returned (str (oneQ c)) ∧ Below w.heap.size w w' := by
 by_cases hp : plainQ c.toNat = true
 · have : oneQ c = [c] := by unfold oneQ; rw [if_pos hp]
   rw [this]; exact one_plain c w hp
 · by_cases h1 : c.toNat ≤ 32
   · exact one_low c w h1
   · by_cases h2 : 126 < c.toNat
     · exact one_high c w h2
     · refine one_eq c w ?_
       simp [plainQ] at hp
       omega
def QTextRel (w : World) (n : Nat) (l T : List UInt8) (wv iv : Value) (wr : World) : Prop :=
 ∃ (i wide : Nat) (out : List UInt8), iv = .int .i64 (i : Nat) ∧ wv = .int .i64 (wide : Nat) ∧ i ≤ n ∧ wide ≤ 75 ∧ Hid (out ++ encQ wide (l.drop i) = T) ∧ Bld w.heap.size out wr ∧ Below w.heap.size w wr
theorem QText_any (A : Option Addr) (n c : Nat) (l : List UInt8) (w : World) (hb : By w w.heap.size A n l) (_hn : n ≤ c) (hc : n ≤ 4000) :
 Calls Tryz.prog 51 #[.slice A n c] w fun e w' => e = .returned (str (encQ 0 l)) ∧ Below w.heap.size w w' := by
 obtain ⟨T, hT⟩ : ∃ T, T = encQ 0 l := ⟨_, rfl⟩
 have hl := hb.len
 have hTl : T.length ≤ 24000 := by
  have := encQ_len l 0
  rw [hT]; omega
 rw [← hT]
 have HT := Lib.hid hT; have Hl := Lib.hid hl; clear hT hl
 go_enter Tryz.func51, Tryz.ntmps51
 go_wp2_with fail
 go_loopw [4, 10] (QTextRel w n l T) (fun _ iv _ => n - (intOf iv).toNat)
 case atStart => exact ⟨0, 0, [], rfl, rfl, by omega, by omega, by show [] ++ encQ 0 l = T; rw [HT.out]; rfl, Bld.fresh w, (Below.refl _ _).alloc (Nat.le_refl _) _⟩
 case round =>
  obtain ⟨i, wide, out, rfl, rfl, hi, hw, hE, hB, hbel⟩ := hrel
  by_cases hin : i < n
  · have hby := hb.below hbel
    obtain ⟨b, off, rfl, _, hcell⟩ := hby.at_ hin
    obtain ⟨x, hx, hd⟩ : ∃ x : UInt8, x.toNat = nth l i ∧ l.drop i = x :: l.drop (i + 1) :=
     ⟨l[i]'(by rw [Hl.out]; exact hin), by rw [nth_of l i (by rw [Hl.out]; exact hin)], List.drop_eq_getElem_cons (by rw [Hl.out]; exact hin)⟩
    rw [← hx] at hcell
    have hE2 : Hid (out ++ encQ wide (x :: l.drop (i + 1)) = T) := by show _ = _; rw [← hd]; exact hE.out
    have hol : out.length ≤ 24000 := by have := congrArg List.length hE.out; simp at this; omega
    clear hE hx hd
    go_wp2_with fail
    refine (one_any x _).mono ?_
    rintro e w1 ⟨rfl, hb1⟩
    have hB1 := hB.below hb1
    have hbel1 := hbel.trans (hb1.mono hbel.size)
    have h13 := oneQ_len x
    have hob : (oneQ x).length ≤ 3 := by omega
    by_cases h75 : 75 < wide + (oneQ x).length
    · have hE3 : Hid (out ++ [61, 13, 10] ++ oneQ x ++ encQ (oneQ x).length (l.drop (i + 1)) = T) := by
       have h := hE2.out; unfold encQ at h; rw [if_pos h75] at h; show _ = _; rw [← h]; simp
      clear hE2 h13
      go_wp2_with fail
      refine (WriteString_any w.heap.size out [61, 13, 10] _ hB1 (by simp; omega)).mono ?_
      rintro e w2 ⟨rfl, hB2, hb2⟩
      go_wp2_with fail
      refine (WriteString_any w.heap.size _ (oneQ x) _ hB2 (by simp; omega)).mono ?_
      rintro e w3 ⟨rfl, hB3, hb3⟩
      go_wp2_with fail
      exact ⟨⟨i + 1, (oneQ x).length, _, by go_num, by go_num, by omega, by omega, hE3, hB3, (hbel1.trans hb2).trans hb3⟩, by simp [intOf]; omega⟩
    · have hE3 : Hid (out ++ oneQ x ++ encQ (wide + (oneQ x).length) (l.drop (i + 1)) = T) := by
       have h := hE2.out; unfold encQ at h; rw [if_neg h75] at h; show _ = _; rw [← h]; simp
      clear hE2 h13
      go_wp2_with fail
      refine (WriteString_any w.heap.size out (oneQ x) _ hB1 (by omega)).mono ?_
      rintro e w3 ⟨rfl, hB3, hb3⟩
      go_wp2_with fail
      exact ⟨⟨i + 1, wide + (oneQ x).length, _, by go_num, by go_num, by omega, by omega, hE3, hB3, hbel1.trans hb3⟩, by simp [intOf]; omega⟩
  · have ho : out = T := by
     have h := hE.out
     rw [List.drop_of_length_le (by rw [Hl.out]; omega)] at h
     simpa [encQ] using h
    subst ho
    go_wp2_with fail
    refine (String_any w.heap.size out _ hB).mono ?_
    rintro e w1 ⟨rfl, hb1⟩
    go_wp2_with fail
    go_ret
    exact ⟨rfl, hbel.trans hb1⟩
end Go.Proofs.YtinfjdfhkfhgjaaGreatDoor

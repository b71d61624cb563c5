import Derived.Test.YtdhmmepcnladcaaDoorRU2
import Derived.Test.YtdhmmepcnladcaaDoorUrl7
import Derived.Test.YtdhmmepcnladcaaDoorUrlB
namespace Go.Proofs.YtdhmmepcnladcaaDoor
open Go.RowKit

/-! ### The document's text of an address -/
/-- A variable that holds a list of texts of the call's own. -/
def TxtAt (L : Nat) (W : World) (l : List (List UInt8)) : Prop :=
  ∃ S c, W.cell? ⟨L, 0, none⟩ = some (.slice S l.length c) ∧ W.frozen? ⟨L, 0, none⟩ = false ∧ W.ownsRow (L + 1) 9 1 (.slice S l.length c) l.length (l.map str)
theorem TxtAt.lt {L : Nat} {W : World} {l : List (List UInt8)} (h : TxtAt L W l) : L < W.heap.size := by
  obtain ⟨S, c, h1, _⟩ := h
  rcases Nat.lt_or_ge L W.heap.size with h' | h'
  · exact h'
  · simp [World.cell?, Array.getElem?_eq_none h'] at h1
theorem TxtAt.below {L : Nat} {W W' : World} {l : List (List UInt8)} (h : TxtAt L W l) (hb : Below W.heap.size W W') : TxtAt L W' l := by
  have hlt := h.lt
  obtain ⟨S, c, h1, h2, h3⟩ := h
  exact ⟨S, c, (hb.cell (p := ⟨L, 0, none⟩) hlt).trans h1, (hb.frozen (p := ⟨L, 0, none⟩) hlt).trans h2, own_below h3 hb⟩
set_option maxRecDepth 100000 in
set_option maxHeartbeats 1000000 in
theorem addT_any (ok : Bool) (L : Nat) (l xs : List (List UInt8)) (A : Option Addr) (n c B : Nat) (W : World) (h : TxtAt L W l) (hx : Sl W B 1 A n (xs.map str)) (hl : l.length ≤ 100) (hn : n ≤ 100) :
    Calls Tryd.prog 122 #[.bool ok, .slice A n c, .pointer (some ⟨L, 0, none⟩)] W fun e W' => e = .returned (.tuple #[]) ∧ TxtAt L W' (if ok then l ++ xs else l) ∧ Below L W W' := by
  obtain ⟨i0, hi0, hz0, hz1, hz2⟩ := info_parts infoStrU
  have hlt := h.lt
  have hxl : xs.length = n := by have := hx.len; simpa using this
  have hq := h
  obtain ⟨S, cS, h1, h2, h3⟩ := h
  cases ok
  · go_enter Tryd.func122, Tryd.ntmps122
    go_wp2_with fail
    go_end0
    exact ⟨rfl, hq, Below.refl _ _⟩
  · have h63 : l.length + n ≤ maxLen := by unfold maxLen; omega
    have h47 : (l.length + n) * 16 ≤ 140737488355328 := by omega
    have hbase : L + 1 ≤ W.heap.size := hlt
    have Hxl := Lib.hid hxl
    have Hq := Lib.hid hq
    clear hq hxl
    go_enter Tryd.func122, Tryd.ntmps122
    go_wp2_with (at_builtin; refine wpList_app rfl _ _ 41 rfl (L + 1) 9 i0 (.string ⟨#[]⟩) 1 16 Tryd.underlying41 hi0 hz0 hz1 hz2 rfl (by decide) S l.length cS (l.map str) rfl h3 B A n c (xs.map str) rfl hx (one_str xs) h63 h47 hbase ?_)
    intro S' c' w2 hown2 hb2 _
    have y0 : w2.cell? ⟨L, 0, none⟩ = some (.slice S l.length cS) := (hb2.cell (p := ⟨L, 0, none⟩) (Nat.lt_succ_self L)).trans h1
    have f0 : w2.frozen? ⟨L, 0, none⟩ = false := (hb2.frozen (p := ⟨L, 0, none⟩) (Nat.lt_succ_self L)).trans h2
    have hne : (Value.slice S' (l.length + n) c').ownBlock = none ∨ (Value.slice S' (l.length + n) c').ownBlock ≠ some L := by
      cases hS : (Value.slice S' (l.length + n) c').ownBlock with
      | none => exact .inl rfl
      | some k => have := (hown2.lt k hS).1; right; intro e; injection e with e; omega
    have hown3 := hown2.kept (grown_set w2 L 0 (.slice S' (l.length + n) c')) hne
    have hT : TxtAt L (w2.setCell ⟨L, 0, none⟩ (.slice S' (l.length + n) c')) (l ++ xs) := by
      have e : (l ++ xs).length = l.length + n := by rw [List.length_append, Hxl.out]
      refine ⟨S', c', ?_, ?_, ?_⟩
      · rw [e]; exact World.cell?_setCell_same w2 _ _ y0
      · rw [← f0]; simp [World.frozen?, World.setCell, Array.getElem?_modify]; cases w2.heap[L]? with
        | none => rfl
        | some o => cases o <;> rfl
      · rw [e, List.map_append]; exact hown3
    have hBl : Below L W (w2.setCell ⟨L, 0, none⟩ (.slice S' (l.length + n) c')) := (hb2.mono (Nat.le_succ L)).setCell (Nat.le_refl _) _
    have HT := Lib.hid hT
    have HB := Lib.hid hBl
    clear hT hBl hown2 hown3 hb2 hne
    go_wp2_with fail
    go_end0
    exact ⟨rfl, HT.out, HB.out⟩
theorem join_flat : ∀ L : List (List UInt8), Lib.join L [] = L.flatten
  | [] => rfl
  | [x] => by rw [Lib.join_one]; simp
  | x :: y :: r => by
    have ih := join_flat (y :: r)
    rw [List.flatten_cons, ← ih]
    simp [Lib.join, List.intercalate, List.intersperse]
theorem Join_flat (L : List (List UInt8)) (S : Option Addr) (c : Nat) (w : World) (base : Nat) (ho : w.ownsRow base 9 1 (.slice S L.length c) L.length (L.map str)) (h0 : 0 < L.length) (hN : L.length ≤ 1000000) (hl : L.flatten.length ≤ 1000000) :
    Calls Tryd.prog 123 #[.slice S L.length c, .string ⟨#[]⟩] w fun e w' => e = .returned (str L.flatten) ∧ Below w.heap.size w w' := by
  have hc := own_cap ho
  obtain ⟨b, off, hS, hb, hcell⟩ := (Sl.of_own ho).2 h0
  subst hS
  have hd : (L.map (fun l => (⟨l.toArray⟩ : ByteArray))).map (·.data.toList) = L := by
    rw [List.map_map]
    conv => rhs; rw [← List.map_id L]
    exact List.map_congr_left fun x _ => rfl
  have hj : Lib.join ((L.map (fun l => (⟨l.toArray⟩ : ByteArray))).map (·.data.toList)) (⟨#[]⟩ : ByteArray).data.toList = L.flatten := by
    rw [hd]; exact join_flat L
  have h := Go.Proofs.Tryd.strings_Join b off c (L.map fun l => (⟨l.toArray⟩ : ByteArray)) ⟨#[]⟩ w (fun j x hx => by
    rw [List.getElem?_map] at hx
    cases hg : L[j]? with
    | none => rw [hg] at hx; cases hx
    | some y =>
      rw [hg] at hx
      simp only [Option.map_some, Option.some.injEq] at hx
      rw [← hx]
      exact hcell j (str y) (by rw [List.getElem?_map, hg]; rfl)) hb (by rw [List.length_map]; omega) (by rw [List.length_map]; exact hc) (by rw [hj]; omega)
  rw [hj, List.length_map] at h
  exact h
theorem Sl.two (w : World) (t : TypeId) (a b : List UInt8) : Sl (w.alloc (.cells #[str a, str b] t)) (w.heap.size + 1) 1 (some ⟨w.heap.size, 0, none⟩) 2 ([a, b].map str) := Sl.row w t 1 2 [str a, str b] rfl
theorem Sl.onS (w : World) (t : TypeId) (a : List UInt8) : Sl (w.alloc (.cells #[str a] t)) (w.heap.size + 1) 1 (some ⟨w.heap.size, 0, none⟩) 1 ([a].map str) := Sl.row w t 1 1 [str a] rfl
def app1 (ok : Bool) (l xs : List (List UInt8)) : List (List UInt8) := if ok then l ++ xs else l
theorem app1_len (ok : Bool) (l xs : List (List UInt8)) : (app1 ok l xs).length ≤ l.length + xs.length := by
  unfold app1; split
  · rw [List.length_append]; exact Nat.le_refl _
  · omega
theorem text_parts (u : UrlD) : textU u = (app1 u.hasFrag (app1 u.hasQuery (app1 true (app1 u.hasHost (app1 (!u.scheme.isEmpty) [] [u.scheme, [58]]) [[47, 47], u.host]) [u.path]) [[63], u.query]) [[35], u.frag]).flatten := by
  obtain ⟨sc, hh, ho, pa, hq, qu, hf, fr⟩ := u
  unfold textU app1
  by_cases h : sc = []
  · subst h
    cases hh <;> cases hq <;> cases hf <;> simp
  · have : sc.isEmpty = false := by simpa using h
    rw [this]
    cases hh <;> cases hq <;> cases hf <;> simp [h]
set_option maxRecDepth 100000 in
set_option maxHeartbeats 2000000 in
theorem RText_any (sc ho pa qu fr : List UInt8) (hh hq hf : Bool) (w : World) (l0 : sc.length ≤ 1000) (l1 : ho.length ≤ 1000) (l2 : pa.length ≤ 1000) (l3 : qu.length ≤ 1000) (l4 : fr.length ≤ 1000) :
    Calls Tryd.prog 47 #[.agg #[str sc, .bool hh, str ho, str pa, .bool hq, str qu, .bool hf, str fr]] w fun e w' => e = .returned (str (textU ⟨sc, hh, ho, pa, hq, qu, hf, fr⟩)) ∧ Below w.heap.size w w' := by
  have htx := text_parts ⟨sc, hh, ho, pa, hq, qu, hf, fr⟩
  simp only at htx
  have hlen : (textU ⟨sc, hh, ho, pa, hq, qu, hf, fr⟩).length ≤ 10000 := by
    unfold textU
    simp only [List.length_append]
    have a1 : (if sc = [] then [] else sc ++ [58] : List UInt8).length ≤ 1001 := by split <;> simp <;> omega
    have a2 : (if hh = true then [47, 47] ++ ho else [] : List UInt8).length ≤ 1002 := by split <;> simp <;> omega
    have a3 : (if hq = true then 63 :: qu else [] : List UInt8).length ≤ 1001 := by split <;> simp <;> omega
    have a4 : (if hf = true then 35 :: fr else [] : List UInt8).length ≤ 1001 := by split <;> simp <;> omega
    omega
  obtain ⟨q1, hq1⟩ : ∃ q, q = app1 (!sc.isEmpty) [] [sc, [58]] := ⟨_, rfl⟩
  rw [← hq1] at htx
  obtain ⟨q2, hq2⟩ : ∃ q, q = app1 hh q1 [[47, 47], ho] := ⟨_, rfl⟩
  rw [← hq2] at htx
  obtain ⟨q3, hq3⟩ : ∃ q, q = app1 true q2 [pa] := ⟨_, rfl⟩
  rw [← hq3] at htx
  obtain ⟨q4, hq4⟩ : ∃ q, q = app1 hq q3 [[63], qu] := ⟨_, rfl⟩
  rw [← hq4] at htx
  obtain ⟨q5, hq5⟩ : ∃ q, q = app1 hf q4 [[35], fr] := ⟨_, rfl⟩
  rw [← hq5] at htx
  have n1 : q1.length ≤ 2 := by have := app1_len (!sc.isEmpty) [] [sc, [58]]; rw [hq1]; simpa using this
  have n2 : q2.length ≤ 4 := by have := app1_len hh q1 [[47, 47], ho]; rw [hq2]; simp only [List.length_cons, List.length_nil] at this; omega
  have n3 : q3.length ≤ 5 := by have := app1_len true q2 [pa]; rw [hq3]; simp only [List.length_cons, List.length_nil] at this; omega
  have n3' : 0 < q3.length := by rw [hq3]; unfold app1; rw [if_pos rfl, List.length_append]; simp
  have n4 : q4.length ≤ 7 := by have := app1_len hq q3 [[63], qu]; rw [hq4]; simp only [List.length_cons, List.length_nil] at this; omega
  have n4' : 0 < q4.length := by rw [hq4]; unfold app1; split; rw [List.length_append]; omega; exact n3'
  have n5 : q5.length ≤ 9 := by have := app1_len hf q4 [[35], fr]; rw [hq5]; simp only [List.length_cons, List.length_nil] at this; omega
  have n5' : 0 < q5.length := by rw [hq5]; unfold app1; split; rw [List.length_append]; omega; exact n4'
  rw [htx] at hlen ⊢
  clear htx
  obtain ⟨R, hR⟩ : ∃ R, R = q5.flatten := ⟨_, rfl⟩
  rw [← hR]
  have HR := Lib.hid hR
  have Hq1 := Lib.hid hq1
  have Hq2 := Lib.hid hq2
  have Hq3 := Lib.hid hq3
  have Hq4 := Lib.hid hq4
  have Hq5 := Lib.hid hq5
  have Hlen := Lib.hid hlen
  clear hR hq1 hq2 hq3 hq4 hq5 hlen
  obtain ⟨wA, hwA⟩ : ∃ W, W = w.alloc (.cells #[str sc, .bool hh, str ho, str pa, .bool hq, str qu, .bool hf, str fr] 59) := ⟨_, rfl⟩
  obtain ⟨W, hW⟩ : ∃ W, W = wA.alloc (.cells #[.slice none 0 0] 41) := ⟨_, rfl⟩
  have hbA : Below w.heap.size w wA := by rw [hwA]; exact (Below.refl _ w).alloc (Nat.le_refl _) _
  have hbx : UB wA w.heap.size ⟨sc, hh, ho, pa, hq, qu, hf, fr⟩ := by rw [hwA]; exact UB.new w ⟨sc, hh, ho, pa, hq, qu, hf, fr⟩
  have sA : wA.heap.size = w.heap.size + 1 := by rw [hwA]; simp
  have hbW : Below wA.heap.size wA W := by rw [hW]; exact (Below.refl _ wA).alloc (Nat.le_refl _) _
  have hu : UB W w.heap.size ⟨sc, hh, ho, pa, hq, qu, hf, fr⟩ := hbx.below hbW
  have hT0 : TxtAt (w.heap.size + 1) W [] := by
    refine ⟨none, 0, ?_, ?_, World.ownsRow_nil _ _ _ _⟩
    · rw [hW, ← sA, Go.Joins.cell_of_block (heap_alloc_new wA _)]; rfl
    · rw [hW, ← sA]; exact World.frozen?_alloc_new wA _ _ 0
  have hbel : Below w.heap.size w W := hbA.trans (hbW.mono hbA.size)
  have sW : W.heap.size = w.heap.size + 1 + 1 := by rw [hW]; simp [sA]
  have hWW : W = (w.alloc (.cells #[str sc, .bool hh, str ho, str pa, .bool hq, str qu, .bool hf, str fr] 59)).alloc (.cells #[.slice none 0 0] 41) := by rw [hW, hwA]
  clear hwA hW hbA hbx sA hbW
  have step : ∀ (X X' : World) (l : List (List UInt8)), UB X w.heap.size ⟨sc, hh, ho, pa, hq, qu, hf, fr⟩ → Below w.heap.size w X → Below (w.heap.size + 1) X X' → UB X' w.heap.size ⟨sc, hh, ho, pa, hq, qu, hf, fr⟩ ∧ Below w.heap.size w X' := fun X X' l h1 h2 h3 => ⟨(h3.block w.heap.size (Nat.lt_succ_self _)).trans h1, h2.trans (h3.mono (Nat.le_succ _))⟩
  have Hstep := Lib.hid step
  clear step
  obtain ⟨c0, c1, c2, c3, c4, c5, c6, c7⟩ := hu.box
  go_enter Tryd.func47, Tryd.ntmps47
  go_wp2_with fail
  rw [← hWW]
  clear hWW
  have hu0 := hu
  have hbel0 := hbel
  clear hu hbel
  have hT0 : TxtAt (w.heap.size + 1) W ([] : List (List UInt8)) := hT0
  have hw1 : Below W.heap.size W (W.alloc (.cells #[str sc, .string ⟨#[58]⟩] 9)) := (Below.refl _ W).alloc (Nat.le_refl _) _
  have hA1 := addT_any (!sc.isEmpty) (w.heap.size + 1) [] [sc, [58]] (some ⟨W.heap.size, 0, none⟩) 2 2 (W.heap.size + 1) _ (hT0.below hw1) (Sl.two W _ (sc) ([58])) (by simp) (by omega)
  rw [sW] at hA1
  refine hA1.mono ?_
  rintro e w1 ⟨rfl, hT1', hb1⟩
  clear hA1
  have hT1 : TxtAt (w.heap.size + 1) w1 q1 := by rw [Hq1.out]; exact hT1'
  obtain ⟨hu1, hbel1⟩ := Hstep.out W w1 [] hu0 hbel0 ((hw1.mono (by omega)).trans hb1)
  obtain ⟨c0, c1, c2, c3, c4, c5, c6, c7⟩ := hu1.box
  clear hT1' hb1 hw1
  have z1 := hT1.lt
  go_wp2_with fail
  have hw2 : Below w1.heap.size w1 (w1.alloc (.cells #[.string ⟨#[47, 47]⟩, str ho] 9)) := (Below.refl _ w1).alloc (Nat.le_refl _) _
  have hA2 := addT_any hh (w.heap.size + 1) q1 [[47, 47], ho] (some ⟨w1.heap.size, 0, none⟩) 2 2 (w1.heap.size + 1) _ (hT1.below hw2) (Sl.two w1 _ ([47, 47]) (ho)) (by omega) (by omega)
  refine hA2.mono ?_
  rintro e w2 ⟨rfl, hT2', hb2⟩
  clear hA2
  have hT2 : TxtAt (w.heap.size + 1) w2 q2 := by rw [Hq2.out]; exact hT2'
  obtain ⟨hu2, hbel2⟩ := Hstep.out w1 w2 [] hu1 hbel1 ((hw2.mono (by omega)).trans hb2)
  obtain ⟨c0, c1, c2, c3, c4, c5, c6, c7⟩ := hu2.box
  clear hT2' hb2 hw2
  have z2 := hT2.lt
  go_wp2_with fail
  have hw3 : Below w2.heap.size w2 (w2.alloc (.cells #[str pa] 9)) := (Below.refl _ w2).alloc (Nat.le_refl _) _
  have hA3 := addT_any true (w.heap.size + 1) q2 [pa] (some ⟨w2.heap.size, 0, none⟩) 1 1 (w2.heap.size + 1) _ (hT2.below hw3) (Sl.onS w2 _ (pa)) (by omega) (by omega)
  refine hA3.mono ?_
  rintro e w3 ⟨rfl, hT3', hb3⟩
  clear hA3
  have hT3 : TxtAt (w.heap.size + 1) w3 q3 := by rw [Hq3.out]; exact hT3'
  obtain ⟨hu3, hbel3⟩ := Hstep.out w2 w3 [] hu2 hbel2 ((hw3.mono (by omega)).trans hb3)
  obtain ⟨c0, c1, c2, c3, c4, c5, c6, c7⟩ := hu3.box
  clear hT3' hb3 hw3
  have z3 := hT3.lt
  go_wp2_with fail
  have hw4 : Below w3.heap.size w3 (w3.alloc (.cells #[.string ⟨#[63]⟩, str qu] 9)) := (Below.refl _ w3).alloc (Nat.le_refl _) _
  have hA4 := addT_any hq (w.heap.size + 1) q3 [[63], qu] (some ⟨w3.heap.size, 0, none⟩) 2 2 (w3.heap.size + 1) _ (hT3.below hw4) (Sl.two w3 _ ([63]) (qu)) (by omega) (by omega)
  refine hA4.mono ?_
  rintro e w4 ⟨rfl, hT4', hb4⟩
  clear hA4
  have hT4 : TxtAt (w.heap.size + 1) w4 q4 := by rw [Hq4.out]; exact hT4'
  obtain ⟨hu4, hbel4⟩ := Hstep.out w3 w4 [] hu3 hbel3 ((hw4.mono (by omega)).trans hb4)
  obtain ⟨c0, c1, c2, c3, c4, c5, c6, c7⟩ := hu4.box
  clear hT4' hb4 hw4
  have z4 := hT4.lt
  go_wp2_with fail
  have hw5 : Below w4.heap.size w4 (w4.alloc (.cells #[.string ⟨#[35]⟩, str fr] 9)) := (Below.refl _ w4).alloc (Nat.le_refl _) _
  have hA5 := addT_any hf (w.heap.size + 1) q4 [[35], fr] (some ⟨w4.heap.size, 0, none⟩) 2 2 (w4.heap.size + 1) _ (hT4.below hw5) (Sl.two w4 _ ([35]) (fr)) (by omega) (by omega)
  refine hA5.mono ?_
  rintro e w5 ⟨rfl, hT5', hb5⟩
  clear hA5
  have hT5 : TxtAt (w.heap.size + 1) w5 q5 := by rw [Hq5.out]; exact hT5'
  obtain ⟨hu5, hbel5⟩ := Hstep.out w4 w5 [] hu4 hbel4 ((hw5.mono (by omega)).trans hb5)
  obtain ⟨c0, c1, c2, c3, c4, c5, c6, c7⟩ := hu5.box
  clear hT5' hb5 hw5
  obtain ⟨S, cS, y0, _, ho5⟩ := hT5
  have hJ := Join_flat q5 S cS w5 _ ho5 n5' (by omega) (by have := Hlen.out; omega)
  rw [← HR.out] at hJ
  have HJ := Lib.hid hJ
  clear hJ ho5 n1 n2 n3 n3' n4 n4' n5 n5' c0 c1 c2 c3 c4 c5 c6 c7
  go_wp2_with fail
  refine HJ.out.mono ?_
  rintro e w6 ⟨rfl, hb6⟩
  go_wp2_with fail
  go_ret
  exact ⟨rfl, hbel5.trans (hb6.mono hbel5.size)⟩
end Go.Proofs.YtdhmmepcnladcaaDoor

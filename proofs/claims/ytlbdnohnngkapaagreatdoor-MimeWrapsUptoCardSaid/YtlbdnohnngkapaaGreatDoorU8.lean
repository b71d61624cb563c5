import Derived.Test.YtlbdnohnngkapaaGreatDoorU7
namespace Go.Proofs.YtlbdnohnngkapaaGreatDoor
open Go.RowKit
attribute [local go_sem high] cut_bytes

/-! ### The reader's count -/
def RdIs (w : World) (g cnt : Nat) : Prop := w.heap[g]? = some (.cells #[.int .i64 (cnt : Nat)] 109 (0, 0))
theorem RdIs.lt {w : World} {g cnt : Nat} (h : RdIs w g cnt) : g < w.heap.size := by
  rcases Nat.lt_or_ge g w.heap.size with h' | h'
  · exact h'
  · unfold RdIs at h; rw [Array.getElem?_eq_none h'] at h; cases h
theorem RdIs.cell {w : World} {g cnt : Nat} (h : RdIs w g cnt) : w.cell? ⟨g, 0, none⟩ = some (.int .i64 (cnt : Nat)) := by unfold RdIs at h; unfold World.cell?; rw [h]; rfl
theorem RdIs.fz {w : World} {g cnt : Nat} (h : RdIs w g cnt) : w.frozen? ⟨g, 0, none⟩ = false := by
  unfold RdIs at h
  unfold World.frozen?
  rw [h]
  simp
theorem RdIs.below {w w' : World} {g cnt : Nat} (h : RdIs w g cnt) (hb : Below w.heap.size w w') : RdIs w' g cnt := (hb.block g h.lt).trans h
theorem RdIs.set {w : World} {g cnt : Nat} (h : RdIs w g cnt) (x : Nat) : RdIs (w.setCell ⟨g, 0, none⟩ (.int .i64 (x : Nat))) g x := by
  unfold RdIs at h ⊢
  simp only [World.setCell, Array.getElem?_modify, if_pos, h, Option.map_some]
  rfl
theorem RdIs.other {w w' : World} {g cnt : Nat} (h : RdIs w g cnt) (hb : w'.heap[g]? = w.heap[g]?) : RdIs w' g cnt := hb.trans h
theorem gM_below {w a b : World} {r : Option Nat} (h : w.grownBy a r) (hb : Below a.heap.size a b) : w.grownBy b r :=
  ⟨hb.os.trans h.os, hb.tape.trans h.tape, hb.output.trans h.output, Nat.le_trans h.size hb.size, fun k hk hne => (hb.block k (Nat.lt_of_lt_of_le hk h.size)).trans (h.block k hk hne)⟩
theorem gM_tr {w a b : World} {r : Option Nat} (h : w.grownBy a r) (k : a.grownBy b r) : w.grownBy b r :=
  ⟨k.os.trans h.os, k.tape.trans h.tape, k.output.trans h.output, Nat.le_trans h.size k.size, fun j hj hne => (k.block j (Nat.lt_of_lt_of_le hj h.size) hne).trans (h.block j hj hne)⟩
theorem gM_of {w a : World} {r : Option Nat} (h : Below w.heap.size w a) : w.grownBy a r := ⟨h.os, h.tape, h.output, h.size, fun k hk _ => h.block k hk⟩
/-- What lies elsewhere may change. -/
theorem gM_new {w a b : World} {r r2 : Option Nat} (h : w.grownBy a r) (k : a.grownBy b r2) (hr : ∀ g, r2 = some g → w.heap.size ≤ g) : w.grownBy b r :=
  ⟨k.os.trans h.os, k.tape.trans h.tape, k.output.trans h.output, Nat.le_trans h.size k.size, fun j hj hne => (k.block j (Nat.lt_of_lt_of_le hj h.size) (fun e => by have := hr j e.symm; omega)).trans (h.block j hj hne)⟩
theorem PartAt.grownM {S S' : Nat → Prop} {w w' : World} {g : Nat} {p : PartD} {v : List Value} (h : PartAt S w p v) (hg : w.grownBy w' (some g)) (hS : ∀ b, S b → S' b ∧ b < w.heap.size ∧ b ≠ g) : PartAt S' w' p v :=
  PartAt.change (fun b hb => (hS b hb).1) (fun q hq => World.cell?_of_block (hg.block _ (hS _ hq).2.1 (fun e => (hS _ hq).2.2 (by injection e)))) p v h

theorem zero_at (S : Nat → Prop) (w : World) : PartAt S w zeroPD [.string ⟨#[]⟩, .string ⟨#[]⟩, .string ⟨#[]⟩, .string ⟨#[]⟩, .int .i64 0, .slice none 0 0, .slice none 0 0] :=
  ⟨none, 0, 0, none, 0, 0, [], rfl, by refine ⟨?_, ?_, ?_, ?_, ?_, ?_⟩ <;> decide, ⟨rfl, fun h => absurd h (by simp)⟩, Nat.le_refl _, Nat.zero_le _, ⟨rfl, fun h => absurd h (by omega)⟩, Nat.le_refl _, Nat.zero_le _, rfl⟩
set_option maxHeartbeats 1000000 in
theorem rfail_any (e : Nat) (w : World) : Calls Tryz.prog 158 #[.int .i64 (e : Nat)] w fun r w' => r = .returned (.tuple #[.agg #[.string ⟨#[]⟩, .string ⟨#[]⟩, .string ⟨#[]⟩, .string ⟨#[]⟩, .int .i64 0, .slice none 0 0, .slice none 0 0], .int .i64 (e : Nat)]) ∧ Below w.heap.size w w' := by
  go_enter Tryz.func158, Tryz.ntmps158
  go_wp2_with fail
  exact bodyPost_ret (v := .tuple #[.agg #[.string ⟨#[]⟩, .string ⟨#[]⟩, .string ⟨#[]⟩, .string ⟨#[]⟩, .int .i64 0, .slice none 0 0, .slice none 0 0], .int .i64 (e : Nat)]) (by simp [results, Tryz.results158, go_sem]) rfl ⟨rfl, (Below.refl _ w).alloc (Nat.le_refl _) _⟩
theorem low_ascii {l : List UInt8} (h : tokB l = true) : asciiL (lowL l) := by
  obtain ⟨_, h1, h2⟩ := tok_mem h
  refine ⟨by unfold lowL; rw [List.length_map]; omega, fun b hb => ?_⟩
  unfold lowL at hb
  obtain ⟨x, hx, rfl⟩ := List.mem_map.1 hb
  have := (h2 x hx).2.1
  rw [lowB_nat]
  split <;> omega
theorem loopP_names : ∀ (k : Nat) (rest : List UInt8) (more : Bool) (l r : List FieldD), loopP k rest more l = (r, 0) → (∀ f ∈ l, asciiL f.name) → ∀ f ∈ r, asciiL f.name
  | 0, rest, more, l, r, h, _ => by rw [loopP] at h; cases h
  | k + 1, rest, more, l, r, h, hl => by
    rw [loopP] at h
    split at h
    · injection h with h _; rw [← h]; exact hl
    · simp only at h
      split at h
      · cases h
      · rename_i hn
        have hn : tokB (Lib.trimS (Lib.cut (Lib.trimLeftS rest [32]) [61]).1 [32]) = true := by
          cases ht : tokB (Lib.trimS (Lib.cut (Lib.trimLeftS rest [32]) [61]).1 [32]) with
          | true => rfl
          | false => rw [ht] at hn; simp at hn
        have hadd : ∀ v, ∀ f ∈ l ++ [FieldD.mk (lowL (Lib.trimS (Lib.cut (Lib.trimLeftS rest [32]) [61]).1 [32])) v], asciiL f.name := by
          intro v f hf
          rcases List.mem_append.1 hf with hf | hf
          · exact hl f hf
          · simp at hf; subst hf; exact low_ascii hn
        split at h
        · split at h
          · cases h
          · split at h
            · cases h
            · split at h
              · cases h
              · exact loopP_names k _ _ _ _ h (hadd _)
        · split at h
          · cases h
          · split at h
            · cases h
            · exact loopP_names k _ _ _ _ h (hadd _)
theorem params_names {s main : List UInt8} {ps : List FieldD} (h : paramsF s = (main, ps, 0)) : (∀ f ∈ ps, asciiL f.name) ∧ main.length ≤ s.length := by
  unfold paramsF at h
  split at h
  · cases h
  · simp only at h
    split at h
    · rename_i h0
      injection h with h1 h2
      injection h2 with h2 _
      refine ⟨?_, ?_⟩
      · rw [← h2]
        exact loopP_names _ _ _ [] _ (Prod.ext rfl h0) (by simp)
      · rw [← h1]
        unfold lowL
        rw [List.length_map]
        have a := trim_len (Lib.cut s [59]).1 [32]
        have b := congrArg List.length (cut_back s 59)
        rw [List.length_append] at b
        omega
    · rename_i h0; injection h with _ h; injection h with _ h; exact absurd h h0
theorem BoxF.m1 {w : World} {b : Nat} {v0 v1 v2 v3 v4 v5 v6 : Value} (h : BoxF w b v0 v1 v2 v3 v4 v5 v6) (u : Value) : BoxF (w.setCell ⟨b, 1, none⟩ u) b v0 u v2 v3 v4 v5 v6 := by
  obtain ⟨⟨h0, h1, h2, h3, h4, h5, h6⟩, hf⟩ := h
  have far : ∀ k v, k ≠ 1 → w.cell? ⟨b, k, none⟩ = some v → (w.setCell ⟨b, 1, none⟩ u).cell? ⟨b, k, none⟩ = some v := fun k v h5 h => by
    rw [World.cell?_setCell_other _ _ _ _ (by simp <;> omega)]; exact h
  exact ⟨⟨far 0 _ (by omega) h0, World.cell?_setCell_same _ _ _ h1, far 2 _ (by omega) h2, far 3 _ (by omega) h3, far 4 _ (by omega) h4, far 5 _ (by omega) h5, far 6 _ (by omega) h6⟩, fun k => by simpa using hf k⟩
theorem BoxF.m4 {w : World} {b : Nat} {v0 v1 v2 v3 v4 v5 v6 : Value} (h : BoxF w b v0 v1 v2 v3 v4 v5 v6) (u : Value) : BoxF (w.setCell ⟨b, 4, none⟩ u) b v0 v1 v2 v3 u v5 v6 := by
  obtain ⟨⟨h0, h1, h2, h3, h4, h5, h6⟩, hf⟩ := h
  have far : ∀ k v, k ≠ 4 → w.cell? ⟨b, k, none⟩ = some v → (w.setCell ⟨b, 4, none⟩ u).cell? ⟨b, k, none⟩ = some v := fun k v h5 h => by
    rw [World.cell?_setCell_other _ _ _ _ (by simp <;> omega)]; exact h
  exact ⟨⟨far 0 _ (by omega) h0, far 1 _ (by omega) h1, far 2 _ (by omega) h2, far 3 _ (by omega) h3, World.cell?_setCell_same _ _ _ h4, far 5 _ (by omega) h5, far 6 _ (by omega) h6⟩, fun k => by simpa using hf k⟩
theorem BoxF.m5 {w : World} {b : Nat} {v0 v1 v2 v3 v4 v5 v6 : Value} (h : BoxF w b v0 v1 v2 v3 v4 v5 v6) (u : Value) : BoxF (w.setCell ⟨b, 5, none⟩ u) b v0 v1 v2 v3 v4 u v6 := by
  obtain ⟨⟨h0, h1, h2, h3, h4, h5, h6⟩, hf⟩ := h
  have far : ∀ k v, k ≠ 5 → w.cell? ⟨b, k, none⟩ = some v → (w.setCell ⟨b, 5, none⟩ u).cell? ⟨b, k, none⟩ = some v := fun k v h5 h => by
    rw [World.cell?_setCell_other _ _ _ _ (by simp <;> omega)]; exact h
  exact ⟨⟨far 0 _ (by omega) h0, far 1 _ (by omega) h1, far 2 _ (by omega) h2, far 3 _ (by omega) h3, far 4 _ (by omega) h4, World.cell?_setCell_same _ _ _ h5, far 6 _ (by omega) h6⟩, fun k => by simpa using hf k⟩
theorem BoxF.m6 {w : World} {b : Nat} {v0 v1 v2 v3 v4 v5 v6 : Value} (h : BoxF w b v0 v1 v2 v3 v4 v5 v6) (u : Value) : BoxF (w.setCell ⟨b, 6, none⟩ u) b v0 v1 v2 v3 v4 v5 u := by
  obtain ⟨⟨h0, h1, h2, h3, h4, h5, h6⟩, hf⟩ := h
  have far : ∀ k v, k ≠ 6 → w.cell? ⟨b, k, none⟩ = some v → (w.setCell ⟨b, 6, none⟩ u).cell? ⟨b, k, none⟩ = some v := fun k v h5 h => by
    rw [World.cell?_setCell_other _ _ _ _ (by simp <;> omega)]; exact h
  exact ⟨⟨far 0 _ (by omega) h0, far 1 _ (by omega) h1, far 2 _ (by omega) h2, far 3 _ (by omega) h3, far 4 _ (by omega) h4, far 5 _ (by omega) h5, World.cell?_setCell_same _ _ _ h6⟩, fun k => by simpa using hf k⟩
def AnyW (_w : World) : Prop := True
theorem anyW (w : World) : AnyW w := True.intro
theorem splitF_small (border : List UInt8) (N : Nat) : ∀ (f : Nat) (b : List UInt8) (cur : Option (List UInt8)) (out : List (List UInt8)), (cur.getD []).length + b.length ≤ N → out.length + b.length ≤ N → (∀ x ∈ out, x.length ≤ N) →
    (∀ x ∈ (splitF border f b cur out).1, x.length ≤ N) ∧ (splitF border f b cur out).1.length ≤ N
  | 0, _, _, _, _, _, _ => by rw [splitF]; simp
  | f + 1, b, cur, out, h1, h2, h3 => by
    have hch : ∀ (l : List UInt8) (c : UInt8), (chopB l c).length ≤ l.length := by
      intro l c
      unfold chopB
      split
      · simp
      · exact Nat.le_refl _
    have hin : ∀ l : List UInt8, (innerM l).length ≤ l.length := fun l => Nat.le_trans (hch _ _) (hch _ _)
    have ho : (∀ x ∈ openM cur out, x.length ≤ N) ∧ (openM cur out).length ≤ out.length + 1 := by
      cases cur with
      | none => exact ⟨h3, by simp [openM]⟩
      | some c =>
        refine ⟨fun x hx => ?_, by simp [openM]⟩
        simp only [openM, List.mem_append, List.mem_singleton] at hx
        rcases hx with hx | rfl
        · exact h3 x hx
        · have := hin c
          simp only [Option.getD_some] at h1
          omega
    rw [splitF]
    by_cases hb : b = []
    · rw [if_pos hb]; simp
    · rw [if_neg hb]
      obtain ⟨l1, l2⟩ := line_len hb
      have l3 := congrArg List.length l2
      rw [List.length_append] at l3
      split
      · exact splitF_small border N f _ _ _ (by simp; omega) (by omega) ho.1
      · split
        · exact ⟨ho.1, by show (openM cur out).length ≤ N; omega⟩
        · refine splitF_small border N f _ _ _ ?_ (by omega) h3
          cases cur with
          | none => simp only [Option.map_none, Option.getD_none, List.length_nil] at h1 ⊢; omega
          | some c => simp only [Option.map_some, Option.getD_some, List.length_append] at h1 ⊢; omega
theorem split_small (b border : List UInt8) (h : b.length ≤ 40000) : ∀ x ∈ (splitM b border).1, x.length ≤ 40000 := by
  unfold splitM
  split
  · simp
  · split
    · simp
    · exact (splitF_small border 40000 _ b none [] (by simpa using h) (by simpa using h) (by simp)).1
theorem split_many (b border : List UInt8) (h : b.length ≤ 40000) : (splitM b border).1.length ≤ 40000 := by
  unfold splitM
  split
  · simp
  · split
    · simp
    · exact (splitF_small border 40000 _ b none [] (by simpa using h) (by simpa using h) (by simp)).2
/-- What the reader leaves. -/
def ReadRes (r : PartD × Nat × Nat) (g : Nat) (w : World) (e : Ending) (w' : World) : Prop :=
  ∃ v0 v1 v2 v3 v4 v5 v6, e = .returned (.tuple #[.agg #[v0, v1, v2, v3, v4, v5, v6], .int .i64 (r.2.2 : Nat)]) ∧ PartAt (fun b => w.heap.size ≤ b ∧ b < w'.heap.size) w' r.1 [v0, v1, v2, v3, v4, v5, v6] ∧ RdIs w' g r.2.1 ∧ w.grownBy w' (some g)
def tyM (l : List FieldD) : List UInt8 := if getF l ctN = [] then [116, 101, 120, 116, 47, 112, 108, 97, 105, 110] else getF l ctN
def manyM (k cnt : Nat) (l : List FieldD) (rest main : List UInt8) (ps : List FieldD) : PartD × Nat × Nat :=
  if (splitM rest (getF ps boundN)).2 ≠ 0 then (zeroPD, cnt + 1, (splitM rest (getF ps boundN)).2)
  else if (eachM (partM k) (splitM rest (getF ps boundN)).1 (cnt + 1) []).2.2 ≠ 0 then (zeroPD, (eachM (partM k) (splitM rest (getF ps boundN)).1 (cnt + 1) []).2.1, (eachM (partM k) (splitM rest (getF ps boundN)).1 (cnt + 1) []).2.2)
  else (⟨main, [], idM (getF l idN), getF l locN, 0, [], (eachM (partM k) (splitM rest (getF ps boundN)).1 (cnt + 1) []).1⟩, (eachM (partM k) (splitM rest (getF ps boundN)).1 (cnt + 1) []).2.1, 0)
def leafM (cnt : Nat) (l : List FieldD) (rest main : List UInt8) (ps : List FieldD) : PartD × Nat × Nat :=
  if (bodyM (getF l cteN) rest).2.2 ≠ 0 then (zeroPD, cnt + 1, (bodyM (getF l cteN) rest).2.2)
  else (⟨main, getF ps charsetN, idM (getF l idN), getF l locN, (bodyM (getF l cteN) rest).1, (bodyM (getF l cteN) rest).2.1, []⟩, cnt + 1, 0)
theorem partM_step (k cnt : Nat) (b : List UInt8) : partM (k + 1) cnt b =
    if 12 < cnt + 1 then (zeroPD, cnt + 1, 2)
    else if (parseF b).2.2 ≠ 0 then (zeroPD, cnt + 1, (parseF b).2.2)
    else if (paramsF (tyM (parseF b).1)).2.2 ≠ 0 then (zeroPD, cnt + 1, (paramsF (tyM (parseF b).1)).2.2)
    else if manyB (paramsF (tyM (parseF b).1)).1 then manyM k cnt (parseF b).1 (b.drop (parseF b).2.1) (paramsF (tyM (parseF b).1)).1 (paramsF (tyM (parseF b).1)).2.1
    else leafM cnt (parseF b).1 (b.drop (parseF b).2.1) (paramsF (tyM (parseF b).1)).1 (paramsF (tyM (parseF b).1)).2.1 := rfl
/-- What stands once a part's body is read. -/
def LeafSt (w : World) (g cnt pb : Nat) (main cv iv lv : List UInt8) (yh : Int) (bb : List UInt8) (wx : World) : Prop :=
  ∃ A5 c5, BoxF wx pb (str main) (str cv) (str iv) (str lv) (.int .i64 yh) (.slice A5 bb.length c5) (.slice none 0 0) ∧ SlS (fun q => w.heap.size + 1 ≤ q ∧ q < wx.heap.size) wx 1 A5 bb.length (Lib.byteCells bb) ∧ bb.length ≤ c5 ∧ c5 ≤ maxLen ∧
    BoxF wx w.heap.size (.string ⟨#[]⟩) (.string ⟨#[]⟩) (.string ⟨#[]⟩) (.string ⟨#[]⟩) (.int .i64 0) (.slice none 0 0) (.slice none 0 0) ∧ RdIs wx g cnt ∧ w.grownBy wx (some g)
theorem BoxF.same_ {w w' : World} {b : Nat} {v0 v1 v2 v3 v4 v5 v6 : Value} (h : BoxF w b v0 v1 v2 v3 v4 v5 v6) (e : w'.heap[b]? = w.heap[b]?) : BoxF w' b v0 v1 v2 v3 v4 v5 v6 := by
  obtain ⟨⟨h0, h1, h2, h3, h4, h5, h6⟩, hf⟩ := h
  have c : ∀ k, w'.cell? ⟨b, k, none⟩ = w.cell? ⟨b, k, none⟩ := fun k => World.cell?_of_block (a := ⟨b, k, none⟩) e
  exact ⟨⟨(c 0).trans h0, (c 1).trans h1, (c 2).trans h2, (c 3).trans h3, (c 4).trans h4, (c 5).trans h5, (c 6).trans h6⟩, fun k => (World.frozen?_of_block (a := ⟨b, k, none⟩) e).trans (hf k)⟩
theorem BoxF.lt_ {w : World} {b : Nat} {v0 v1 v2 v3 v4 v5 v6 : Value} (h : BoxF w b v0 v1 v2 v3 v4 v5 v6) : b < w.heap.size := World.block_lt_of_cell? _ _ h.1.1
def NewB (L : Nat) (v : Value) (wr : World) (b : Nat) : Prop := L ≤ b ∧ b < wr.heap.size ∧ Value.ownBlock v ≠ some b
/-- Two blocks may have changed. -/
def KeptB (g pb : Nat) (wS wr : World) : Prop := wS.heap.size ≤ wr.heap.size ∧ ∀ j, j < wS.heap.size → j ≠ g → j ≠ pb → wr.heap[j]? = wS.heap[j]?
/-- The loop over what stands between borders. -/
def ReRel (w wS : World) (g pb k : Nat) (main iv lv : List UInt8) (L : List (List UInt8)) (E : List PartD × Nat × Nat) (v7 vi : Value) (wr : World) : Prop :=
  ∃ (i m c : Nat) (S : Option Addr) (rows : List (List Value)) (out : List PartD) (cn : Nat), v7 = .int .i64 0 ∧ vi = .int .i64 (i : Nat) ∧ i ≤ L.length ∧ m ≤ i ∧ m ≤ c ∧ c ≤ maxLen ∧
    BoxF wr pb (str main) (.string ⟨#[]⟩) (str iv) (str lv) (.int .i64 0) (.slice none 0 0) (.slice S m c) ∧
    wr.ownsRow wS.heap.size 25 7 (.slice S m c) m rows.flatten ∧ PartsAt (NewB wS.heap.size (.slice S m c) wr) wr out rows ∧ RdIs wr g cn ∧ cn ≤ 12 ∧
    BoxF wr w.heap.size (.string ⟨#[]⟩) (.string ⟨#[]⟩) (.string ⟨#[]⟩) (.string ⟨#[]⟩) (.int .i64 0) (.slice none 0 0) (.slice none 0 0) ∧ w.grownBy wr (some g) ∧ KeptB g pb wS wr ∧ Hid (eachM (partM k) (L.drop i) cn out = E)
theorem partM_cnt : ∀ (k cnt : Nat) (b : List UInt8), (partM k cnt b).2.2 = 0 → (partM k cnt b).2.1 ≤ 12 := by
  intro k
  induction k with
  | zero => intro cnt b h; rw [partM] at h; cases h
  | succ k ih =>
    intro cnt b h
    rw [partM_step] at h ⊢
    by_cases h1 : 12 < cnt + 1
    · rw [if_pos h1] at h; cases h
    · rw [if_neg h1] at h ⊢
      by_cases h2 : (parseF b).2.2 ≠ 0
      · rw [if_pos h2] at h; exact absurd h h2
      · rw [if_neg h2] at h ⊢
        by_cases h3 : (paramsF (tyM (parseF b).1)).2.2 ≠ 0
        · rw [if_pos h3] at h; exact absurd h h3
        · rw [if_neg h3] at h ⊢
          by_cases h4 : manyB (paramsF (tyM (parseF b).1)).1 = true
          · rw [if_pos h4] at h ⊢
            unfold manyM at h ⊢
            generalize splitM (b.drop (parseF b).2.1) (getF (paramsF (tyM (parseF b).1)).2.1 boundN) = sp at h ⊢
            by_cases h5 : sp.2 ≠ 0
            · rw [if_pos h5] at h; exact absurd h h5
            · rw [if_neg h5] at h ⊢
              have key : ∀ (L : List (List UInt8)) (c : Nat) (o : List PartD), c ≤ 12 → (eachM (partM k) L c o).2.2 = 0 → (eachM (partM k) L c o).2.1 ≤ 12 := by
                intro L
                induction L with
                | nil => intro c o hc _; rw [eachM]; exact hc
                | cons x xs ihx =>
                  intro c o hc hz
                  rw [eachM] at hz ⊢
                  by_cases h7 : (partM k c x).2.2 = 0
                  · rw [if_pos h7] at hz ⊢
                    exact ihx _ _ (ih c x h7) hz
                  · rw [if_neg h7] at hz
                    exact absurd hz h7
              by_cases h6 : (eachM (partM k) sp.1 (cnt + 1) []).2.2 ≠ 0
              · rw [if_pos h6] at h; exact absurd h h6
              · rw [if_neg h6]
                exact key _ _ _ (by omega) (by simpa using h6)
          · rw [if_neg h4] at h ⊢
            unfold leafM at h ⊢
            by_cases h5 : (bodyM (getF (parseF b).1 cteN) (b.drop (parseF b).2.1)).2.2 ≠ 0
            · rw [if_pos h5] at h; exact absurd h h5
            · rw [if_neg h5]
              show cnt + 1 ≤ 12
              omega
end Go.Proofs.YtlbdnohnngkapaaGreatDoor

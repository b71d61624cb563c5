import Derived.Test.YtdhmmepcnladcaaDoorPart4
namespace Go.Proofs.YtdhmmepcnladcaaDoor
open Go.RowKit

/-- Seven cells of one block, none of them frozen. -/
def BoxF (w : World) (b : Nat) (v0 v1 v2 v3 v4 v5 v6 : Value) : Prop := Box7 w b v0 v1 v2 v3 v4 v5 v6 ∧ ∀ k, w.frozen? ⟨b, k, none⟩ = false
section
variable {w w' : World} {b : Nat} {v0 v1 v2 v3 v4 v5 v6 : Value}
/-- Seven cells of a row, behind place o. -/
def Row7 (w : World) (b o : Nat) (v0 v1 v2 v3 v4 v5 v6 : Value) : Prop :=
  w.cell? ⟨b, o, none⟩ = some v0 ∧ w.cell? ⟨b, o + 1, none⟩ = some v1 ∧ w.cell? ⟨b, o + 2, none⟩ = some v2 ∧ w.cell? ⟨b, o + 3, none⟩ = some v3 ∧ w.cell? ⟨b, o + 4, none⟩ = some v4 ∧ w.cell? ⟨b, o + 5, none⟩ = some v5 ∧ w.cell? ⟨b, o + 6, none⟩ = some v6
theorem Row7.below {o : Nat} (h : Row7 w b o v0 v1 v2 v3 v4 v5 v6) {C : Nat} (hb : Below C w w') (hC : b < C) : Row7 w' b o v0 v1 v2 v3 v4 v5 v6 := by
  obtain ⟨h0, h1, h2, h3, h4, h5, h6⟩ := h
  exact ⟨(hb.cell (p := ⟨b, _, none⟩) hC).trans h0, (hb.cell (p := ⟨b, _, none⟩) hC).trans h1, (hb.cell (p := ⟨b, _, none⟩) hC).trans h2, (hb.cell (p := ⟨b, _, none⟩) hC).trans h3, (hb.cell (p := ⟨b, _, none⟩) hC).trans h4, (hb.cell (p := ⟨b, _, none⟩) hC).trans h5, (hb.cell (p := ⟨b, _, none⟩) hC).trans h6⟩
theorem BoxF.below (h : BoxF w b v0 v1 v2 v3 v4 v5 v6) {C : Nat} (hb : Below C w w') (hC : b < C) : BoxF w' b v0 v1 v2 v3 v4 v5 v6 := by
  obtain ⟨⟨h0, h1, h2, h3, h4, h5, h6⟩, hf⟩ := h
  exact ⟨⟨(hb.cell (p := ⟨b, 0, none⟩) hC).trans h0, (hb.cell (p := ⟨b, 1, none⟩) hC).trans h1, (hb.cell (p := ⟨b, 2, none⟩) hC).trans h2, (hb.cell (p := ⟨b, 3, none⟩) hC).trans h3, (hb.cell (p := ⟨b, 4, none⟩) hC).trans h4, (hb.cell (p := ⟨b, 5, none⟩) hC).trans h5, (hb.cell (p := ⟨b, 6, none⟩) hC).trans h6⟩, fun k => (hb.frozen (p := ⟨b, k, none⟩) hC).trans (hf k)⟩
theorem BoxF.of_block {t : TypeId} (h : w.heap[b]? = some (.cells #[v0, v1, v2, v3, v4, v5, v6] t)) : BoxF w b v0 v1 v2 v3 v4 v5 v6 := by
  refine ⟨⟨?_, ?_, ?_, ?_, ?_, ?_, ?_⟩, fun k => Lib.frozen_of_heap h k⟩ <;> (unfold World.cell?; rw [h]; rfl)
theorem BoxF.set56 (h : BoxF w b v0 v1 v2 v3 v4 v5 v6) (u5 u6 : Value) : BoxF ((w.setCell ⟨b, 5, none⟩ u5).setCell ⟨b, 6, none⟩ u6) b v0 v1 v2 v3 v4 u5 u6 := by
  obtain ⟨⟨h0, h1, h2, h3, h4, h5, h6⟩, hf⟩ := h
  have far : ∀ k v, k ≠ 5 → k ≠ 6 → w.cell? ⟨b, k, none⟩ = some v → ((w.setCell ⟨b, 5, none⟩ u5).setCell ⟨b, 6, none⟩ u6).cell? ⟨b, k, none⟩ = some v := fun k v h5 h6 h => by
    rw [World.cell?_setCell_other _ _ _ _ (by simp <;> omega), World.cell?_setCell_other _ _ _ _ (by simp <;> omega)]; exact h
  refine ⟨⟨far 0 _ (by omega) (by omega) h0, far 1 _ (by omega) (by omega) h1, far 2 _ (by omega) (by omega) h2, far 3 _ (by omega) (by omega) h3, far 4 _ (by omega) (by omega) h4, ?_, ?_⟩, fun k => by simpa using hf k⟩
  · rw [World.cell?_setCell_other _ _ _ _ (by simp)]; exact World.cell?_setCell_same _ _ _ h5
  · refine World.cell?_setCell_same _ _ _ (u := v6) ?_
    rw [World.cell?_setCell_other _ _ _ _ (by simp)]; exact h6
theorem BoxF.set7 (h : BoxF w b v0 v1 v2 v3 v4 v5 v6) (u0 u1 u2 u3 u4 u5 u6 : Value) :
    Box7 (((((((w.setCell ⟨b, 0, none⟩ u0).setCell ⟨b, 1, none⟩ u1).setCell ⟨b, 2, none⟩ u2).setCell ⟨b, 3, none⟩ u3).setCell ⟨b, 4, none⟩ u4).setCell ⟨b, 5, none⟩ u5).setCell ⟨b, 6, none⟩ u6) b u0 u1 u2 u3 u4 u5 u6 := by
  obtain ⟨⟨h0, h1, h2, h3, h4, h5, h6⟩, hf⟩ := h
  have o : ∀ (w : World) (i k : Nat) (u : Value), i ≠ k → (w.setCell ⟨b, i, none⟩ u).cell? ⟨b, k, none⟩ = w.cell? ⟨b, k, none⟩ := fun w i k u hik => World.cell?_setCell_other _ _ _ _ (by intro e; injection e with _ e; exact hik e)
  have s : ∀ (w : World) (k : Nat) (u v : Value), w.cell? ⟨b, k, none⟩ = some v → (w.setCell ⟨b, k, none⟩ u).cell? ⟨b, k, none⟩ = some u := fun w k u v h => World.cell?_setCell_same _ _ _ h
  refine ⟨?_, ?_, ?_, ?_, ?_, ?_, ?_⟩
  · rw [o _ 6 0 _ (by decide), o _ 5 0 _ (by decide), o _ 4 0 _ (by decide), o _ 3 0 _ (by decide), o _ 2 0 _ (by decide), o _ 1 0 _ (by decide)]
    refine s _ 0 _ v0 ?_
    exact h0
  · rw [o _ 6 1 _ (by decide), o _ 5 1 _ (by decide), o _ 4 1 _ (by decide), o _ 3 1 _ (by decide), o _ 2 1 _ (by decide)]
    refine s _ 1 _ v1 ?_
    rw [o _ 0 1 _ (by decide)]
    exact h1
  · rw [o _ 6 2 _ (by decide), o _ 5 2 _ (by decide), o _ 4 2 _ (by decide), o _ 3 2 _ (by decide)]
    refine s _ 2 _ v2 ?_
    rw [o _ 1 2 _ (by decide), o _ 0 2 _ (by decide)]
    exact h2
  · rw [o _ 6 3 _ (by decide), o _ 5 3 _ (by decide), o _ 4 3 _ (by decide)]
    refine s _ 3 _ v3 ?_
    rw [o _ 2 3 _ (by decide), o _ 1 3 _ (by decide), o _ 0 3 _ (by decide)]
    exact h3
  · rw [o _ 6 4 _ (by decide), o _ 5 4 _ (by decide)]
    refine s _ 4 _ v4 ?_
    rw [o _ 3 4 _ (by decide), o _ 2 4 _ (by decide), o _ 1 4 _ (by decide), o _ 0 4 _ (by decide)]
    exact h4
  · rw [o _ 6 5 _ (by decide)]
    refine s _ 5 _ v5 ?_
    rw [o _ 4 5 _ (by decide), o _ 3 5 _ (by decide), o _ 2 5 _ (by decide), o _ 1 5 _ (by decide), o _ 0 5 _ (by decide)]
    exact h5
  · refine s _ 6 _ v6 ?_
    rw [o _ 5 6 _ (by decide), o _ 4 6 _ (by decide), o _ 3 6 _ (by decide), o _ 2 6 _ (by decide), o _ 1 6 _ (by decide), o _ 0 6 _ (by decide)]
    exact h6
/-- A store into another block. -/
theorem BoxF.setFar (h : BoxF w b v0 v1 v2 v3 v4 v5 v6) {p : Addr} (hp : p.block ≠ b) (u : Value) : BoxF (w.setCell p u) b v0 v1 v2 v3 v4 v5 v6 := by
  obtain ⟨⟨h0, h1, h2, h3, h4, h5, h6⟩, hf⟩ := h
  have far : ∀ k v, w.cell? ⟨b, k, none⟩ = some v → (w.setCell p u).cell? ⟨b, k, none⟩ = some v := fun k v h => by
    rw [World.cell?_setCell_other _ _ _ _ (by rintro rfl; exact hp rfl)]; exact h
  exact ⟨⟨far 0 _ h0, far 1 _ h1, far 2 _ h2, far 3 _ h3, far 4 _ h4, far 5 _ h5, far 6 _ h6⟩, fun k => by simpa using hf k⟩
theorem own_setFar {base : Nat} {e : TypeId} {size : Nat} {v : Value} {n : Nat} {xs : List Value} (h : w.ownsRow base e size v n xs) {p : Addr} (hp : v.ownBlock ≠ some p.block) (u : Value) : (w.setCell p u).ownsRow base e size v n xs := by
  rcases h with ⟨hl, h | ⟨g, cap, cur, hv, hb, hg, h1, h2, h3, h4⟩⟩
  · exact ⟨hl, .inl h⟩
  · refine ⟨hl, .inr ⟨g, cap, cur, hv, hb, ?_, h1, h2, h3, h4⟩⟩
    rw [← hg]
    refine heap_setCell_other w p g u fun e => hp ?_
    rw [hv, e]; rfl
theorem own_base {base base' : Nat} {e : TypeId} {size : Nat} {v : Value} {n : Nat} {xs : List Value} (h : w.ownsRow base e size v n xs) (hb : base' ≤ base) : w.ownsRow base' e size v n xs := by
  rcases h with ⟨hl, h | ⟨g, cap, cur, hv, hb', hg, h1⟩⟩
  · exact ⟨hl, .inl h⟩
  · exact ⟨hl, .inr ⟨g, cap, cur, hv, Nat.le_trans hb hb', hg, h1⟩⟩
theorem own_sls {base : Nat} {e : TypeId} {size : Nat} {S : Option Addr} {n c : Nat} {xs : List Value} (h : w.ownsRow base e size (.slice S n c) n xs) : SlS (fun b => base ≤ b ∧ b < w.heap.size) w size S n xs := by
  refine ⟨h.1, fun hn => ?_⟩
  obtain ⟨g, cap, hv, hb, hl⟩ := h.form hn
  injection hv with hS
  subst hS
  obtain ⟨b, off, hA, _, hc⟩ := (Sl.of_own h).2 hn
  injection hA with hA
  injection hA with h1 h2
  subst h1
  subst h2
  exact ⟨g, 0, rfl, ⟨hb, hl⟩, hc⟩
theorem own_capmax {base : Nat} {e : TypeId} {size : Nat} {S : Option Addr} {n c : Nat} {xs : List Value} (h : w.ownsRow base e size (.slice S n c) n xs) : c ≤ maxLen := by
  rcases h.2 with ⟨hv, h0⟩ | ⟨g', cap', cur', hv', _, _, _, hcm, _⟩
  · injection hv with _ _ hc; rw [hc]; exact Nat.zero_le _
  · injection hv' with _ _ hcc; rw [hcc]; exact hcm
theorem flat7_set (done : List (List Value)) (hd : ∀ r ∈ done, r.length = 7) (r0 r1 r2 r3 r4 r5 r6 u0 u1 u2 u3 u4 u5 u6 : Value) (rest : List (List Value)) :
    ((((((((done ++ [r0, r1, r2, r3, r4, r5, r6] :: rest).flatten.set (done.length * 7) u0).set (done.length * 7 + 1) u1).set (done.length * 7 + 2) u2).set (done.length * 7 + 3) u3).set (done.length * 7 + 4) u4).set (done.length * 7 + 5) u5).set (done.length * 7 + 6) u6) =
      (done ++ [u0, u1, u2, u3, u4, u5, u6] :: rest).flatten := by
  have hl := flat7_len done hd
  rw [← hl]
  simp only [List.flatten_append, List.flatten_cons]
  generalize done.flatten = D
  generalize rest.flatten = E
  have key : ∀ k u (L : List Value), (D ++ L).set (D.length + k) u = D ++ L.set k u := by
    intro k u L
    rw [List.set_append_right _ _ (by omega), Nat.add_sub_cancel_left]
  have key0 : ∀ u (L : List Value), (D ++ L).set D.length u = D ++ L.set 0 u := by
    intro u L
    exact key 0 u L
  rw [key0, key, key, key, key, key, key]
  rfl
theorem own_set7 {base : Nat} {e : TypeId} {g n c : Nat} {i : Nat} {done rest : List (List Value)} {r0 r1 r2 r3 r4 r5 r6 : Value} (h : w.ownsRow base e 7 (.slice (some ⟨g, 0, none⟩) n c) n (done ++ [r0, r1, r2, r3, r4, r5, r6] :: rest).flatten)
    (hd : ∀ r ∈ done, r.length = 7) (hi : done.length = i) (u0 u1 u2 u3 u4 u5 u6 : Value) :
    (((((((w.setCell ⟨g, i * 7, none⟩ u0).setCell ⟨g, i * 7 + 1, none⟩ u1).setCell ⟨g, i * 7 + 2, none⟩ u2).setCell ⟨g, i * 7 + 3, none⟩ u3).setCell ⟨g, i * 7 + 4, none⟩ u4).setCell ⟨g, i * 7 + 5, none⟩ u5).setCell ⟨g, i * 7 + 6, none⟩ u6).ownsRow base e 7 (.slice (some ⟨g, 0, none⟩) n c) n (done ++ [u0, u1, u2, u3, u4, u5, u6] :: rest).flatten := by
  subst hi
  rw [← flat7_set done hd r0 r1 r2 r3 r4 r5 r6]
  exact ((((((((h.stored _ u0).1.stored _ u1).1.stored _ u2).1.stored _ u3).1.stored _ u4).1.stored _ u5).1.stored _ u6).1)
theorem set7_far {g : Nat} {i : Nat} (u0 u1 u2 u3 u4 u5 u6 : Value) {a : Addr} (ha : a.block ≠ g) :
    (((((((w.setCell ⟨g, i * 7, none⟩ u0).setCell ⟨g, i * 7 + 1, none⟩ u1).setCell ⟨g, i * 7 + 2, none⟩ u2).setCell ⟨g, i * 7 + 3, none⟩ u3).setCell ⟨g, i * 7 + 4, none⟩ u4).setCell ⟨g, i * 7 + 5, none⟩ u5).setCell ⟨g, i * 7 + 6, none⟩ u6).cell? a = w.cell? a := by
  have h : ∀ (w : World) k u, (w.setCell ⟨g, k, none⟩ u).cell? a = w.cell? a := fun w k u => World.cell?_setCell_other _ _ _ _ (by rintro rfl; exact ha rfl)
  rw [h, h, h, h, h, h, h]
theorem set7_below {C : Nat} {w0 : World} {g : Nat} {i : Nat} (hb : Below C w0 w) (hg : C ≤ g) (u0 u1 u2 u3 u4 u5 u6 : Value) :
    Below C w0 (((((((w.setCell ⟨g, i * 7, none⟩ u0).setCell ⟨g, i * 7 + 1, none⟩ u1).setCell ⟨g, i * 7 + 2, none⟩ u2).setCell ⟨g, i * 7 + 3, none⟩ u3).setCell ⟨g, i * 7 + 4, none⟩ u4).setCell ⟨g, i * 7 + 5, none⟩ u5).setCell ⟨g, i * 7 + 6, none⟩ u6) :=
  ((((((hb.setCell hg _).setCell hg _).setCell hg _).setCell hg _).setCell hg _).setCell hg _).setCell hg _
end
end Go.Proofs.YtdhmmepcnladcaaDoor

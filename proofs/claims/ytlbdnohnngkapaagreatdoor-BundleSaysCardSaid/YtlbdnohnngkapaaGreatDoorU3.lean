import Derived.Test.YtlbdnohnngkapaaGreatDoorU2
import Derived.Test.YtlbdnohnngkapaaGreatDoorU1
import Derived.Lib.SmallJoins
import Derived.Lib.Split
import Derived.Lib.Join
import Derived.Lib.IndexAny
namespace Go.Proofs.YtlbdnohnngkapaaGreatDoor
open Go.RowKit

/-- Seven cells of one block, none of them frozen. -/
def BoxF (w : World) (b : Nat) (v0 v1 v2 v3 v4 v5 v6 : Value) : Prop := Box7 w b v0 v1 v2 v3 v4 v5 v6 ∧ ∀ k, w.frozen? ⟨b, k, none⟩ = false
section
variable {w w' : World} {b : Nat} {v0 v1 v2 v3 v4 v5 v6 : Value}
/-- Seven cells of a row, behind place o. -/
def Row7 (w : World) (b o : Nat) (v0 v1 v2 v3 v4 v5 v6 : Value) : Prop :=
  w.cell? ⟨b, o, none⟩ = some v0 ∧ w.cell? ⟨b, o + 1, none⟩ = some v1 ∧ w.cell? ⟨b, o + 2, none⟩ = some v2 ∧ w.cell? ⟨b, o + 3, none⟩ = some v3 ∧ w.cell? ⟨b, o + 4, none⟩ = some v4 ∧ w.cell? ⟨b, o + 5, none⟩ = some v5 ∧ w.cell? ⟨b, o + 6, none⟩ = some v6
theorem Row7.below {o : Nat} (h : Row7 w b o v0 v1 v2 v3 v4 v5 v6) {C : Nat} (hb : Below C w w') (hC : b < C) : Row7 w' b o v0 v1 v2 v3 v4 v5 v6 := by
  obtain ⟨h0, h1, h2, h3, h4, h5, h6⟩ := h
  exact ⟨(hb.cell (p := ⟨b, _, none⟩) hC).trans h0, (hb.cell (p := ⟨b, _, none⟩) hC).trans h1, (hb.cell (p := ⟨b, _, none⟩) hC).trans h2, (hb.cell (p := ⟨b, _, none⟩) hC).trans h3, (hb.cell (p := ⟨b, _, none⟩) hC).trans h4, (hb.cell (p := ⟨b, _, none⟩) hC).trans h5, (hb.cell (p := ⟨b, _, none⟩) hC).trans h6⟩
theorem BoxF.below (h : BoxF w b v0 v1 v2 v3 v4 v5 v6) {C : Nat} (hb : Below C w w') (hC : b < C) : BoxF w' b v0 v1 v2 v3 v4 v5 v6 := by
  obtain ⟨⟨h0, h1, h2, h3, h4, h5, h6⟩, hf⟩ := h
  exact ⟨⟨(hb.cell (p := ⟨b, 0, none⟩) hC).trans h0, (hb.cell (p := ⟨b, 1, none⟩) hC).trans h1, (hb.cell (p := ⟨b, 2, none⟩) hC).trans h2, (hb.cell (p := ⟨b, 3, none⟩) hC).trans h3, (hb.cell (p := ⟨b, 4, none⟩) hC).trans h4, (hb.cell (p := ⟨b, 5, none⟩) hC).trans h5, (hb.cell (p := ⟨b, 6, none⟩) hC).trans h6⟩, fun k => (hb.frozen (p := ⟨b, k, none⟩) hC).trans (hf k)⟩
theorem BoxF.of_block {t : TypeId} (h : w.heap[b]? = some (.cells #[v0, v1, v2, v3, v4, v5, v6] t)) : BoxF w b v0 v1 v2 v3 v4 v5 v6 := by
  refine ⟨⟨?_, ?_, ?_, ?_, ?_, ?_, ?_⟩, fun k => Lib.frozen_of_heap h k⟩ <;> (unfold World.cell?; rw [h]; rfl)
theorem BoxF.set56 (h : BoxF w b v0 v1 v2 v3 v4 v5 v6) (u5 u6 : Value) : BoxF ((w.setCell ⟨b, 5, none⟩ u5).setCell ⟨b, 6, none⟩ u6) b v0 v1 v2 v3 v4 u5 u6 := by
  obtain ⟨⟨h0, h1, h2, h3, h4, h5, h6⟩, hf⟩ := h
  have far : ∀ k v, k ≠ 5 → k ≠ 6 → w.cell? ⟨b, k, none⟩ = some v → ((w.setCell ⟨b, 5, none⟩ u5).setCell ⟨b, 6, none⟩ u6).cell? ⟨b, k, none⟩ = some v := fun k v h5 h6 h => by
    rw [World.cell?_setCell_other _ _ _ _ (by simp <;> omega), World.cell?_setCell_other _ _ _ _ (by simp <;> omega)]; exact h
  refine ⟨⟨far 0 _ (by omega) (by omega) h0, far 1 _ (by omega) (by omega) h1, far 2 _ (by omega) (by omega) h2, far 3 _ (by omega) (by omega) h3, far 4 _ (by omega) (by omega) h4, ?_, ?_⟩, fun k => by simpa using hf k⟩
  · rw [World.cell?_setCell_other _ _ _ _ (by simp)]; exact World.cell?_setCell_same _ _ _ h5
  · refine World.cell?_setCell_same _ _ _ (u := v6) ?_
    rw [World.cell?_setCell_other _ _ _ _ (by simp)]; exact h6
theorem BoxF.set7 (h : BoxF w b v0 v1 v2 v3 v4 v5 v6) (u0 u1 u2 u3 u4 u5 u6 : Value) :
    Box7 (((((((w.setCell ⟨b, 0, none⟩ u0).setCell ⟨b, 1, none⟩ u1).setCell ⟨b, 2, none⟩ u2).setCell ⟨b, 3, none⟩ u3).setCell ⟨b, 4, none⟩ u4).setCell ⟨b, 5, none⟩ u5).setCell ⟨b, 6, none⟩ u6) b u0 u1 u2 u3 u4 u5 u6 := by
  obtain ⟨⟨h0, h1, h2, h3, h4, h5, h6⟩, hf⟩ := h
  have o : ∀ (w : World) (i k : Nat) (u : Value), i ≠ k → (w.setCell ⟨b, i, none⟩ u).cell? ⟨b, k, none⟩ = w.cell? ⟨b, k, none⟩ := fun w i k u hik => World.cell?_setCell_other _ _ _ _ (by intro e; injection e with _ e; exact hik e)
  have s : ∀ (w : World) (k : Nat) (u v : Value), w.cell? ⟨b, k, none⟩ = some v → (w.setCell ⟨b, k, none⟩ u).cell? ⟨b, k, none⟩ = some u := fun w k u v h => World.cell?_setCell_same _ _ _ h
  refine ⟨?_, ?_, ?_, ?_, ?_, ?_, ?_⟩
  · rw [o _ 6 0 _ (by decide), o _ 5 0 _ (by decide), o _ 4 0 _ (by decide), o _ 3 0 _ (by decide), o _ 2 0 _ (by decide), o _ 1 0 _ (by decide)]
    refine s _ 0 _ v0 ?_
    exact h0
  · rw [o _ 6 1 _ (by decide), o _ 5 1 _ (by decide), o _ 4 1 _ (by decide), o _ 3 1 _ (by decide), o _ 2 1 _ (by decide)]
    refine s _ 1 _ v1 ?_
    rw [o _ 0 1 _ (by decide)]
    exact h1
  · rw [o _ 6 2 _ (by decide), o _ 5 2 _ (by decide), o _ 4 2 _ (by decide), o _ 3 2 _ (by decide)]
    refine s _ 2 _ v2 ?_
    rw [o _ 1 2 _ (by decide), o _ 0 2 _ (by decide)]
    exact h2
  · rw [o _ 6 3 _ (by decide), o _ 5 3 _ (by decide), o _ 4 3 _ (by decide)]
    refine s _ 3 _ v3 ?_
    rw [o _ 2 3 _ (by decide), o _ 1 3 _ (by decide), o _ 0 3 _ (by decide)]
    exact h3
  · rw [o _ 6 4 _ (by decide), o _ 5 4 _ (by decide)]
    refine s _ 4 _ v4 ?_
    rw [o _ 3 4 _ (by decide), o _ 2 4 _ (by decide), o _ 1 4 _ (by decide), o _ 0 4 _ (by decide)]
    exact h4
  · rw [o _ 6 5 _ (by decide)]
    refine s _ 5 _ v5 ?_
    rw [o _ 4 5 _ (by decide), o _ 3 5 _ (by decide), o _ 2 5 _ (by decide), o _ 1 5 _ (by decide), o _ 0 5 _ (by decide)]
    exact h5
  · refine s _ 6 _ v6 ?_
    rw [o _ 5 6 _ (by decide), o _ 4 6 _ (by decide), o _ 3 6 _ (by decide), o _ 2 6 _ (by decide), o _ 1 6 _ (by decide), o _ 0 6 _ (by decide)]
    exact h6
/-- A store into another block. -/
theorem BoxF.setFar (h : BoxF w b v0 v1 v2 v3 v4 v5 v6) {p : Addr} (hp : p.block ≠ b) (u : Value) : BoxF (w.setCell p u) b v0 v1 v2 v3 v4 v5 v6 := by
  obtain ⟨⟨h0, h1, h2, h3, h4, h5, h6⟩, hf⟩ := h
  have far : ∀ k v, w.cell? ⟨b, k, none⟩ = some v → (w.setCell p u).cell? ⟨b, k, none⟩ = some v := fun k v h => by
    rw [World.cell?_setCell_other _ _ _ _ (by rintro rfl; exact hp rfl)]; exact h
  exact ⟨⟨far 0 _ h0, far 1 _ h1, far 2 _ h2, far 3 _ h3, far 4 _ h4, far 5 _ h5, far 6 _ h6⟩, fun k => by simpa using hf k⟩
theorem own_setFar {base : Nat} {e : TypeId} {size : Nat} {v : Value} {n : Nat} {xs : List Value} (h : w.ownsRow base e size v n xs) {p : Addr} (hp : v.ownBlock ≠ some p.block) (u : Value) : (w.setCell p u).ownsRow base e size v n xs := by
  rcases h with ⟨hl, h | ⟨g, cap, cur, hv, hb, hg, h1, h2, h3, h4⟩⟩
  · exact ⟨hl, .inl h⟩
  · refine ⟨hl, .inr ⟨g, cap, cur, hv, hb, ?_, h1, h2, h3, h4⟩⟩
    rw [← hg]
    refine heap_setCell_other w p g u fun e => hp ?_
    rw [hv, e]; rfl
theorem own_base {base base' : Nat} {e : TypeId} {size : Nat} {v : Value} {n : Nat} {xs : List Value} (h : w.ownsRow base e size v n xs) (hb : base' ≤ base) : w.ownsRow base' e size v n xs := by
  rcases h with ⟨hl, h | ⟨g, cap, cur, hv, hb', hg, h1⟩⟩
  · exact ⟨hl, .inl h⟩
  · exact ⟨hl, .inr ⟨g, cap, cur, hv, Nat.le_trans hb hb', hg, h1⟩⟩
theorem own_sls {base : Nat} {e : TypeId} {size : Nat} {S : Option Addr} {n c : Nat} {xs : List Value} (h : w.ownsRow base e size (.slice S n c) n xs) : SlS (fun b => base ≤ b ∧ b < w.heap.size) w size S n xs := by
  refine ⟨h.1, fun hn => ?_⟩
  obtain ⟨g, cap, hv, hb, hl⟩ := h.form hn
  injection hv with hS
  subst hS
  obtain ⟨b, off, hA, _, hc⟩ := (Sl.of_own h).2 hn
  injection hA with hA
  injection hA with h1 h2
  subst h1
  subst h2
  exact ⟨g, 0, rfl, ⟨hb, hl⟩, hc⟩
theorem own_capmax {base : Nat} {e : TypeId} {size : Nat} {S : Option Addr} {n c : Nat} {xs : List Value} (h : w.ownsRow base e size (.slice S n c) n xs) : c ≤ maxLen := by
  rcases h.2 with ⟨hv, h0⟩ | ⟨g', cap', cur', hv', _, _, _, hcm, _⟩
  · injection hv with _ _ hc; rw [hc]; exact Nat.zero_le _
  · injection hv' with _ _ hcc; rw [hcc]; exact hcm
theorem flat7_set (done : List (List Value)) (hd : ∀ r ∈ done, r.length = 7) (r0 r1 r2 r3 r4 r5 r6 u0 u1 u2 u3 u4 u5 u6 : Value) (rest : List (List Value)) :
    ((((((((done ++ [r0, r1, r2, r3, r4, r5, r6] :: rest).flatten.set (done.length * 7) u0).set (done.length * 7 + 1) u1).set (done.length * 7 + 2) u2).set (done.length * 7 + 3) u3).set (done.length * 7 + 4) u4).set (done.length * 7 + 5) u5).set (done.length * 7 + 6) u6) =
      (done ++ [u0, u1, u2, u3, u4, u5, u6] :: rest).flatten := by
  have hl := flat7_len done hd
  rw [← hl]
  simp only [List.flatten_append, List.flatten_cons]
  generalize done.flatten = D
  generalize rest.flatten = E
  have key : ∀ k u (L : List Value), (D ++ L).set (D.length + k) u = D ++ L.set k u := by
    intro k u L
    rw [List.set_append_right _ _ (by omega), Nat.add_sub_cancel_left]
  have key0 : ∀ u (L : List Value), (D ++ L).set D.length u = D ++ L.set 0 u := by
    intro u L
    exact key 0 u L
  rw [key0, key, key, key, key, key, key]
  rfl
theorem own_set7 {base : Nat} {e : TypeId} {g n c : Nat} {i : Nat} {done rest : List (List Value)} {r0 r1 r2 r3 r4 r5 r6 : Value} (h : w.ownsRow base e 7 (.slice (some ⟨g, 0, none⟩) n c) n (done ++ [r0, r1, r2, r3, r4, r5, r6] :: rest).flatten)
    (hd : ∀ r ∈ done, r.length = 7) (hi : done.length = i) (u0 u1 u2 u3 u4 u5 u6 : Value) :
    (((((((w.setCell ⟨g, i * 7, none⟩ u0).setCell ⟨g, i * 7 + 1, none⟩ u1).setCell ⟨g, i * 7 + 2, none⟩ u2).setCell ⟨g, i * 7 + 3, none⟩ u3).setCell ⟨g, i * 7 + 4, none⟩ u4).setCell ⟨g, i * 7 + 5, none⟩ u5).setCell ⟨g, i * 7 + 6, none⟩ u6).ownsRow base e 7 (.slice (some ⟨g, 0, none⟩) n c) n (done ++ [u0, u1, u2, u3, u4, u5, u6] :: rest).flatten := by
  subst hi
  rw [← flat7_set done hd r0 r1 r2 r3 r4 r5 r6]
  exact ((((((((h.stored _ u0).1.stored _ u1).1.stored _ u2).1.stored _ u3).1.stored _ u4).1.stored _ u5).1.stored _ u6).1)
theorem set7_far {g : Nat} {i : Nat} (u0 u1 u2 u3 u4 u5 u6 : Value) {a : Addr} (ha : a.block ≠ g) :
    (((((((w.setCell ⟨g, i * 7, none⟩ u0).setCell ⟨g, i * 7 + 1, none⟩ u1).setCell ⟨g, i * 7 + 2, none⟩ u2).setCell ⟨g, i * 7 + 3, none⟩ u3).setCell ⟨g, i * 7 + 4, none⟩ u4).setCell ⟨g, i * 7 + 5, none⟩ u5).setCell ⟨g, i * 7 + 6, none⟩ u6).cell? a = w.cell? a := by
  have h : ∀ (w : World) k u, (w.setCell ⟨g, k, none⟩ u).cell? a = w.cell? a := fun w k u => World.cell?_setCell_other _ _ _ _ (by rintro rfl; exact ha rfl)
  rw [h, h, h, h, h, h, h]
theorem set7_below {C : Nat} {w0 : World} {g : Nat} {i : Nat} (hb : Below C w0 w) (hg : C ≤ g) (u0 u1 u2 u3 u4 u5 u6 : Value) :
    Below C w0 (((((((w.setCell ⟨g, i * 7, none⟩ u0).setCell ⟨g, i * 7 + 1, none⟩ u1).setCell ⟨g, i * 7 + 2, none⟩ u2).setCell ⟨g, i * 7 + 3, none⟩ u3).setCell ⟨g, i * 7 + 4, none⟩ u4).setCell ⟨g, i * 7 + 5, none⟩ u5).setCell ⟨g, i * 7 + 6, none⟩ u6) :=
  ((((((hb.setCell hg _).setCell hg _).setCell hg _).setCell hg _).setCell hg _).setCell hg _).setCell hg _
end
end Go.Proofs.YtlbdnohnngkapaaGreatDoor

namespace Go.Proofs.YtlbdnohnngkapaaGreatDoor
open Go.RowKit

theorem isSp_eq : ∀ x : Fin 256, isSp x.val = decide (0 ≤ Lib.indexByte [32, 9, 13, 10, 12] (UInt8.ofNat x.val)) := by decide +kernel
theorem IndexByte_any (l : List UInt8) (x : Nat) (w : World) :
    Calls Tryz.prog 110 #[.string ⟨l.toArray⟩, .int .u8 (x : Int)] w fun e w' => e = .returned (.int .i64 (Lib.indexByte l (UInt8.ofNat x))) ∧ w = w' := by
  refine (Go.Proofs.Tryz.strings_IndexByte ⟨l.toArray⟩ (x : Int) w).mono ?_
  rintro e w' ⟨rfl, rfl⟩
  exact ⟨rfl, rfl⟩
theorem space_any (x : Nat) (hx : x < 256) (w : World) : Calls Tryz.prog 197 #[.int .u8 (x : Int)] w fun e w' => e = .returned (.bool (isSp x)) ∧ w = w' := by
  have h := isSp_eq ⟨x, hx⟩
  simp only at h
  have hi := IndexByte_any [32, 9, 13, 10, 12] x w
  generalize Lib.indexByte [32, 9, 13, 10, 12] (UInt8.ofNat x) = i at h hi
  rw [h]
  have Hi := Lib.hid hi
  clear h hi
  go_enter Tryz.func197, Tryz.ntmps197
  go_wp2_with fail
  refine Hi.out.mono ?_
  rintro e w1 ⟨rfl, rfl⟩
  go_wp2_with fail
  go_ret
  exact ⟨rfl, rfl⟩
theorem or32 : ∀ x : Fin 256, bits .or .u8 ((x.val : Nat) : Int) 32 = ((x.val ||| 32 : Nat) : Int) := by decide +kernel
theorem letter_any (x : Nat) (hx : x < 256) (w : World) : Calls Tryz.prog 118 #[.int .u8 (x : Int)] w fun e w' => e = .returned (.bool (isLet x)) ∧ w = w' := by
  have h := or32 ⟨x, hx⟩
  simp only at h
  unfold isLet
  generalize x ||| 32 = y at h ⊢
  by_cases h1 : 97 ≤ y
  · have d1 : decide (97 ≤ y) = true := by simpa using h1
    rw [d1]
    go_enter Tryz.func118, Tryz.ntmps118
    go_wp2_with fail
    go_ret
    exact ⟨by simp; omega, rfl⟩
  · have d1 : decide (97 ≤ y) = false := by simpa using h1
    rw [d1]
    go_enter Tryz.func118, Tryz.ntmps118
    go_wp2_with fail
    go_ret
    exact ⟨by simp, rfl⟩
theorem leads_any (l : List UInt8) (w : World) : Calls Tryz.prog 203 #[str l] w fun e w' => e = .returned (.bool (leadsB l)) ∧ w = w' := by
  unfold leadsB
  by_cases h1 : l = [104, 114, 101, 102]
  · subst h1
    go_enter Tryz.func203, Tryz.ntmps203
    go_wp2_with fail
    go_ret
    exact ⟨rfl, rfl⟩
  · have e : (l == [104, 114, 101, 102]) = false := by simpa using h1
    rw [e, Bool.false_or]
    go_enter Tryz.func203, Tryz.ntmps203
    go_wp2_with fail
    go_ret
    exact ⟨rfl, rfl⟩
end Go.Proofs.YtlbdnohnngkapaaGreatDoor

namespace Go.Proofs.YtlbdnohnngkapaaGreatDoor
open Go.RowKit

theorem grown_set (w : World) (b i : Nat) (v : Value) : w.grownBy (w.setCell ⟨b, i, none⟩ v) (some b) :=
  ⟨rfl, rfl, rfl, by simp, fun k _ hne => Below.heap_setCell w ⟨b, i, none⟩ v k (fun e => hne (by rw [e]))⟩

/-- A row of bytes of the call's own, that may be written. -/
def OwnB (w : World) (g : Nat) (l : List UInt8) : Prop := ∃ (cs : Array Value) (fr : Nat × Nat), w.heap[g]? = some (.cells cs 5 fr) ∧ l.length ≤ cs.size ∧ cs.toList.take l.length = Lib.byteCells l ∧ ∀ o, o < l.length → ¬ (fr.1 ≤ o ∧ o < fr.2)
theorem OwnB.by_ {w : World} {g : Nat} {l : List UInt8} (h : OwnB w g l) : By w w.heap.size (some ⟨g, 0, none⟩) l.length l := by
  obtain ⟨cs, fr, h1, h2, h3, _⟩ := h
  refine Sl.of_block h1 (by simp [Lib.byteCells]) fun j u hu => ?_
  rw [Nat.zero_add]
  rw [← h3, List.getElem?_take] at hu
  split at hu
  · simpa using hu
  · cases hu
theorem OwnB.fz {w : World} {g : Nat} {l : List UInt8} (h : OwnB w g l) (o : Nat) (ho : o < l.length) : w.frozen? ⟨g, o, none⟩ = false := by
  obtain ⟨cs, fr, h1, _, _, h4⟩ := h
  have := h4 o ho
  unfold World.frozen?
  rw [h1]
  simp
  omega
theorem OwnB.set {w : World} {g : Nat} {l : List UInt8} (h : OwnB w g l) (k : Nat) (x : UInt8) : OwnB (w.setCell ⟨g, k, none⟩ (.int .u8 (x.toNat : Int))) g (l.set k x) := by
  obtain ⟨cs, fr, h1, h2, h3, h4⟩ := h
  refine ⟨_, fr, Go.Joins.block_setCell h1 _, by simpa using h2, ?_, by simpa using h4⟩
  rw [List.length_set, Array.toList_setIfInBounds, List.take_set, h3]
  simp [Lib.byteCells, List.map_set]
theorem OwnB.below {w w' : World} {g : Nat} {l : List UInt8} (h : OwnB w g l) (hb : Below (g + 1) w w') : OwnB w' g l := by
  obtain ⟨cs, fr, h1, h2⟩ := h
  exact ⟨cs, fr, (hb.block g (by omega)).trans h1, h2⟩
theorem run_toOwn {P : Program} (w : World) (src dst e : TypeId) (l : List UInt8) (hs : P.underlying src = some .string) (hd : P.underlying dst = some (.slice e)) (he : P.underlying e = some (.int .u8)) (hee : e = 5) :
    ∃ c w', (convert src dst (str l)).run P w = .ok (.slice (some ⟨w.heap.size, 0, none⟩) l.length c) w' ∧ OwnB w' w.heap.size l ∧ l.length ≤ c ∧ Below w.heap.size w w' ∧ w'.heap.size = w.heap.size + 1 := by
  subst hee
  refine ⟨_, _, run_bytes_of_string w src dst _ ⟨l.toArray⟩ hs hd he, ⟨_, _, heap_alloc_new w.drew _, ?_, ?_, ?_⟩, grownCap_ge _ _ _ _, (Below.drew (Below.refl _ w)).alloc (Nat.le_refl _) _, by simp⟩
  · simp [bytesRow]
  · simp [bytesRow, Lib.byteCells]
  · intro o ho
    simp [bytesRow]
    omega
theorem low_at (l : List UInt8) (k : Nat) (h : k < l.length) : (l.take k).map lowB ++ l.drop k = ((l.take k).map lowB ++ l.drop k) ∧ ((l.take (k + 1)).map lowB ++ l.drop (k + 1) = ((l.take k).map lowB ++ l.drop k).set k (lowB l[k])) := by
  refine ⟨rfl, ?_⟩
  have hk : ((l.take k).map lowB).length = k := by simp; omega
  rw [List.set_append_right _ _ (by omega), hk, Nat.sub_self, List.drop_eq_getElem_cons h, List.set_cons_zero, List.take_add_one, List.getElem?_eq_getElem h, List.map_append, List.append_assoc]
  rfl
theorem wrap_lo : ∀ x : Fin 256, 65 ≤ x.val → x.val ≤ 90 → IntKind.u8.wrap (IntKind.u8.wrap ((x.val : Nat) : Int) + 97) - 65 = ((x.val + 32 : Nat) : Int) := by decide +kernel
def LowRel (w : World) (n : Nat) (l : List UInt8) (iv : Value) (wr : World) : Prop :=
  ∃ k : Nat, k ≤ n ∧ iv = .int .i64 k ∧ Below w.heap.size w wr ∧ OwnB wr w.heap.size ((l.take k).map lowB ++ l.drop k)
set_option maxRecDepth 100000 in
set_option maxHeartbeats 1000000 in
theorem lower_any (l : List UInt8) (w : World) (hl : l.length ≤ maxLen) : Calls Tryz.prog 200 #[str l] w fun e w' => e = .returned (str (lowL l)) ∧ Below w.heap.size w w' := by
  unfold maxLen at hl
  obtain ⟨c, w1, hconv, hown, hc, hb1, hsz⟩ := run_toOwn (P := Tryz.prog) w 9 22 5 l Tryz.underlying9 Tryz.underlying22 Tryz.underlying5 rfl
  obtain ⟨n, hn⟩ : ∃ n, n = l.length := ⟨_, rfl⟩
  rw [← hn] at hconv hl hc
  have Hn := Lib.hid hn
  have Hown := Lib.hid hown
  have Hsz := Lib.hid hsz
  clear hn hown hsz
  go_enter Tryz.func200, Tryz.ntmps200
  go_wp2_with fail
  go_loopw [4, 5, 10] (fun _ _ iv wr => LowRel w n l iv wr) (fun _ _ iv _ => n - (intOf iv).toNat)
  case atStart => exact ⟨0, by omega, rfl, hb1, by simpa using Hown.out⟩
  case round =>
    obtain ⟨k, hk, rfl, hbel, hO⟩ := hrel
    have hlen : ((l.take k).map lowB ++ l.drop k).length = n := by
      simp only [List.length_append, List.length_map, List.length_take, List.length_drop]; have := Hn.out; omega
    by_cases hkn : k < n
    · have hkl : k < l.length := by rw [← Hn.out]; exact hkn
      have hfz := hO.fz k (by rw [hlen]; exact hkn)
      have hcell : wr.cell? ⟨w.heap.size, k, none⟩ = some (.int .u8 (nth l k)) := by
        obtain ⟨b, off, hA, _, hc⟩ := hO.by_.opn (by rw [hlen]; omega)
        injection hA with hA
        injection hA with hA hB _
        subst hA
        subst hB
        have := hc k (by rw [hlen]; exact hkn)
        rw [Nat.zero_add] at this
        rw [this]
        have e : nth ((l.take k).map lowB ++ l.drop k) k = nth l k := by
          have : ((l.take k).map lowB).length = k := by simp; omega
          unfold nth
          simp only [List.getD]
          rw [List.getElem?_append_right (by omega), this, Nat.sub_self, List.getElem?_drop, Nat.add_zero]
        rw [e]
      have hx := nth_lt l k
      have hset := (low_at l k hkl).2
      have hnk : l[k].toNat = nth l k := (nth_of l k hkl).symm
      have hO2 := hO.set k (lowB l[k])
      rw [← hset] at hO2
      have HO := Lib.hid hO
      have HO2 := Lib.hid hO2
      have Hset := Lib.hid hset
      have Hnk := Lib.hid hnk
      have Hlen := Lib.hid hlen
      clear hset hnk hO hO2 hlen
      have hsame : ¬ (65 ≤ nth l k ∧ nth l k ≤ 90) → LowRel w n l (.int .i64 ((k + 1 : Nat) : Int)) wr := by
        intro h
        refine ⟨k + 1, by omega, rfl, hbel, ?_⟩
        have e : lowB l[k] = l[k] := by
          unfold lowB
          rw [if_neg]
          intro ⟨h1, h2⟩
          have h1 := UInt8.le_iff_toNat_le.1 h1
          have h2 := UInt8.le_iff_toNat_le.1 h2
          rw [Hnk.out] at h1 h2
          exact h ⟨h1, h2⟩
        rw [Hset.out, e]
        have e2 : ((l.take k).map lowB ++ l.drop k)[k]'(by rw [Hlen.out]; exact hkn) = l[k] := by
          have : ((l.take k).map lowB).length = k := by simp; omega
          rw [List.getElem_append_right (by omega)]
          simp only [List.getElem_drop]
          congr 1
          omega
        rw [← e2, List.set_getElem_self]
        exact HO.out
      by_cases h1 : 65 ≤ nth l k
      · by_cases h2 : nth l k ≤ 90
        · clear hsame
          go_wp2_with fail
          refine ⟨⟨k + 1, by omega, by go_num, hbel.setCell (Nat.le_refl _) _, ?_⟩, by simp [intOf]; omega⟩
          have e : (lowB l[k]).toNat = nth l k + 32 := by
            unfold lowB
            rw [if_pos ⟨UInt8.le_iff_toNat_le.2 (by rw [Hnk.out]; exact h1), UInt8.le_iff_toNat_le.2 (by rw [Hnk.out]; exact h2)⟩, UInt8.toNat_add, Hnk.out]
            show (nth l k + 32) % 256 = _
            omega
          have e2 : ((nth l k : Nat) : Int) + 97 - 65 = (((lowB l[k]).toNat : Nat) : Int) := by rw [e]; omega
          rw [e2]
          exact HO2.out
        · have hs := Lib.hid (hsame (by omega))
          clear hsame
          go_wp2_with fail
          exact ⟨by have := hs.out; simpa using this, by simp [intOf]; omega⟩
      · have hs := Lib.hid (hsame (by omega))
        clear hsame
        go_wp2_with fail
        exact ⟨by have := hs.out; simpa using this, by simp [intOf]; omega⟩
    · have hkn' : k = n := by omega
      have hM : (l.take k).map lowB ++ l.drop k = lowL l := by
        rw [hkn', List.take_of_length_le (by rw [← Hn.out]; omega), List.drop_of_length_le (by rw [← Hn.out]; omega), List.append_nil]; rfl
      rw [hM] at hO hlen
      have hts := run_toStr (P := Tryz.prog) wr 22 9 5 _ (some ⟨w.heap.size, 0, none⟩) n c (lowL l) (by have := hO.by_; rw [hlen] at this; exact this) Tryz.underlying22 Tryz.underlying5 Tryz.underlying9
      clear hO hM hlen hkn'
      go_wp2_with fail
      go_ret
      exact ⟨rfl, hbel⟩
end Go.Proofs.YtlbdnohnngkapaaGreatDoor

namespace Go.Proofs.YtlbdnohnngkapaaGreatDoor
open Go.RowKit

theorem IndexByte_lit (l : List UInt8) (x : Nat) (w : World) :
    Calls Tryz.prog 110 #[str l, .int .u8 (x : Int)] w fun e w' => e = .returned (.int .i64 (Lib.indexByte l (UInt8.ofNat x))) ∧ w = w' := IndexByte_any l x w
set_option maxRecDepth 100000 in
theorem char_any (x : Nat) (hx : x < 256) (w : World) : Calls Tryz.prog 258 #[.int .u8 (x : Int)] w fun e w' => e = .returned (.bool (charU x)) ∧ w = w' := by
  by_cases h1 : 32 < x
  · by_cases h2 : x ≤ 126
    · have hi := IndexByte_any noU x w
      rw [show charU x = decide (Lib.indexByte noU (UInt8.ofNat x) < 0) by simp [charU, h1, h2]]
      generalize Lib.indexByte noU (UInt8.ofNat x) = i at hi ⊢
      have Hi := Lib.hid hi
      clear hi
      go_enter Tryz.func258, Tryz.ntmps258
      go_wp2_with fail
      refine Hi.out.mono ?_
      rintro e w1 ⟨rfl, rfl⟩
      go_wp2_with fail
      all_goals
        go_ret
        exact ⟨rfl, rfl⟩
    · rw [show charU x = false by simp [charU, h2]]
      go_enter Tryz.func258, Tryz.ntmps258
      go_wp2_with fail
      go_ret
      exact ⟨rfl, rfl⟩
  · rw [show charU x = false by simp [charU, h1]]
    go_enter Tryz.func258, Tryz.ntmps258
    go_wp2_with fail
    go_ret
    exact ⟨rfl, rfl⟩
end Go.Proofs.YtlbdnohnngkapaaGreatDoor

namespace Go.Proofs.YtlbdnohnngkapaaGreatDoor
open Go.RowKit

set_option maxRecDepth 100000 in
set_option maxHeartbeats 1000000 in
theorem lowerU_any (l : List UInt8) (w : World) (hl : l.length ≤ maxLen) : Calls Tryz.prog 108 #[str l] w fun e w' => e = .returned (str (lowL l)) ∧ Below w.heap.size w w' := by
  unfold maxLen at hl
  obtain ⟨c, w1, hconv, hown, hc, hb1, hsz⟩ := run_toOwn (P := Tryz.prog) w 9 22 5 l Tryz.underlying9 Tryz.underlying22 Tryz.underlying5 rfl
  obtain ⟨n, hn⟩ : ∃ n, n = l.length := ⟨_, rfl⟩
  rw [← hn] at hconv hl hc
  have Hn := Lib.hid hn
  have Hown := Lib.hid hown
  have Hsz := Lib.hid hsz
  clear hn hown hsz
  go_enter Tryz.func108, Tryz.ntmps108
  go_wp2_with fail
  go_loopw [4, 5, 10] (fun _ _ iv wr => LowRel w n l iv wr) (fun _ _ iv _ => n - (intOf iv).toNat)
  case atStart => exact ⟨0, by omega, rfl, hb1, by simpa using Hown.out⟩
  case round =>
    obtain ⟨k, hk, rfl, hbel, hO⟩ := hrel
    have hlen : ((l.take k).map lowB ++ l.drop k).length = n := by
      simp only [List.length_append, List.length_map, List.length_take, List.length_drop]; have := Hn.out; omega
    by_cases hkn : k < n
    · have hkl : k < l.length := by rw [← Hn.out]; exact hkn
      have hfz := hO.fz k (by rw [hlen]; exact hkn)
      have hcell : wr.cell? ⟨w.heap.size, k, none⟩ = some (.int .u8 (nth l k)) := by
        obtain ⟨b, off, hA, _, hc⟩ := hO.by_.opn (by rw [hlen]; omega)
        injection hA with hA
        injection hA with hA hB _
        subst hA
        subst hB
        have := hc k (by rw [hlen]; exact hkn)
        rw [Nat.zero_add] at this
        rw [this]
        have e : nth ((l.take k).map lowB ++ l.drop k) k = nth l k := by
          have : ((l.take k).map lowB).length = k := by simp; omega
          unfold nth
          simp only [List.getD]
          rw [List.getElem?_append_right (by omega), this, Nat.sub_self, List.getElem?_drop, Nat.add_zero]
        rw [e]
      have hx := nth_lt l k
      have hset := (low_at l k hkl).2
      have hnk : l[k].toNat = nth l k := (nth_of l k hkl).symm
      have hO2 := hO.set k (lowB l[k])
      rw [← hset] at hO2
      have HO := Lib.hid hO
      have HO2 := Lib.hid hO2
      have Hset := Lib.hid hset
      have Hnk := Lib.hid hnk
      have Hlen := Lib.hid hlen
      clear hset hnk hO hO2 hlen
      have hsame : ¬ (65 ≤ nth l k ∧ nth l k ≤ 90) → LowRel w n l (.int .i64 ((k + 1 : Nat) : Int)) wr := by
        intro h
        refine ⟨k + 1, by omega, rfl, hbel, ?_⟩
        have e : lowB l[k] = l[k] := by
          unfold lowB
          rw [if_neg]
          intro ⟨h1, h2⟩
          have h1 := UInt8.le_iff_toNat_le.1 h1
          have h2 := UInt8.le_iff_toNat_le.1 h2
          rw [Hnk.out] at h1 h2
          exact h ⟨h1, h2⟩
        rw [Hset.out, e]
        have e2 : ((l.take k).map lowB ++ l.drop k)[k]'(by rw [Hlen.out]; exact hkn) = l[k] := by
          have : ((l.take k).map lowB).length = k := by simp; omega
          rw [List.getElem_append_right (by omega)]
          simp only [List.getElem_drop]
          congr 1
          omega
        rw [← e2, List.set_getElem_self]
        exact HO.out
      by_cases h1 : 65 ≤ nth l k
      · by_cases h2 : nth l k ≤ 90
        · clear hsame
          go_wp2_with fail
          refine ⟨⟨k + 1, by omega, by go_num, hbel.setCell (Nat.le_refl _) _, ?_⟩, by simp [intOf]; omega⟩
          have e : (lowB l[k]).toNat = nth l k + 32 := by
            unfold lowB
            rw [if_pos ⟨UInt8.le_iff_toNat_le.2 (by rw [Hnk.out]; exact h1), UInt8.le_iff_toNat_le.2 (by rw [Hnk.out]; exact h2)⟩, UInt8.toNat_add, Hnk.out]
            show (nth l k + 32) % 256 = _
            omega
          have e2 : ((nth l k : Nat) : Int) + 97 - 65 = (((lowB l[k]).toNat : Nat) : Int) := by rw [e]; omega
          rw [e2]
          exact HO2.out
        · have hs := Lib.hid (hsame (by omega))
          clear hsame
          go_wp2_with fail
          exact ⟨by have := hs.out; simpa using this, by simp [intOf]; omega⟩
      · have hs := Lib.hid (hsame (by omega))
        clear hsame
        go_wp2_with fail
        exact ⟨by have := hs.out; simpa using this, by simp [intOf]; omega⟩
    · have hkn' : k = n := by omega
      have hM : (l.take k).map lowB ++ l.drop k = lowL l := by
        rw [hkn', List.take_of_length_le (by rw [← Hn.out]; omega), List.drop_of_length_le (by rw [← Hn.out]; omega), List.append_nil]; rfl
      rw [hM] at hO hlen
      have hts := run_toStr (P := Tryz.prog) wr 22 9 5 _ (some ⟨w.heap.size, 0, none⟩) n c (lowL l) (by have := hO.by_; rw [hlen] at this; exact this) Tryz.underlying22 Tryz.underlying5 Tryz.underlying9
      clear hO hM hlen hkn'
      go_wp2_with fail
      go_ret
      exact ⟨rfl, hbel⟩
set_option maxRecDepth 100000 in
theorem word1U_any (x b : Nat) (but : List UInt8) (hx : x < 256) (w : World) (hc : w.cell? ⟨b, 0, none⟩ = some (.string ⟨but.toArray⟩)) : Calls Tryz.prog 257 #[.int .u8 (x : Int), .pointer (some ⟨b, 0, none⟩)] w fun e w' => e = .returned (.bool (badU but x)) ∧ w = w' := by
  have hch := fun W => char_any x hx W
  unfold badU
  cases h : charU x with
  | false =>
    rw [h] at hch
    have Hch := Lib.hid hch
    clear hch h
    go_enter Tryz.func257, Tryz.ntmps257
    go_wp2_with fail
    refine (Hch.out _).mono ?_
    rintro e w1 ⟨rfl, rfl⟩
    go_wp2_with fail
    go_ret
    exact ⟨rfl, rfl⟩
  | true =>
    rw [h] at hch
    have hi := fun W => IndexByte_any but x W
    generalize Lib.indexByte but (UInt8.ofNat x) = i at hi ⊢
    have Hch := Lib.hid hch
    have Hi := Lib.hid hi
    clear hch h hi
    go_enter Tryz.func257, Tryz.ntmps257
    go_wp2_with fail
    refine (Hch.out _).mono ?_
    rintro e w1 ⟨rfl, rfl⟩
    go_wp2_with fail
    refine (Hi.out _).mono ?_
    rintro e w1 ⟨rfl, rfl⟩
    go_wp2_with fail
    all_goals
      go_ret
      exact ⟨rfl, rfl⟩
theorem predWordU (b : Nat) (but : List UInt8) (w : World) (hb : b < w.heap.size) (hc : w.cell? ⟨b, 0, none⟩ = some (.string ⟨but.toArray⟩)) : PredB 257 #[.pointer (some ⟨b, 0, none⟩)] (badU but) w := fun W x hx hW =>
  (word1U_any x b but hx W ((hW.cell (p := ⟨b, 0, none⟩) hb).trans hc)).mono fun _e _w' ⟨h1, h2⟩ => ⟨h1, h2 ▸ Below.refl _ _⟩
set_option maxRecDepth 100000 in
set_option maxHeartbeats 400000 in
theorem wordU_any (s but : List UInt8) (w : World) (hl : s.length ≤ maxLen) : Calls Tryz.prog 189 #[str s, .string ⟨but.toArray⟩] w fun e w' => e = .returned (.bool (wordU s but)) ∧ Below w.heap.size w w' := by
  have hb0 : Below w.heap.size w (w.alloc (.cells #[.string ⟨but.toArray⟩] 9)) := (Below.refl _ w).alloc (Nat.le_refl _) _
  obtain ⟨A, c, w1, hconv, hby, hnc, hb1, hlt1⟩ := run_toBytes (P := Tryz.prog) (w.alloc (.cells #[.string ⟨but.toArray⟩] 9)) 9 22 5 s Tryz.underlying9 Tryz.underlying22 Tryz.underlying5
  have hc0 : (w.alloc (.cells #[.string ⟨but.toArray⟩] 9)).cell? ⟨w.heap.size, 0, none⟩ = some (.string ⟨but.toArray⟩) := by rw [Go.Joins.cell_of_block (heap_alloc_new w _)]; rfl
  have hc1 : w1.cell? ⟨w.heap.size, 0, none⟩ = some (.string ⟨but.toArray⟩) := (hb1.cell (p := ⟨w.heap.size, 0, none⟩) (by simp)).trans hc0
  have hcf := ContainsFunc_bytes 257 #[.pointer (some ⟨w.heap.size, 0, none⟩)] (enters_of Tryz.func257 (by kernel_rfl) rfl) (badU but) A s.length c _ s w1 hby (Nat.le_refl _) hl (predWordU w.heap.size but w1 (by simp at hlt1; omega) hc1)
  unfold wordU
  generalize s.any (fun b => badU but b.toNat) = r at hcf ⊢
  have hbel1 := hb0.trans (hb1.mono hb0.size)
  have Hcf := Lib.hid hcf
  clear hcf hby hc0 hc1 hb1 hb0
  go_enter Tryz.func189, Tryz.ntmps189
  go_wp2_with fail
  refine Hcf.out.mono ?_
  rintro e w2 ⟨rfl, hb2⟩
  go_wp2_with fail
  go_ret
  exact ⟨rfl, hbel1.trans (hb2.mono hbel1.size)⟩
theorem all_missU (l : List UInt8) (p : Nat → Bool) (k : Nat) (hk : k < l.length) (h : p (nth l k) = false) : l.all (fun b => p b.toNat) = false := by
  rw [List.all_eq_false]
  exact ⟨l[k], List.getElem_mem hk, by rw [← nth_of l k hk, h]; simp⟩
theorem all_hitU (l : List UInt8) (p : Nat → Bool) (h : ∀ j, j < l.length → p (nth l j) = true) : l.all (fun b => p b.toNat) = true := by
  rw [List.all_eq_true]
  intro x hx
  obtain ⟨j, hj, rfl⟩ := List.getElem_of_mem hx
  rw [← nth_of l j hj, h j hj]
set_option maxRecDepth 100000 in
set_option maxHeartbeats 4000000 in
theorem schemeU_any (l : List UInt8) (w : World) (hl : l.length ≤ maxLen) : Calls Tryz.prog 107 #[str l] w fun e w' => e = .returned (.bool (schemeU l)) ∧ Below w.heap.size w w' := by
  unfold maxLen at hl
  obtain ⟨A, c, w1, hconv, hby, hnc, hb1, hlt1⟩ := run_toBytes (P := Tryz.prog) w 9 22 5 l Tryz.underlying9 Tryz.underlying22 Tryz.underlying5
  obtain ⟨n, hn⟩ : ∃ n, n = l.length := ⟨_, rfl⟩
  rw [← hn] at hconv hl hby hnc
  obtain ⟨R, hR⟩ : ∃ R, R = schemeU l := ⟨_, rfl⟩
  rw [← hR]
  rw [lowC_scheme] at hR
  have Hn := Lib.hid hn
  have HR := Lib.hid hR
  have Hby := Lib.hid hby
  clear hn hR hby
  go_enter Tryz.func107, Tryz.ntmps107
  go_wp2_with fail
  go_loopw [3, 4, 8] (fun _ _ iv wr => ∃ k : Nat, k ≤ n ∧ iv = .int .i64 k ∧ wr = w1 ∧ Hid (∀ j, j < k → schC (nth l j) = true ∧ (j = 0 → schA (nth l j) = true))) (fun _ _ iv _ => n - (intOf iv).toNat)
  case atStart => exact ⟨0, by omega, rfl, rfl, fun j hj => absurd hj (by omega)⟩
  case round =>
    obtain ⟨k, hk, rfl, rfl, hz⟩ := hrel
    by_cases hkn : k < n
    · obtain ⟨b, off, rfl, _, hcell⟩ := Hby.out.at_ hkn
      have hx := nth_lt l k
      have hkl : k < l.length := by rw [← Hn.out]; exact hkn
      have hbad : (schA (nth l k) = false ∧ (k = 0 ∨ schC (nth l k) = false)) → R = false := by
        rintro ⟨h1, h2⟩
        rw [HR.out, Bool.and_eq_false_iff]
        rcases h2 with rfl | h2
        · right
          have : l ≠ [] := by intro e; rw [e] at hkl; simp at hkl
          simp [this, h1]
        · left
          exact all_missU l schC k hkl h2
      have hgood : (schA (nth l k) = true ∨ (k ≠ 0 ∧ schC (nth l k) = true)) → ∀ j, j < k + 1 → schC (nth l j) = true ∧ (j = 0 → schA (nth l j) = true) := by
        intro h j hj
        rcases Nat.lt_or_ge j k with h' | h'
        · exact hz.out j h'
        · obtain rfl : j = k := by omega
          rcases h with h | ⟨h1, h2⟩
          · exact ⟨by unfold schA at h; unfold schC; simp only [h, Bool.true_or], fun _ => h⟩
          · exact ⟨h2, fun e => absurd e h1⟩
      have Hbad := Lib.hid hbad
      have Hgood := Lib.hid hgood
      clear hbad hgood
      generalize nth l k = x at hcell hx Hbad Hgood
      obtain ⟨q3, d3, e3⟩ : ∃ q : Bool, ((k : Int) == 0) = q ∧ (q = true ↔ k = 0) := ⟨_, rfl, by simp⟩
      obtain ⟨q6, d6, e6⟩ : ∃ q : Bool, ((x : Int) != 43) = q ∧ (q = true ↔ x ≠ 43) := ⟨_, rfl, by simp; omega⟩
      obtain ⟨q7, d7, e7⟩ : ∃ q : Bool, ((x : Int) != 45) = q ∧ (q = true ↔ x ≠ 45) := ⟨_, rfl, by simp; omega⟩
      obtain ⟨q8, d8, e8⟩ : ∃ q : Bool, ((x : Int) != 46) = q ∧ (q = true ↔ x ≠ 46) := ⟨_, rfl, by simp; omega⟩
      by_cases p1 : x < 97 <;> by_cases p2 : 122 < x <;> by_cases p4 : x < 48 <;> by_cases p5 : 57 < x <;> cases q3 <;> cases q6 <;> cases q7 <;> cases q8 <;> simp at e3 e6 e7 e8 <;> (try (exfalso; omega))
      all_goals
        have E3 := Lib.hid e3
        have E6 := Lib.hid e6
        have E7 := Lib.hid e7
        have E8 := Lib.hid e8
        clear e3 e6 e7 e8
        go_wp2_with fail
        first
        | (go_ret
           have hRf := Hbad.out ⟨by simp [schA]; omega, by first | exact .inl E3.out | (right; have := E6.out; have := E7.out; have := E8.out; simp [schC]; omega)⟩
           exact ⟨by rw [hRf]; rfl, hb1⟩)
        | exact ⟨⟨k + 1, by omega, by go_num, trivial, Hgood.out (by first | (left; simp [schA]; omega) | (right; have := E3.out; have := E6.out; have := E7.out; have := E8.out; exact ⟨by omega, by simp [schC]; omega⟩))⟩, by simp [intOf]; omega⟩
    · have hRt : R = true := by
        rw [HR.out, Bool.and_eq_true]
        refine ⟨all_hitU l schC fun j hj => (hz.out j (by rw [← Hn.out] at hj; omega)).1, ?_⟩
        rcases Nat.eq_zero_or_pos l.length with h | h
        · rw [List.eq_nil_of_length_eq_zero h]; rfl
        · rw [(hz.out 0 (by rw [← Hn.out] at h; omega)).2 rfl]; simp
      have HRt := Lib.hid hRt
      clear hRt
      go_wp2_with fail
      go_ret
      exact ⟨by rw [HRt.out]; rfl, hb1⟩
theorem first_any (l : List UInt8) (w : World) (hl : l.length ≤ maxLen) : Calls Tryz.prog 190 #[str l] w fun e w' => e = .returned (str (Lib.cut l [47]).1) ∧ Below w.heap.size w w' := by
  have h := Cut_one l 47 w hl
  generalize Lib.cut l [47] = x at h ⊢
  obtain ⟨a, b, d⟩ := x
  have H := Lib.hid h
  clear h
  go_enter Tryz.func190, Tryz.ntmps190
  go_wp2_with fail
  refine H.out.mono ?_
  rintro e w1 ⟨rfl, q, rfl⟩
  go_wp2_with fail
  go_ret
  exact ⟨rfl, belN (Below.refl _ _) q⟩
end Go.Proofs.YtlbdnohnngkapaaGreatDoor

namespace Go.Proofs.YtlbdnohnngkapaaGreatDoor

/-! ### Segments -/
theorem splitC_ne (c : UInt8) : ∀ l, splitC c l ≠ []
  | [] => by simp [splitC]
  | b :: l => by
    unfold splitC
    by_cases h : b = c
    · rw [if_pos h]; simp
    · rw [if_neg h]
      cases h2 : splitC c l <;> simp [consHead]
theorem joinC_cons (c : UInt8) (x y : List UInt8) (r) : joinC c (x :: y :: r) = x ++ c :: joinC c (y :: r) := rfl
theorem joinC_head (c b : UInt8) (x : List UInt8) (r) : joinC c ((b :: x) :: r) = b :: joinC c (x :: r) := by
  cases r <;> rfl
theorem join_split (c : UInt8) : ∀ l, joinC c (splitC c l) = l
  | [] => rfl
  | b :: l => by
    have ih := join_split c l
    have hne := splitC_ne c l
    unfold splitC
    by_cases h : b = c
    · rw [if_pos h]
      cases h2 : splitC c l with
      | nil => exact absurd h2 hne
      | cons x r => rw [h2] at ih; rw [joinC_cons, ih, h]; rfl
    · rw [if_neg h]
      cases h2 : splitC c l with
      | nil => exact absurd h2 hne
      | cons x r => rw [h2] at ih; show joinC c ((b :: x) :: r) = _; rw [joinC_head, ih]
theorem splitC_free (c : UInt8) : ∀ l, ∀ x ∈ splitC c l, c ∉ x
  | [] => by simp [splitC]
  | b :: l => by
    have ih := splitC_free c l
    unfold splitC
    by_cases h : b = c
    · rw [if_pos h]
      intro x hx
      simp only [List.mem_cons] at hx
      rcases hx with rfl | hx
      · simp
      · exact ih x hx
    · rw [if_neg h]
      have hb : c ≠ b := fun e => h e.symm
      cases h2 : splitC c l with
      | nil => simp [consHead, hb]
      | cons x r =>
        rw [h2] at ih
        intro y hy
        simp only [consHead, List.mem_cons] at hy
        rcases hy with rfl | hy
        · simp only [List.mem_cons, not_or]; exact ⟨hb, ih x (by simp)⟩
        · exact ih y (by simp [hy])
theorem splitC_app (c : UInt8) : ∀ (x l : List UInt8), c ∉ x → splitC c (x ++ c :: l) = x :: splitC c l
  | [], l, _ => by simp [splitC]
  | b :: x, l, h => by
    simp only [List.mem_cons, not_or] at h
    have hb : b ≠ c := fun e => h.1 e.symm
    show splitC c (b :: (x ++ c :: l)) = _
    rw [splitC, if_neg hb, splitC_app c x l h.2]
    rfl
theorem splitC_one (c : UInt8) : ∀ (x : List UInt8), c ∉ x → splitC c x = [x]
  | [], _ => rfl
  | b :: x, h => by
    simp only [List.mem_cons, not_or] at h
    have hb : b ≠ c := fun e => h.1 e.symm
    rw [splitC, if_neg hb, splitC_one c x h.2]
    rfl
theorem split_joinC (c : UInt8) : ∀ (L : List (List UInt8)), L ≠ [] → (∀ x ∈ L, c ∉ x) → splitC c (joinC c L) = L
  | [], h, _ => absurd rfl h
  | [x], _, h => splitC_one c x (h x (by simp))
  | x :: y :: r, _, h => by
    rw [joinC_cons, splitC_app c x _ (h x (by simp)), split_joinC c (y :: r) (by simp) (fun z hz => h z (by simp only [List.mem_cons] at hz ⊢; exact .inr hz))]

/-! ### Dots -/
def Good (L : List (List UInt8)) : Prop := ∀ x ∈ L, (47 : UInt8) ∉ x ∧ isDot x = false
theorem Good.app {a b : List (List UInt8)} (h1 : Good a) (h2 : Good b) : Good (a ++ b) := by
  intro x hx
  rcases List.mem_append.1 hx with h | h
  · exact h1 x h
  · exact h2 x h
theorem Good.pop {a : List (List UInt8)} (h : Good a) : Good (popU a) := by
  unfold popU
  split
  · intro x hx; exact h x ((List.dropLast_sublist _).subset hx)
  · exact h
theorem good_nil1 : Good [[]] := by intro x hx; simp at hx; subst hx; exact ⟨by simp, rfl⟩
theorem Good.step {last : Bool} {out : List (List UInt8)} {s : List UInt8} (h : Good out) (hs : (47 : UInt8) ∉ s) : Good (dotStep last out s) := by
  unfold dotStep
  by_cases h1 : s = [46]
  · rw [if_pos h1]
    cases last
    · exact h
    · exact h.app good_nil1
  · rw [if_neg h1]
    by_cases h2 : s = [46, 46]
    · rw [if_pos h2]
      cases last
      · exact h.pop
      · exact h.pop.app good_nil1
    · rw [if_neg h2]
      refine h.app ?_
      intro x hx
      simp only [List.mem_singleton] at hx
      subst hx
      refine ⟨hs, ?_⟩
      unfold isDot
      rw [Bool.or_eq_false_iff, beq_eq_false_iff_ne, beq_eq_false_iff_ne]
      exact ⟨h1, h2⟩
theorem dotsF_good : ∀ (L out : List (List UInt8)), (∀ x ∈ L, (47 : UInt8) ∉ x) → Good out → Good (dotsF L out)
  | [], _, _, h => h
  | s :: r, out, hL, h => by
    unfold dotsF
    exact dotsF_good r _ (fun x hx => hL x (by simp [hx])) (h.step (hL s (by simp)))
theorem dotsF_same : ∀ (L out : List (List UInt8)), (∀ x ∈ L, isDot x = false) → dotsF L out = out ++ L
  | [], out, _ => by simp [dotsF]
  | s :: r, out, h => by
    have hs := h s (by simp)
    unfold isDot at hs
    rw [Bool.or_eq_false_iff, beq_eq_false_iff_ne, beq_eq_false_iff_ne] at hs
    unfold dotsF dotStep
    rw [if_neg hs.1, if_neg hs.2, dotsF_same r _ (fun x hx => h x (by simp [hx]))]
    simp
theorem good_split_join {L : List (List UInt8)} (h : Good L) : ∀ x ∈ splitC 47 (joinC 47 L), isDot x = false := by
  cases L with
  | nil => intro x hx; simp [joinC, splitC] at hx; subst hx; rfl
  | cons a r =>
    rw [split_joinC 47 (a :: r) (by simp) (fun x hx => (h x hx).1)]
    exact fun x hx => (h x hx).2
/-- No dots are left to go. -/
theorem dots_free (p : List UInt8) : ∀ x ∈ splitC 47 (dotsU p), isDot x = false := by
  unfold dotsU
  by_cases hp : p = []
  · rw [if_pos hp]; intro x hx; simp [splitC] at hx; subst hx; rfl
  · rw [if_neg hp]
    have hg : Good (dotsF (splitC 47 p) []) := dotsF_good _ _ (splitC_free 47 p) (by intro x hx; cases hx)
    have h1 := good_split_join hg
    unfold slashU
    split
    · show ∀ x ∈ splitC 47 ([] ++ 47 :: _), _
      rw [splitC_app 47 [] _ (by simp)]
      intro x hx
      simp only [List.mem_cons] at hx
      rcases hx with rfl | hx
      · rfl
      · exact h1 x hx
    · exact h1
theorem dots_same {p : List UInt8} (h : ∀ x ∈ splitC 47 p, isDot x = false) : dotsU p = p := by
  unfold dotsU
  by_cases hp : p = []
  · rw [if_pos hp, hp]
  · rw [if_neg hp, dotsF_same _ _ h, List.nil_append, join_split]
    unfold slashU
    rw [if_neg]
    simp

/-! ### What is led to -/
theorem undot_path (o : UrlD) : (undotU o).hasHost = o.hasHost ∧ (undotU o).scheme = o.scheme ∧ (undotU o).hasFrag = o.hasFrag ∧ (undotU o).frag = o.frag := by
  unfold undotU; split <;> exact ⟨rfl, rfl, rfl, rfl⟩
theorem undot_free {o : UrlD} (h : Lib.hasPrefix (undotU o).path [47] = true) : ∀ x ∈ splitC 47 (undotU o).path, isDot x = false := by
  unfold undotU at h ⊢
  by_cases hc : (o.hasHost || Lib.hasPrefix o.path [47]) = true
  · rw [if_pos hc]; exact dots_free _
  · rw [if_neg hc] at h
    rw [Bool.or_eq_true, not_or] at hc
    exact absurd h hc.2
theorem prefix_one {p : List UInt8} : Lib.hasPrefix p [47] = true ↔ p ≠ [] ∧ nth p 0 = 47 := by
  cases p with
  | nil => simp [Lib.hasPrefix, List.isPrefixOf]
  | cons a r =>
    have : nth (a :: r) 0 = a.toNat := rfl
    rw [this]
    simp only [Lib.hasPrefix, List.isPrefixOf, Bool.and_true, beq_iff_eq, ne_eq, reduceCtorEq, not_false_eq_true, true_and]
    constructor
    · intro h; rw [← h]; rfl
    · intro h; exact (UInt8.toNat_inj.1 h).symm
theorem led_scheme {b u : UrlD} (h : b.scheme ≠ []) : (ledU b u).scheme ≠ [] ∧ (ledU b u).hasFrag = u.hasFrag ∧ (ledU b u).frag = u.frag := by
  unfold ledU
  by_cases h1 : u.scheme ≠ []
  · rw [if_pos h1]; exact ⟨h1, rfl, rfl⟩
  · rw [if_neg h1]
    split
    · exact ⟨h, rfl, rfl⟩
    · split
      · split <;> exact ⟨h, rfl, rfl⟩
      · split <;> exact ⟨h, rfl, rfl⟩
theorem lead_parts {b u x : UrlD} (h : leadU b u = (x, 0)) : checkU b = 0 ∧ checkU u = 0 ∧ b.scheme ≠ [] ∧ x = undotU (ledU b u) ∧ checkU x = 0 := by
  unfold leadU at h
  by_cases h1 : checkU b ≠ 0
  · rw [if_pos h1] at h; injection h with _ h; exact absurd h h1
  · rw [if_neg h1] at h
    by_cases h2 : checkU u ≠ 0
    · rw [if_pos h2] at h; injection h with _ h; exact absurd h h2
    · rw [if_neg h2] at h
      by_cases h3 : b.scheme = []
      · rw [if_pos h3] at h; injection h with _ h; cases h
      · rw [if_neg h3] at h
        unfold endU at h
        by_cases h4 : (!(undotU (ledU b u)).hasHost && Lib.hasPrefix (undotU (ledU b u)).path [47, 47]) = true
        · rw [if_pos h4] at h; injection h with _ h; cases h
        · rw [if_neg h4] at h
          by_cases h5 : checkU (undotU (ledU b u)) = 0
          · rw [if_pos h5] at h
            injection h with h _
            subst h
            exact ⟨by omega, by omega, h3, rfl, h5⟩
          · rw [if_neg h5] at h; injection h with _ h; exact absurd h h5
theorem end_same {x : UrlD} (h : checkU x = 0) : endU x = (x, 0) := by
  obtain ⟨_, _, _, h1, _⟩ := check_ok h
  unfold endU
  rw [if_neg, if_pos h]
  intro hc
  rw [Bool.and_eq_true, Bool.not_eq_true'] at hc
  unfold formB at h1
  rw [hc.1] at h1
  simp only [Bool.false_eq_true, if_false, Bool.or_eq_false_iff] at h1
  rw [h1.1] at hc
  exact absurd hc.2 (by simp)
theorem undot_same {x : UrlD} (h : checkU x = 0) (hf : Lib.hasPrefix x.path [47] = true → ∀ s ∈ splitC 47 x.path, isDot s = false) : undotU x = x := by
  obtain ⟨_, _, _, h1, _⟩ := check_ok h
  unfold undotU
  by_cases hp : Lib.hasPrefix x.path [47] = true
  · rw [dots_same (hf hp)]; split <;> rfl
  · cases hh : x.hasHost
    · rw [if_neg]
      rw [Bool.not_eq_true] at hp
      simp [hp]
    · unfold formB at h1
      rw [hh] at h1
      simp only [if_true, Bool.and_eq_false_iff, Bool.not_eq_false', beq_iff_eq] at h1
      have he : x.path = [] := by
        rcases h1 with h1 | h1
        · exact h1
        · by_cases e : x.path = []
          · exact e
          · exact absurd (prefix_one.2 ⟨e, h1⟩) hp
      rw [he]
      have : dotsU [] = x.path := by rw [he]; rfl
      rw [this, ← hh]
      split <;> rfl
/-- What is led to leads to itself from anywhere. -/
theorem lead_self {b u c x : UrlD} (h : leadU b u = (x, 0)) (hc : checkU c = 0) (hs : c.scheme ≠ []) : leadU c x = (x, 0) := by
  obtain ⟨_, _, hb, hx, hk⟩ := lead_parts h
  have hxs : x.scheme ≠ [] := by rw [hx, (undot_path _).2.1]; exact (led_scheme hb).1
  unfold leadU
  rw [if_neg (by omega), if_neg (by omega), if_neg hs]
  have : ledU c x = x := by unfold ledU; rw [if_pos hxs]
  rw [this, undot_same hk (by rw [hx]; exact undot_free), end_same hk]
def noFrag (x : UrlD) : UrlD := { x with hasFrag := false, frag := [] }
theorem check_noFrag {x : UrlD} (h : checkU x = 0) : checkU (noFrag x) = 0 := by
  obtain ⟨h1, h2, h3, h4, h5⟩ := check_ok h
  obtain ⟨k0, k1, k2, k3, k4, k5⟩ := ok_parts h2
  have e1 : longU (noFrag x) = false := by
    unfold longU at h1 ⊢
    simp only [Bool.or_eq_false_iff] at h1 ⊢
    refine ⟨⟨⟨⟨h1.1.1.1.1, h1.1.1.1.2⟩, h1.1.1.2⟩, h1.1.2⟩, by simp [noFrag]⟩
  have e2 : okU (noFrag x) = true := by
    unfold okU at h2 ⊢
    simp only [Bool.and_eq_true] at h2 ⊢
    exact ⟨h2.1, h2.2.1, h2.2.2.1, h2.2.2.2.1, h2.2.2.2.2.1, rfl⟩
  have e3 : formA (noFrag x) = false := by
    unfold formA at h3 ⊢
    simp only [Bool.or_eq_false_iff] at h3 ⊢
    exact ⟨⟨h3.1.1, h3.1.2⟩, rfl⟩
  have e4 : formB (noFrag x) = false := h4
  have e5 : (textU (noFrag x)).length ≤ 120 := by
    refine Nat.le_trans ?_ h5
    unfold textU noFrag
    simp only [List.length_append]
    simp
  unfold checkU chkU
  rw [e1, e2, e3, e4]
  simp only [Bool.false_eq_true, if_false, Bool.true_eq_false, Bool.or_self]
  rw [if_neg (by omega)]
theorem lead_none {b u x : UrlD} (h : leadU b u = (x, 0)) : leadU x zeroU = (noFrag x, 0) := by
  obtain ⟨_, _, hb, hx, hk⟩ := lead_parts h
  have hxs : x.scheme ≠ [] := by rw [hx, (undot_path _).2.1]; exact (led_scheme hb).1
  unfold leadU
  have hz : checkU zeroU = 0 := by decide
  rw [if_neg (by omega), if_neg (by omega), if_neg hxs]
  have : ledU x zeroU = noFrag x := rfl
  rw [this, undot_same (check_noFrag hk) (by show Lib.hasPrefix x.path [47] = true → ∀ s ∈ splitC 47 x.path, isDot s = false; rw [hx]; exact undot_free), end_same (check_noFrag hk)]
/-- What has a path from the root leads to it, whatever path stands there. -/
theorem lead_paths {b u x y : UrlD} {p : List UInt8} (h : leadU b u = (x, 0)) (h2 : leadU { b with path := p, hasQuery := false, query := [] } u = (y, 0)) (hc : u.hasHost = true ∨ Lib.hasPrefix u.path [47] = true ∨ u.scheme ≠ []) : x = y := by
  obtain ⟨_, _, _, hx, _⟩ := lead_parts h
  obtain ⟨_, _, _, hy, _⟩ := lead_parts h2
  rw [hx, hy]
  congr 1
  unfold ledU
  by_cases h1 : u.scheme ≠ []
  · rw [if_pos h1, if_pos h1]
  · rw [if_neg h1, if_neg h1]
    cases hh : u.hasHost
    · rw [hh] at hc
      simp only [Bool.false_eq_true, false_or, h1, or_false] at hc
      have := prefix_one.1 hc
      simp only [Bool.false_eq_true, if_false]
      rw [if_neg this.1, if_neg this.1, if_pos this.2, if_pos this.2]
    · simp
end Go.Proofs.YtlbdnohnngkapaaGreatDoor

namespace Go.Proofs.YtlbdnohnngkapaaGreatDoor

/-! ### The library's words, by segments -/
theorem index_free (x : List UInt8) (c : UInt8) (h : c ∉ x) : Lib.index x [c] = -1 := by
  rw [Lib.index_one, indexByte_tw, if_neg h]
theorem index_seg (x r : List UInt8) (c : UInt8) (h : c ∉ x) : Lib.index (x ++ c :: r) [c] = x.length := by
  rw [Lib.index_one, indexByte_tw, if_pos (by simp), List.takeWhile_append_of_pos (fun b hb => by simp only [bne_iff_ne, ne_eq]; exact fun e => h (e ▸ hb))]
  simp
theorem drop_seg (x r : List UInt8) (c : UInt8) : (x ++ c :: r).drop (((x.length : Nat) : Int).toNat + ([c] : List UInt8).length) = r := by
  rw [Int.toNat_natCast]
  show List.drop (x.length + 1) _ = r
  rw [← List.drop_drop, List.drop_left]
  rfl
theorem count_seg (c : UInt8) : ∀ (fuel : Nat) (L : List (List UInt8)), L.length ≤ fuel → (∀ x ∈ L, c ∉ x) → Lib.countFrom [c] fuel (joinC c L) = L.length - 1 := by
  intro fuel
  induction fuel with
  | zero => intro L h _; have : L = [] := List.eq_nil_of_length_eq_zero (by omega); subst this; rfl
  | succ f ih =>
    intro L h hx
    match L, h, hx with
    | [], _, _ => rfl
    | [x], _, hx =>
      show (if Lib.index x [c] == -1 then 0 else _) = 0
      rw [index_free x c (hx x (by simp))]
      rfl
    | x :: y :: r, h, hx =>
      rw [joinC_cons, Lib.countFrom, index_seg x _ c (hx x (by simp)), drop_seg, ih (y :: r) (by simp at h ⊢; omega) (fun z hz => hx z (by simp at hz ⊢; exact .inr hz))]
      have : ((x.length : Int) == -1) = false := by simp
      rw [this]
      simp
      omega
theorem joinC_len (c : UInt8) : ∀ (L : List (List UInt8)), L.length ≤ (joinC c L).length + 1 := by
  intro L
  induction L with
  | nil => simp
  | cons x L ih =>
    match L, ih with
    | [], _ => simp
    | y :: r, ih =>
      rw [joinC_cons]
      simp only [List.length_cons, List.length_append] at ih ⊢
      omega
theorem count_split (c : UInt8) (l : List UInt8) : Lib.count l [c] = (splitC c l).length - 1 := by
  have h := count_seg c (l.length + 1) (splitC c l) (by have := joinC_len c (splitC c l); rw [join_split] at this; exact this) (splitC_free c l)
  rw [join_split] at h
  exact h
theorem splitK_seg (c : UInt8) : ∀ (L : List (List UInt8)), L ≠ [] → (∀ x ∈ L, c ∉ x) → Lib.splitK [c] 0 (L.length - 1) (joinC c L) = L := by
  intro L
  induction L with
  | nil => intro h; exact absurd rfl h
  | cons x L ih =>
    intro _ hx
    match L, ih, hx with
    | [], _, _ => rfl
    | y :: r, ih, hx =>
      have h1 := ih (by simp) (fun z hz => hx z (by simp at hz ⊢; exact .inr hz))
      show Lib.splitK [c] 0 ((y :: r).length - 1 + 1) (joinC c (x :: y :: r)) = _
      rw [joinC_cons, Lib.splitK, index_seg x _ c (hx x (by simp)), drop_seg, h1]
      have : ((x.length : Int) == -1) = false := by simp
      rw [this]
      simp
theorem splitK_split (c : UInt8) (l : List UInt8) : Lib.splitK [c] 0 (Lib.count l [c]) l = splitC c l := by
  have h := splitK_seg c (splitC c l) (splitC_ne c l) (splitC_free c l)
  rw [join_split, ← count_split] at h
  exact h
theorem splitB_split (c : UInt8) (l : List UInt8) : (Lib.splitB ⟨#[c]⟩ 0 (Lib.countB ⟨l.toArray⟩ ⟨#[c]⟩) ⟨l.toArray⟩).map Value.string = (splitC c l).map str ∧ Lib.countB ⟨l.toArray⟩ ⟨#[c]⟩ + 1 = (splitC c l).length := by
  have hc : Lib.countB ⟨l.toArray⟩ ⟨#[c]⟩ = Lib.count l [c] := rfl
  have hd := Lib.splitB_data ⟨#[c]⟩ 0 (Lib.count l [c]) ⟨l.toArray⟩
  constructor
  · rw [hc]
    have h2 := splitK_split c l
    have e : ∀ L : List ByteArray, L.map Value.string = (L.map (fun s => s.data.toList)).map str := by
      intro L
      rw [List.map_map]
      exact List.map_congr_left fun x _ => str_of x
    rw [e]
    congr 1
    exact hd.trans h2
  · rw [hc, count_split]
    have := splitC_ne c l
    have : (splitC c l).length ≠ 0 := fun h => this (List.eq_nil_of_length_eq_zero h)
    omega
theorem splitC_len (c : UInt8) (l : List UInt8) : (splitC c l).length ≤ l.length + 1 := by
  have := joinC_len c (splitC c l)
  rwa [join_split] at this
theorem join_joinC (c : UInt8) : ∀ L : List (List UInt8), Lib.join L [c] = joinC c L
  | [] => rfl
  | [x] => Lib.join_one x [c]
  | x :: y :: r => by
    have ih := join_joinC c (y :: r)
    rw [joinC_cons, ← ih]
    simp [Lib.join, List.intercalate, List.intersperse]
theorem indexAny_tw (l : List UInt8) : Lib.indexAny l [58, 47] = if l.dropWhile stopCS = [] then -1 else ((l.takeWhile stopCS).length : Int) := by
  induction l with
  | nil => rfl
  | cons b l ih =>
    unfold Lib.indexAny
    by_cases h : stopCS b = true
    · have hc : ([58, 47] : List UInt8).contains b = false := by
        unfold stopCS at h
        simp only [Bool.and_eq_true, bne_iff_ne, ne_eq] at h
        simp [h.1, h.2]
      rw [hc, ih]
      simp only [Bool.false_eq_true, if_false, List.dropWhile_cons, h, if_true, List.takeWhile_cons]
      by_cases hd : l.dropWhile stopCS = []
      · rw [if_pos hd, if_pos hd]; rfl
      · rw [if_neg hd, if_neg hd, if_neg (by simp)]
        simp
    · have hc : ([58, 47] : List UInt8).contains b = true := by
        by_cases e : b = 58
        · simp [e]
        · by_cases e2 : b = 47
          · simp [e2]
          · exact absurd (by simp [stopCS, e, e2]) h
      rw [hc]
      simp only [if_true, List.dropWhile_cons, List.takeWhile_cons, h]
      simp
/-- The place of the first : or /, and what stands there. -/
theorem place_cs {l : List UInt8} {c : UInt8} {r : List UInt8} (h : l.dropWhile stopCS = c :: r) : (l.takeWhile stopCS).length < l.length ∧ nth l (l.takeWhile stopCS).length = c.toNat ∧ l.take (l.takeWhile stopCS).length = l.takeWhile stopCS ∧ l.drop ((l.takeWhile stopCS).length + 1) = r := by
  have e := List.takeWhile_append_dropWhile (p := stopCS) (l := l)
  rw [h] at e
  generalize l.takeWhile stopCS = x at e
  subst e
  refine ⟨by simp, ?_, by simp, by rw [← List.drop_drop, List.drop_left]; rfl⟩
  rw [nth_of _ _ (by simp)]
  simp
theorem lastIdx_range (l : List UInt8) : -1 ≤ Lib.lastIndexByte ⟨l.toArray⟩ 47 ∧ Lib.lastIndexByte ⟨l.toArray⟩ 47 < l.length := by
  have hsz : (⟨l.toArray⟩ : ByteArray).size = l.length := by simp [ByteArray.size]
  rcases Lib.lastIndexByte_spec ⟨l.toArray⟩ 47 with ⟨h, _⟩ | ⟨i, hi, h, _⟩
  · rw [h]; omega
  · rw [h]; rw [hsz] at hi; omega
theorem not47_stop (l : List UInt8) : Lib.indexByte l 47 = if l.dropWhile not47 = [] then -1 else ((l.takeWhile not47).length : Int) := by
  rw [indexByte_tw]
  by_cases h : (47 : UInt8) ∈ l
  · rw [if_pos h, if_neg]
    · rfl
    · obtain ⟨x, y, rfl, hx⟩ := first_of l 47 h
      rw [List.dropWhile_append_of_pos (fun b hb => by simp [not47, hx b hb])]
      simp [not47]
  · rw [if_neg h, if_pos]
    have hall : ∀ b ∈ l, not47 b = true := by
      intro b hb
      simp only [not47, bne_iff_ne, ne_eq]
      exact fun e => h (e ▸ hb)
    have := (takeWhile_all hall []).2
    rw [List.append_nil] at this
    exact this
theorem tw_take (p : UInt8 → Bool) (l : List UInt8) : l.take (l.takeWhile p).length = l.takeWhile p ∧ l.drop (l.takeWhile p).length = l.dropWhile p := by
  have e := List.takeWhile_append_dropWhile (p := p) (l := l)
  constructor
  · have := congrArg (List.take (l.takeWhile p).length) e
    rw [List.take_left] at this
    exact this.symm
  · have := congrArg (List.drop (l.takeWhile p).length) e
    rw [List.drop_left] at this
    exact this.symm
end Go.Proofs.YtlbdnohnngkapaaGreatDoor

namespace Go.Proofs.YtlbdnohnngkapaaGreatDoor
open Go.RowKit

/-! ### What dots makes is no longer than what it gets -/
def wtU (L : List (List UInt8)) : Nat := (L.map (fun x => x.length + 1)).sum
theorem wtU_app (a b : List (List UInt8)) : wtU (a ++ b) = wtU a + wtU b := by simp [wtU]
theorem wtU_pop (a : List (List UInt8)) : wtU (popU a) ≤ wtU a := by
  unfold popU
  split
  · rcases List.eq_nil_or_concat a with h | ⟨x, y, h⟩
    · rw [h]; simp
    · rw [h, List.concat_eq_append, List.dropLast_concat, wtU_app]; omega
  · exact Nat.le_refl _
theorem wtU_step (last : Bool) (out : List (List UInt8)) (s : List UInt8) : wtU (dotStep last out s) ≤ wtU out + (s.length + 1) := by
  have h1 : wtU [[]] = 1 := rfl
  have hp := wtU_pop out
  unfold dotStep
  split
  · cases last
    · simp only [Bool.false_eq_true, if_false]; omega
    · simp only [if_true]; rw [wtU_app]; omega
  · split
    · cases last
      · simp only [Bool.false_eq_true, if_false]; omega
      · simp only [if_true]; rw [wtU_app]; omega
    · rw [wtU_app]; simp [wtU]
theorem wtU_dots : ∀ (L out : List (List UInt8)), wtU (dotsF L out) ≤ wtU L + wtU out
  | [], out => by simp [dotsF]
  | s :: r, out => by
    have := wtU_dots r (dotStep r.isEmpty out s)
    have h2 := wtU_step r.isEmpty out s
    unfold dotsF
    have h3 : wtU (s :: r) = (s.length + 1) + wtU r := by simp [wtU]
    omega
theorem joinC_wt (c : UInt8) : ∀ L : List (List UInt8), L ≠ [] → (joinC c L).length + 1 = wtU L
  | [], h => absurd rfl h
  | [x], _ => by simp [joinC, wtU]
  | x :: y :: r, _ => by
    have := joinC_wt c (y :: r) (by simp)
    rw [joinC_cons]
    have h3 : wtU (x :: y :: r) = (x.length + 1) + wtU (y :: r) := by simp [wtU]
    simp only [List.length_append, List.length_cons]
    omega
theorem joinC_le (c : UInt8) (L : List (List UInt8)) : (joinC c L).length ≤ wtU L := by
  by_cases h : L = []
  · rw [h]; simp [joinC]
  · have := joinC_wt c L h; omega
theorem dots_wt (p : List UInt8) : (joinC 47 (dotsF (splitC 47 p) [])).length ≤ p.length + 1 := by
  have h1 := joinC_le 47 (dotsF (splitC 47 p) [])
  have h2 := wtU_dots (splitC 47 p) []
  have h3 := joinC_wt 47 (splitC 47 p) (splitC_ne 47 p)
  rw [join_split] at h3
  have : wtU [] = 0 := rfl
  omega
theorem pop_len (out : List (List UInt8)) : (popU out).length ≤ out.length := by
  unfold popU; split
  · simp
  · exact Nat.le_refl _
theorem popU_yes {out : List (List UInt8)} (h : 1 < out.length ∨ (out.length = 1 ∧ out.head? ≠ some [])) : popU out = out.take (out.length - 1) := by
  unfold popU; rw [if_pos h, List.dropLast_eq_take]

/-! ### Own rows, shortened -/
theorem own_shrink {w : World} {base : Nat} {e : TypeId} {size : Nat} {S : Option Addr} {n c k : Nat} {xs : List Value} (h : w.ownsRow base e size (.slice S n c) n xs) (hk : k ≤ n) : w.ownsRow base e size (.slice S k c) k (xs.take (k * size)) := by
  refine ⟨by rw [List.length_take, h.1]; exact Nat.min_eq_left (Nat.mul_le_mul_right _ hk), ?_⟩
  rcases h.2 with ⟨hv, h0⟩ | ⟨g, cap, cur, hv, hb, hh, hnc, hm, hs, ht⟩
  · injection hv with h1 h2 h3
    subst h1; subst h3
    left
    have : k = 0 := by omega
    subst this
    exact ⟨rfl, rfl⟩
  · injection hv with h1 h2 h3
    subst h1; subst h3
    right
    refine ⟨g, c, cur, rfl, hb, hh, by omega, hm, hs, ?_⟩
    rw [← ht, List.take_take]
    congr 1
    exact (Nat.min_eq_left (Nat.mul_le_mul_right _ hk)).symm
theorem cutA_zero {w : World} {base : Nat} {e : TypeId} {size : Nat} {S : Option Addr} {n c : Nat} {xs : List Value} (h : w.ownsRow base e size (.slice S n c) n xs) : cutA S c 0 1 = S := by
  unfold cutA
  split
  · rfl
  · rcases h.2 with ⟨hv, h0⟩ | ⟨g, cap, cur, hv, _⟩
    · injection hv with h1 _ _; subst h1; rfl
    · injection hv with h1 _ _; subst h1; rfl
theorem infoStrU : (Tryz.prog.info? 9).map (fun i => (i.zero, i.size, i.bytes)) = some (some (.string ⟨#[]⟩), 1, 16) := by kernel_rfl
theorem one_str (L : List (List UInt8)) : ∀ u ∈ L.map str, u.oneCell' = true := by
  intro u hu; simp only [List.mem_map] at hu; obtain ⟨x, _, rfl⟩ := hu; rfl
theorem Split_one (l : List UInt8) (w : World) (hM : MaxLenOk w) (hl : l.length ≤ 1000000) : Calls Tryz.prog 130 #[str l, .string ⟨#[47]⟩] w fun e w' => e = .returned (.slice (some ⟨w.heap.size, 0, none⟩) (splitC 47 l).length (splitC 47 l).length) ∧ w' = w.alloc (.cells ((splitC 47 l).map str).toArray 9) := by
  obtain ⟨m, hm⟩ := hM
  have hsz : (⟨l.toArray⟩ : ByteArray).size = l.length := by simp [ByteArray.size]
  refine (Go.Proofs.Tryz.strings_Split ⟨l.toArray⟩ ⟨#[47]⟩ m w (by rw [hsz]; omega) hm (by decide)).mono ?_
  rintro e w' ⟨rfl, rfl⟩
  obtain ⟨h1, h2⟩ := splitB_split 47 l
  rw [h1, h2]
  exact ⟨rfl, rfl⟩
theorem Join_any (L : List (List UInt8)) (S : Option Addr) (c : Nat) (w : World) (base : Nat) (ho : w.ownsRow base 9 1 (.slice S L.length c) L.length (L.map str)) (hN : L.length ≤ 1000000) (hl : (joinC 47 L).length ≤ 1000000) :
    Calls Tryz.prog 62 #[.slice S L.length c, .string ⟨#[47]⟩] w fun e w' => e = .returned (str (joinC 47 L)) ∧ Below w.heap.size w w' := by
  rcases Nat.eq_zero_or_pos L.length with h0 | h0
  · have : L = [] := List.eq_nil_of_length_eq_zero h0
    subst this
    refine (Go.Proofs.Tryz.strings_Join_none S c ⟨#[47]⟩ w).mono ?_
    rintro e w' ⟨rfl, rfl⟩
    exact ⟨rfl, Below.refl _ _⟩
  · have hc := own_cap ho
    obtain ⟨b, off, hS, hb, hcell⟩ := (Sl.of_own ho).2 h0
    subst hS
    have hd : (L.map (fun l => (⟨l.toArray⟩ : ByteArray))).map (·.data.toList) = L := by
      rw [List.map_map]
      conv => rhs; rw [← List.map_id L]
      exact List.map_congr_left fun x _ => rfl
    have hj : Lib.join ((L.map (fun l => (⟨l.toArray⟩ : ByteArray))).map (·.data.toList)) (⟨#[47]⟩ : ByteArray).data.toList = joinC 47 L := by
      rw [hd]; exact join_joinC 47 L
    have h := Go.Proofs.Tryz.strings_Join b off c (L.map fun l => (⟨l.toArray⟩ : ByteArray)) ⟨#[47]⟩ w (fun j x hx => by
      rw [List.getElem?_map] at hx
      cases hg : L[j]? with
      | none => rw [hg] at hx; cases hx
      | some y =>
        rw [hg] at hx
        simp only [Option.map_some, Option.some.injEq] at hx
        rw [← hx]
        exact hcell j (str y) (by rw [List.getElem?_map, hg]; rfl)) hb (by rw [List.length_map]; omega) (by rw [List.length_map]; exact hc) (by rw [hj]; omega)
    rw [hj, List.length_map] at h
    exact h
theorem upto_str (w : World) (A : Option Addr) (n c : Nat) (ki : IntKind) (k : Int) (h0 : 0 ≤ k) (h1 : k ≤ n) (hc : n ≤ c) :
    (Instr.slice 57 (.slice A n c) none (some (.int ki k)) none).run Tryz.prog w = .ok (.slice (cutA A c 0 1) k.toNat c) w :=
  run_upto w _ _ 1 Tryz.underlying57 (Tryz.sizeOf9 w) A n c ki k h0 h1 hc
attribute [local go_sem high] upto_str
def DotRel (w1 : World) (R : List (List UInt8)) (L : List (List UInt8)) (s3 iv : Value) (wr : World) : Prop :=
  ∃ (i : Nat) (out : List (List UInt8)) (S : Option Addr) (c : Nat), iv = .int .i64 i ∧ i ≤ L.length ∧ s3 = .slice S out.length c ∧ out.length ≤ i ∧ wr.ownsRow w1.heap.size 9 1 (.slice S out.length c) out.length (out.map str) ∧ Below w1.heap.size w1 wr ∧ Hid (dotsF (L.drop i) out = R)
set_option maxRecDepth 100000 in
set_option maxHeartbeats 4000000 in
theorem dots_any (p : List UInt8) (w : World) (hM : MaxLenOk w) (hp : p.length ≤ 1000) : Calls Tryz.prog 193 #[str p] w fun e w' => e = .returned (str (dotsU p)) ∧ Below w.heap.size w w' := by
  obtain ⟨i0, hi0, hz0, hz1, hz2⟩ := info_parts infoStrU
  by_cases h0 : p = []
  · subst h0
    go_enter Tryz.func193, Tryz.ntmps193
    go_wp2_with fail
    go_ret
    exact ⟨rfl, Below.refl _ _⟩
  · have e0 : (p == []) = false := by simpa using h0
    have hS := Split_one p w hM (by omega)
    have hLl := splitC_len 47 p
    obtain ⟨R, hR⟩ : ∃ R, R = dotsF (splitC 47 p) [] := ⟨_, rfl⟩
    have hRl := dots_wt p
    have hD : dotsU p = slashU p (joinC 47 R) := by unfold dotsU; rw [if_neg h0, hR]
    rw [hD]
    rw [← hR] at hRl
    obtain ⟨X, hX⟩ : ∃ X, X = slashU p (joinC 47 R) := ⟨_, rfl⟩
    rw [← hX]
    have HX0 := Lib.hid hX
    clear hX
    have HR := Lib.hid hR
    clear hR hD h0
    generalize splitC 47 p = L at hS hLl HR
    obtain ⟨N, hN⟩ : ∃ N, N = L.length := ⟨_, rfl⟩
    rw [← hN] at hS hLl
    have HN := Lib.hid hN
    obtain ⟨w1, hw1⟩ : ∃ w1, w1 = w.alloc (.cells (L.map str).toArray 9) := ⟨_, rfl⟩
    rw [← hw1] at hS
    have hb1 : Below w.heap.size w w1 := by rw [hw1]; exact (Below.refl _ w).alloc (Nat.le_refl _) _
    have hsz1 : w1.heap.size = w.heap.size + 1 := by rw [hw1]; simp
    have hcell : ∀ j, (hj : j < N) → w1.cell? ⟨w.heap.size, j, none⟩ = some (str (L[j]'(by rw [← HN.out]; exact hj))) := by
      intro j hj
      have hjl : j < L.length := by rw [← HN.out]; exact hj
      unfold World.cell?
      rw [hw1, heap_alloc_new]
      simp [hjl]
    have HS := Lib.hid hS
    have Hcell := Lib.hid hcell
    have Hsz1 := Lib.hid hsz1
    clear hS hcell hsz1 hw1 hN hM
    go_enter Tryz.func193, Tryz.ntmps193
    go_wp2_with fail
    refine HS.out.mono ?_
    rintro e w1 ⟨rfl, rfl⟩
    go_wp2_with fail
    go_loopw [3, 16] (fun s3 iv wr => DotRel w1 R L s3 iv wr) (fun _ iv _ => N - (intOf iv).toNat)
    case atStart => exact ⟨0, [], none, 0, rfl, Nat.zero_le _, rfl, Nat.le_refl _, World.ownsRow_nil _ _ _ _, Below.refl _ _, HR.out.symm⟩
    case round =>
      obtain ⟨i, out, S, c, rfl, hi, rfl, hol, hown, hbel, hD⟩ := hrel
      rw [← HN.out] at hi
      by_cases hiN : i < N
      · have hil : i < L.length := by rw [← HN.out]; exact hiN
        have hcel0 := (hbel.cell (p := ⟨w.heap.size, i, none⟩) (by rw [Hsz1.out]; simp)).trans (Hcell.out i hiN)
        have hstep : dotsF (L.drop (i + 1)) (dotStep (L.drop (i + 1)).isEmpty out (L[i]'hil)) = R := by
          have := hD.out
          rw [List.drop_eq_getElem_cons hil] at this
          exact this
        generalize L[i]'hil = s at hcel0 hstep
        clear hD
        by_cases h1 : s = [46]
        · subst h1
          by_cases hl : i + 1 = N
          · skip
            have hlast : i + 1 = N := hl
            have e7 : ((i : Int) == (N : Int) - 1) = true := by rw [beq_iff_eq]; omega
            have hem : (L.drop (i + 1)).isEmpty = true := by rw [List.drop_of_length_le (by rw [← HN.out]; omega)]; rfl
            rw [hem] at hstep
            clear hem hl hlast
            have Hst : Hid (dotsF (L.drop (i + 1)) (out ++ [[]]) = R) := by
              show _ = R
              rw [← hstep]
              rfl
            clear hstep
            have h63 : out.length + 1 ≤ maxLen := by unfold maxLen; omega
            have h47 : (out.length + 1) * 16 ≤ 140737488355328 := by omega
            go_wp2_with (at_builtin; refine wpList_app rfl _ _ 57 rfl w1.heap.size 9 i0 (.string ⟨#[]⟩) 1 16 Tryz.underlying57 hi0 hz0 hz1 hz2 rfl (by decide) _ out.length _ (out.map str) rfl (hown.alloc _) _ _ 1 1 [str []] rfl (Sl.one _ _ _) (by intro u hu; simp only [List.mem_singleton] at hu; subst hu; rfl) h63 h47 ?c2 ?_)
            case c2 => have := hbel.size; simp; omega
            intro S2 c2 w2 hown2 hb2 _
            have hbel2 := (hbel.alloc hbel.size _).trans hb2
            go_wp2_with fail
            refine ⟨⟨i + 1, out ++ [[]], S2, c2, by go_num, by omega, by rw [List.length_append]; rfl, by rw [List.length_append]; simp only [List.length_singleton]; omega, by rw [List.length_append, List.map_append]; first | exact hown2 | (rw [List.map_take]; exact hown2), hbel2, Hst.out⟩, by simp [intOf]; omega⟩
          · skip
            have e7 : ((i : Int) == (N : Int) - 1) = false := by rw [beq_eq_false_iff_ne]; omega
            have hem : (L.drop (i + 1)).isEmpty = false := by
              cases h : L.drop (i + 1) with
              | nil => have := congrArg List.length h; rw [List.length_drop, ← HN.out] at this; simp at this; omega
              | cons _ _ => rfl
            rw [hem] at hstep
            clear hem hl
            have Hst : Hid (dotsF (L.drop (i + 1)) out = R) := by
              show _ = R
              rw [← hstep]
              rfl
            clear hstep
            go_wp2_with fail
            refine ⟨⟨i + 1, out, S, c, by go_num, by omega, rfl, by omega, hown, hbel, Hst.out⟩, by simp [intOf]; omega⟩
        · by_cases h2 : s = [46, 46]
          · subst h2
            clear h1
            by_cases hn1 : 1 < out.length
            · skip
              have d1 : decide (1 < (out.length : Int)) = true := decide_eq_true (by omega)
              have hpop : popU out = out.take (out.length - 1) := popU_yes (.inl hn1)
              have hpl : (out.take (out.length - 1)).length = out.length - 1 := by rw [List.length_take]; omega
              have hcap := own_cap hown
              have hownP : wr.ownsRow w1.heap.size 9 1 (.slice (cutA S c 0 1) (out.length - 1) c) (out.length - 1) ((out.take (out.length - 1)).map str) := by
                have h := own_shrink hown (k := out.length - 1) (by omega)
                rw [cutA_zero hown, List.map_take]
                rw [Nat.mul_one] at h
                exact h
              have HP := Lib.hid hpl
              have HO := Lib.hid hpop
              have q1 : (0 : Int) ≤ (out.length : Int) - 1 := by omega
              have q2 : (out.length : Int) - 1 ≤ (out.length : Int) := by omega
              have q4 : ((out.length : Int) - 1).toNat = out.length - 1 := by omega
              have q5 : (1 : Int) ≤ (out.length : Int) := by omega
              by_cases hl : i + 1 = N
              · skip
                have hlast : i + 1 = N := hl
                have e7 : ((i : Int) == (N : Int) - 1) = true := by rw [beq_iff_eq]; omega
                have hem : (L.drop (i + 1)).isEmpty = true := by rw [List.drop_of_length_le (by rw [← HN.out]; omega)]; rfl
                rw [hem] at hstep
                clear hem hl hlast
                have Hst : Hid (dotsF (L.drop (i + 1)) ((out.take (out.length - 1)) ++ [[]]) = R) := by
                  show _ = R
                  rw [← hstep]
                  unfold dotStep
                  rw [if_neg (by decide), if_pos rfl, hpop]
                  rfl
                clear hstep
                have h63 : (out.length - 1) + 1 ≤ maxLen := by unfold maxLen; omega
                have h47 : ((out.length - 1) + 1) * 16 ≤ 140737488355328 := by omega
                go_wp2_with (at_builtin; refine wpList_app rfl _ _ 57 rfl w1.heap.size 9 i0 (.string ⟨#[]⟩) 1 16 Tryz.underlying57 hi0 hz0 hz1 hz2 rfl (by decide) _ (out.length - 1) _ ((out.take (out.length - 1)).map str) rfl (hownP.alloc _) _ _ 1 1 [str []] rfl (Sl.one _ _ _) (by intro u hu; simp only [List.mem_singleton] at hu; subst hu; rfl) h63 h47 ?c2 ?_)
                case c2 => have := hbel.size; simp; omega
                intro S2 c2 w2 hown2 hb2 _
                have hbel2 := (hbel.alloc hbel.size _).trans hb2
                go_wp2_with fail
                refine ⟨⟨i + 1, (out.take (out.length - 1)) ++ [[]], S2, c2, by go_num, by omega, by rw [List.length_append, hpl]; rfl, by rw [List.length_append, hpl]; simp only [List.length_singleton]; omega, by rw [List.length_append, List.map_append, hpl]; first | exact hown2 | (rw [List.map_take]; exact hown2), hbel2, Hst.out⟩, by simp [intOf]; omega⟩
              · skip
                have e7 : ((i : Int) == (N : Int) - 1) = false := by rw [beq_eq_false_iff_ne]; omega
                have hem : (L.drop (i + 1)).isEmpty = false := by
                  cases h : L.drop (i + 1) with
                  | nil => have := congrArg List.length h; rw [List.length_drop, ← HN.out] at this; simp at this; omega
                  | cons _ _ => rfl
                rw [hem] at hstep
                clear hem hl
                have Hst : Hid (dotsF (L.drop (i + 1)) (out.take (out.length - 1)) = R) := by
                  show _ = R
                  rw [← hstep]
                  unfold dotStep
                  rw [if_neg (by decide), if_pos rfl, hpop]
                  rfl
                clear hstep
                go_wp2_with fail
                refine ⟨⟨i + 1, (out.take (out.length - 1)), cutA S c 0 1, c, by go_num, by omega, by rw [hpl], by (try rw [hpl]); (try simp only [List.length_nil, List.length_singleton]); omega, by (try rw [hpl]); exact hownP, hbel, Hst.out⟩, by simp [intOf]; omega⟩
            · by_cases hn : out.length = 1
              · skip
                obtain ⟨h, rfl⟩ : ∃ h, out = [h] := by
                  match out, hn with
                  | [h], _ => exact ⟨h, rfl⟩
                obtain ⟨g, off, hS, _, hc0⟩ := (Sl.of_own hown).2 (by simp)
                obtain rfl : off = 0 := by
                  rcases hown.2 with ⟨hv, _⟩ | ⟨g', cap', cur', hv, _⟩
                  · injection hv with hv _ _; rw [hS] at hv; cases hv
                  · injection hv with hv _ _; rw [hS] at hv; injection hv with hv; injection hv
                subst hS
                have hcel := hc0 0 (str h) rfl
                rw [Nat.add_zero] at hcel
                clear hc0
                have hcap := own_cap hown
                simp only [List.length_singleton] at hown hol hcap ⊢
                by_cases hh : h = []
                · subst hh
                  have hpop : popU [[]] = [[]] := rfl
                  by_cases hl : i + 1 = N
                  · skip
                    have hlast : i + 1 = N := hl
                    have e7 : ((i : Int) == (N : Int) - 1) = true := by rw [beq_iff_eq]; omega
                    have hem : (L.drop (i + 1)).isEmpty = true := by rw [List.drop_of_length_le (by rw [← HN.out]; omega)]; rfl
                    rw [hem] at hstep
                    clear hem hl hlast
                    have Hst : Hid (dotsF (L.drop (i + 1)) ([[]] ++ [[]]) = R) := by
                      show _ = R
                      rw [← hstep]
                      unfold dotStep
                      rw [if_neg (by decide), if_pos rfl, hpop]
                      rfl
                    clear hstep
                    have h63 : 1 + 1 ≤ maxLen := by unfold maxLen; omega
                    have h47 : (1 + 1) * 16 ≤ 140737488355328 := by omega
                    go_wp2_with (at_builtin; refine wpList_app rfl _ _ 57 rfl w1.heap.size 9 i0 (.string ⟨#[]⟩) 1 16 Tryz.underlying57 hi0 hz0 hz1 hz2 rfl (by decide) _ 1 _ ([str []]) rfl (hown.alloc _) _ _ 1 1 [str []] rfl (Sl.one _ _ _) (by intro u hu; simp only [List.mem_singleton] at hu; subst hu; rfl) h63 h47 ?c2 ?_)
                    case c2 => have := hbel.size; simp; omega
                    intro S2 c2 w2 hown2 hb2 _
                    have hbel2 := (hbel.alloc hbel.size _).trans hb2
                    go_wp2_with fail
                    refine ⟨⟨i + 1, [[]] ++ [[]], S2, c2, by go_num, by omega, by rw [List.length_append]; rfl, by rw [List.length_append]; simp only [List.length_singleton]; omega, by rw [List.length_append, List.map_append]; first | exact hown2 | (rw [List.map_take]; exact hown2), hbel2, Hst.out⟩, by simp [intOf]; omega⟩
                  · skip
                    have e7 : ((i : Int) == (N : Int) - 1) = false := by rw [beq_eq_false_iff_ne]; omega
                    have hem : (L.drop (i + 1)).isEmpty = false := by
                      cases h : L.drop (i + 1) with
                      | nil => have := congrArg List.length h; rw [List.length_drop, ← HN.out] at this; simp at this; omega
                      | cons _ _ => rfl
                    rw [hem] at hstep
                    clear hem hl
                    have Hst : Hid (dotsF (L.drop (i + 1)) [[]] = R) := by
                      show _ = R
                      rw [← hstep]
                      unfold dotStep
                      rw [if_neg (by decide), if_pos rfl, hpop]
                      rfl
                    clear hstep
                    go_wp2_with fail
                    refine ⟨⟨i + 1, [[]], some ⟨g, 0, none⟩, c, by go_num, by omega, rfl, by (try rw [hpl]); (try simp only [List.length_singleton]); omega, by (try rw [hpl]); exact hown, hbel, Hst.out⟩, by simp [intOf]; omega⟩
                · have e9 : (h == []) = false := by simpa using hh
                  have hpop : popU [h] = [] := by unfold popU; rw [if_pos (.inr ⟨rfl, by simpa using hh⟩)]; rfl
                  have hownP : wr.ownsRow w1.heap.size 9 1 (.slice (cutA (some ⟨g, 0, none⟩) c 0 1) 0 c) 0 [] := by
                    have h := own_shrink hown (k := 0) (by omega)
                    rw [cutA_zero hown]
                    exact h
                  by_cases hl : i + 1 = N
                  · skip
                    have hlast : i + 1 = N := hl
                    have e7 : ((i : Int) == (N : Int) - 1) = true := by rw [beq_iff_eq]; omega
                    have hem : (L.drop (i + 1)).isEmpty = true := by rw [List.drop_of_length_le (by rw [← HN.out]; omega)]; rfl
                    rw [hem] at hstep
                    clear hem hl hlast
                    have Hst : Hid (dotsF (L.drop (i + 1)) (([] : List (List UInt8)) ++ [[]]) = R) := by
                      show _ = R
                      rw [← hstep]
                      unfold dotStep
                      rw [if_neg (by decide), if_pos rfl, hpop]
                      rfl
                    clear hstep
                    have h63 : 0 + 1 ≤ maxLen := by unfold maxLen; omega
                    have h47 : (0 + 1) * 16 ≤ 140737488355328 := by omega
                    go_wp2_with (at_builtin; refine wpList_app rfl _ _ 57 rfl w1.heap.size 9 i0 (.string ⟨#[]⟩) 1 16 Tryz.underlying57 hi0 hz0 hz1 hz2 rfl (by decide) _ 0 _ ([]) rfl (hownP.alloc _) _ _ 1 1 [str []] rfl (Sl.one _ _ _) (by intro u hu; simp only [List.mem_singleton] at hu; subst hu; rfl) h63 h47 ?c2 ?_)
                    case c2 => have := hbel.size; simp; omega
                    intro S2 c2 w2 hown2 hb2 _
                    have hbel2 := (hbel.alloc hbel.size _).trans hb2
                    go_wp2_with fail
                    refine ⟨⟨i + 1, ([] : List (List UInt8)) ++ [[]], S2, c2, by go_num, by omega, by rw [List.length_append]; rfl, by rw [List.length_append]; simp only [List.length_nil, List.length_singleton]; omega, by rw [List.length_append, List.map_append]; first | exact hown2 | (rw [List.map_take]; exact hown2), hbel2, Hst.out⟩, by simp [intOf]; omega⟩
                  · skip
                    have e7 : ((i : Int) == (N : Int) - 1) = false := by rw [beq_eq_false_iff_ne]; omega
                    have hem : (L.drop (i + 1)).isEmpty = false := by
                      cases h : L.drop (i + 1) with
                      | nil => have := congrArg List.length h; rw [List.length_drop, ← HN.out] at this; simp at this; omega
                      | cons _ _ => rfl
                    rw [hem] at hstep
                    clear hem hl
                    have Hst : Hid (dotsF (L.drop (i + 1)) ([] : List (List UInt8)) = R) := by
                      show _ = R
                      rw [← hstep]
                      unfold dotStep
                      rw [if_neg (by decide), if_pos rfl, hpop]
                      rfl
                    clear hstep
                    go_wp2_with fail
                    refine ⟨⟨i + 1, ([] : List (List UInt8)), cutA (some ⟨g, 0, none⟩) c 0 1, c, by go_num, by omega, rfl, by (try rw [hpl]); (try simp only [List.length_nil]); omega, by (try rw [hpl]); exact hownP, hbel, Hst.out⟩, by simp [intOf]; omega⟩
              · skip
                obtain rfl : out = [] := List.eq_nil_of_length_eq_zero (by omega)
                have hpop : popU [] = [] := rfl
                simp only [List.length_nil] at hown hol ⊢
                by_cases hl : i + 1 = N
                · skip
                  have hlast : i + 1 = N := hl
                  have e7 : ((i : Int) == (N : Int) - 1) = true := by rw [beq_iff_eq]; omega
                  have hem : (L.drop (i + 1)).isEmpty = true := by rw [List.drop_of_length_le (by rw [← HN.out]; omega)]; rfl
                  rw [hem] at hstep
                  clear hem hl hlast
                  have Hst : Hid (dotsF (L.drop (i + 1)) (([] : List (List UInt8)) ++ [[]]) = R) := by
                    show _ = R
                    rw [← hstep]
                    unfold dotStep
                    rw [if_neg (by decide), if_pos rfl, hpop]
                    rfl
                  clear hstep
                  have h63 : 0 + 1 ≤ maxLen := by unfold maxLen; omega
                  have h47 : (0 + 1) * 16 ≤ 140737488355328 := by omega
                  go_wp2_with (at_builtin; refine wpList_app rfl _ _ 57 rfl w1.heap.size 9 i0 (.string ⟨#[]⟩) 1 16 Tryz.underlying57 hi0 hz0 hz1 hz2 rfl (by decide) _ 0 _ ([]) rfl (hown.alloc _) _ _ 1 1 [str []] rfl (Sl.one _ _ _) (by intro u hu; simp only [List.mem_singleton] at hu; subst hu; rfl) h63 h47 ?c2 ?_)
                  case c2 => have := hbel.size; simp; omega
                  intro S2 c2 w2 hown2 hb2 _
                  have hbel2 := (hbel.alloc hbel.size _).trans hb2
                  go_wp2_with fail
                  refine ⟨⟨i + 1, ([] : List (List UInt8)) ++ [[]], S2, c2, by go_num, by omega, by rw [List.length_append]; rfl, by rw [List.length_append]; simp only [List.length_nil, List.length_singleton]; omega, by rw [List.length_append, List.map_append]; first | exact hown2 | (rw [List.map_take]; exact hown2), hbel2, Hst.out⟩, by simp [intOf]; omega⟩
                · skip
                  have e7 : ((i : Int) == (N : Int) - 1) = false := by rw [beq_eq_false_iff_ne]; omega
                  have hem : (L.drop (i + 1)).isEmpty = false := by
                    cases h : L.drop (i + 1) with
                    | nil => have := congrArg List.length h; rw [List.length_drop, ← HN.out] at this; simp at this; omega
                    | cons _ _ => rfl
                  rw [hem] at hstep
                  clear hem hl
                  have Hst : Hid (dotsF (L.drop (i + 1)) ([] : List (List UInt8)) = R) := by
                    show _ = R
                    rw [← hstep]
                    unfold dotStep
                    rw [if_neg (by decide), if_pos rfl, hpop]
                    rfl
                  clear hstep
                  go_wp2_with fail
                  refine ⟨⟨i + 1, ([] : List (List UInt8)), S, c, by go_num, by omega, rfl, by (try rw [hpl]); (try simp only [List.length_nil]); omega, by (try rw [hpl]); exact hown, hbel, Hst.out⟩, by simp [intOf]; omega⟩
          · have e1 : (s == [46]) = false := by simpa using h1
            have e2 : (s == [46, 46]) = false := by simpa using h2
            have hst : Hid (dotsF (L.drop (i + 1)) (out ++ [s]) = R) := by
              show _ = R
              rw [← hstep]
              unfold dotStep
              rw [if_neg (by simpa using h1), if_neg (by simpa using h2)]
            have Hst := hst
            clear hst hstep
            cases hl : decide (i + 1 = N)
            all_goals
              have e7 : ((i : Int) == (N : Int) - 1) = decide (i + 1 = N) := by rw [Bool.eq_iff_iff, beq_iff_eq, decide_eq_true_eq]; omega
              rw [hl] at e7
              clear hl
              have h63 : out.length + 1 ≤ maxLen := by unfold maxLen; omega
              have h47 : (out.length + 1) * 16 ≤ 140737488355328 := by omega
              go_wp2_with (at_builtin; refine wpList_app rfl _ _ 57 rfl w1.heap.size 9 i0 (.string ⟨#[]⟩) 1 16 Tryz.underlying57 hi0 hz0 hz1 hz2 rfl (by decide) S out.length c (out.map str) rfl (hown.alloc _) _ _ 1 1 [str s] rfl (Sl.one _ _ _) (by intro u hu; simp only [List.mem_singleton] at hu; subst hu; rfl) h63 h47 ?c2 ?_)
              case c2 => have := hbel.size; simp; omega
              intro S2 c2 w2 hown2 hb2 _
              have hbel2 := (hbel.alloc hbel.size _).trans hb2
              go_wp2_with fail
              refine ⟨⟨i + 1, out ++ [s], S2, c2, by go_num, by omega, by rw [List.length_append]; rfl, by rw [List.length_append]; simp only [List.length_singleton]; omega, by rw [List.length_append, List.map_append]; exact hown2, hbel2, Hst.out⟩, by simp [intOf]; omega⟩
      · obtain rfl : i = N := by omega
        have hRo : R = out := by
          have := hD.out
          rw [List.drop_of_length_le (by rw [← HN.out]; exact Nat.le_refl _)] at this
          exact this.symm
        have hJ := fun W (ho : World.ownsRow W w1.heap.size 9 1 (.slice S out.length c) out.length (out.map str)) => Join_any out S c W _ ho (by omega) (by rw [← hRo]; omega)
        rw [← hRo] at hJ
        have hJ2 := hJ wr (by rw [hRo]; exact hown)
        have hlo : R.length = out.length := by rw [hRo]
        have hbw : Below w.heap.size w wr := hb1.trans (hbel.mono hb1.size)
        have hX := HX0.out
        generalize joinC 47 R = q at hJ2 hRl hX
        rw [hlo] at hJ2
        have HJ := Lib.hid hJ2
        clear hJ hJ2 hRo hlo hD HR
        have k1 := fun W => HasPrefix_any p [47] W
        have k2 := fun W => HasPrefix_any q [47] W
        unfold slashU at hX
        cases hp1 : Lib.hasPrefix p [47]
        · rw [hp1] at k1 hX
          have K1 := Lib.hid k1
          have HX := Lib.hid hX
          clear k1 k2 hX hp1
          go_wp2_with fail
          refine HJ.out.mono ?_
          rintro e w2 ⟨rfl, hb2⟩
          have hbw2 := hbw.trans (hb2.mono hbw.size)
          go_wp2_with fail
          refine (K1.out _).mono ?_
          rintro e w3 ⟨rfl, rfl⟩
          go_wp2_with fail
          go_ret
          exact ⟨by rw [HX.out]; rfl, hbw2⟩
        · rw [hp1] at k1 hX
          cases hq1 : Lib.hasPrefix q [47]
          all_goals
            rw [hq1] at k2 hX
            have K1 := Lib.hid k1
            have K2 := Lib.hid k2
            have HX := Lib.hid hX
            clear k1 k2 hX hp1 hq1
            go_wp2_with fail
            refine HJ.out.mono ?_
            rintro e w2 ⟨rfl, hb2⟩
            have hbw2 := hbw.trans (hb2.mono hbw.size)
            go_wp2_with fail
            refine (K1.out _).mono ?_
            rintro e w3 ⟨rfl, rfl⟩
            go_wp2_with fail
            refine (K2.out _).mono ?_
            rintro e w3 ⟨rfl, rfl⟩
            go_wp2_with fail
            go_ret
            exact ⟨by rw [HX.out]; rfl, hbw2⟩
end Go.Proofs.YtlbdnohnngkapaaGreatDoor

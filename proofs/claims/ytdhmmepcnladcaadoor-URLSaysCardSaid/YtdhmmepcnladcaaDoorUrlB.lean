import Derived.Test.YtdhmmepcnladcaaDoorUrl5
namespace Go.Proofs.YtdhmmepcnladcaaDoor
open Go.RowKit

/-- A store inside a region that draws its order. -/
theorem wpOp_store {P : Program} {k : Nat} {K : Act → World → Prop} {w : World} {ops : Array Oper} {o : Oper} {a : Act} {Q : Exit → Act → World → Prop} (hi : ops[k]? = some o) (hw : Region.wanted o (yielded ops a.tmps) = true) (w' : World)
    (hrun : (execOp a.eval o).run P w = .ok .skip w') (h : K (a.put o.dst undef) w') : wpOp P ops Q k K a w := by
  unfold wpOp
  simp only [hi, hw, if_true]
  refine .inl ?_
  unfold Oper.wp
  rw [hrun, Oper.upon_skip]
  exact h
/-- A block that holds an address, and nothing else. -/
def UB (w : World) (b : Nat) (u : UrlD) : Prop := w.heap[b]? = some (.cells #[str u.scheme, .bool u.hasHost, str u.host, str u.path, .bool u.hasQuery, str u.query, .bool u.hasFrag, str u.frag] 59 (0, 0))
section
variable {w w' : World} {b : Nat} {u : UrlD}
theorem UB.lt (h : UB w b u) : b < w.heap.size := by
  rcases Nat.lt_or_ge b w.heap.size with h' | h'
  · exact h'
  · unfold UB at h; rw [Array.getElem?_eq_none h'] at h; cases h
theorem UB.box (h : UB w b u) : Box8 w b (str u.scheme) (.bool u.hasHost) (str u.host) (str u.path) (.bool u.hasQuery) (str u.query) (.bool u.hasFrag) (str u.frag) := by
  unfold UB at h
  refine ⟨?_, ?_, ?_, ?_, ?_, ?_, ?_, ?_⟩ <;> (unfold World.cell?; rw [h]; rfl)
theorem UB.fz (h : UB w b u) : ∀ i, w.frozen? ⟨b, i, none⟩ = false := by
  intro i
  unfold UB at h
  unfold World.frozen?
  rw [h]
  simp
theorem UB.below (h : UB w b u) (hb : Below w.heap.size w w') : UB w' b u := (hb.block b h.lt).trans h
theorem UB.drewN (h : UB w b u) (n : Nat) : UB (w.drewN n) b u := h
theorem UB.other (h : UB w b u) {c k : Nat} (hne : c ≠ b) (v : Value) : UB (w.setCell ⟨c, k, none⟩ v) b u := by
  unfold UB at h ⊢
  rw [← h]
  simp only [World.setCell, Array.getElem?_modify]
  rw [if_neg hne]
theorem UB.new (w : World) (u : UrlD) : UB (w.alloc (.cells #[str u.scheme, .bool u.hasHost, str u.host, str u.path, .bool u.hasQuery, str u.query, .bool u.hasFrag, str u.frag] 59)) w.heap.size u := heap_alloc_new w _
theorem UB.put (h : UB w b u) (k : Nat) (v : Value) : (w.setCell ⟨b, k, none⟩ v).heap[b]? = some (.cells (#[str u.scheme, .bool u.hasHost, str u.host, str u.path, .bool u.hasQuery, str u.query, .bool u.hasFrag, str u.frag].setIfInBounds k v) 59 (0, 0)) := by
  unfold UB at h
  simp only [World.setCell, Array.getElem?_modify, if_pos, h, Option.map_some]
  rfl
theorem UB.s0 (h : UB w b u) (x : List UInt8) : UB (w.setCell ⟨b, 0, none⟩ (str x)) b { u with scheme := x } := h.put 0 _
theorem UB.s1 (h : UB w b u) (x : Bool) : UB (w.setCell ⟨b, 1, none⟩ (.bool x)) b { u with hasHost := x } := h.put 1 _
theorem UB.s2 (h : UB w b u) (x : List UInt8) : UB (w.setCell ⟨b, 2, none⟩ (str x)) b { u with host := x } := h.put 2 _
theorem UB.s3 (h : UB w b u) (x : List UInt8) : UB (w.setCell ⟨b, 3, none⟩ (str x)) b { u with path := x } := h.put 3 _
theorem UB.s4 (h : UB w b u) (x : Bool) : UB (w.setCell ⟨b, 4, none⟩ (.bool x)) b { u with hasQuery := x } := h.put 4 _
theorem UB.s5 (h : UB w b u) (x : List UInt8) : UB (w.setCell ⟨b, 5, none⟩ (str x)) b { u with query := x } := h.put 5 _
theorem UB.s6 (h : UB w b u) (x : Bool) : UB (w.setCell ⟨b, 6, none⟩ (.bool x)) b { u with hasFrag := x } := h.put 6 _
theorem UB.s7 (h : UB w b u) (x : List UInt8) : UB (w.setCell ⟨b, 7, none⟩ (str x)) b { u with frag := x } := h.put 7 _
end
/-- The result's block, and the address that is made beside it. -/
structure PB (w W : World) (r u : UrlD) : Prop where
  bel : Below w.heap.size w W
  res : UB W w.heap.size r
  own : UB W (w.heap.size + 1) u
section
variable {w W W' : World} {r u : UrlD}
theorem PB.below (h : PB w W r u) (hb : Below W.heap.size W W') : PB w W' r u := ⟨h.bel.trans (hb.mono h.bel.size), h.res.below hb, h.own.below hb⟩
theorem PB.drewN (h : PB w W r u) (n : Nat) : PB w (W.drewN n) r u := ⟨belN h.bel n, h.res, h.own⟩
theorem PB.drew (h : PB w W r u) : PB w W.drew r u := ⟨h.bel.drew, h.res, h.own⟩
theorem PB.s0 (h : PB w W r u) (x : List UInt8) : PB w (W.setCell ⟨w.heap.size + 1, 0, none⟩ (str x)) r { u with scheme := x } := ⟨h.bel.setCell (by simp) _, h.res.other (by omega) _, h.own.s0 x⟩
theorem PB.s1 (h : PB w W r u) (x : Bool) : PB w (W.setCell ⟨w.heap.size + 1, 1, none⟩ (.bool x)) r { u with hasHost := x } := ⟨h.bel.setCell (by simp) _, h.res.other (by omega) _, h.own.s1 x⟩
theorem PB.s2 (h : PB w W r u) (x : List UInt8) : PB w (W.setCell ⟨w.heap.size + 1, 2, none⟩ (str x)) r { u with host := x } := ⟨h.bel.setCell (by simp) _, h.res.other (by omega) _, h.own.s2 x⟩
theorem PB.s3 (h : PB w W r u) (x : List UInt8) : PB w (W.setCell ⟨w.heap.size + 1, 3, none⟩ (str x)) r { u with path := x } := ⟨h.bel.setCell (by simp) _, h.res.other (by omega) _, h.own.s3 x⟩
theorem PB.s4 (h : PB w W r u) (x : Bool) : PB w (W.setCell ⟨w.heap.size + 1, 4, none⟩ (.bool x)) r { u with hasQuery := x } := ⟨h.bel.setCell (by simp) _, h.res.other (by omega) _, h.own.s4 x⟩
theorem PB.s5 (h : PB w W r u) (x : List UInt8) : PB w (W.setCell ⟨w.heap.size + 1, 5, none⟩ (str x)) r { u with query := x } := ⟨h.bel.setCell (by simp) _, h.res.other (by omega) _, h.own.s5 x⟩
theorem PB.s6 (h : PB w W r u) (x : Bool) : PB w (W.setCell ⟨w.heap.size + 1, 6, none⟩ (.bool x)) r { u with hasFrag := x } := ⟨h.bel.setCell (by simp) _, h.res.other (by omega) _, h.own.s6 x⟩
theorem PB.s7 (h : PB w W r u) (x : List UInt8) : PB w (W.setCell ⟨w.heap.size + 1, 7, none⟩ (str x)) r { u with frag := x } := ⟨h.bel.setCell (by simp) _, h.res.other (by omega) _, h.own.s7 x⟩
theorem PB.fill (h : PB w W r u) (x : UrlD) : PB w ((((((((W.setCell ⟨w.heap.size, 0, none⟩ (str x.scheme)).setCell ⟨w.heap.size, 1, none⟩ (.bool x.hasHost)).setCell ⟨w.heap.size, 2, none⟩ (str x.host)).setCell ⟨w.heap.size, 3, none⟩ (str x.path)).setCell ⟨w.heap.size, 4, none⟩ (.bool x.hasQuery)).setCell ⟨w.heap.size, 5, none⟩ (str x.query)).setCell ⟨w.heap.size, 6, none⟩ (.bool x.hasFrag)).setCell ⟨w.heap.size, 7, none⟩ (str x.frag)) x u :=
  ⟨(((((((h.bel.setCell (Nat.le_refl _) _).setCell (Nat.le_refl _) _).setCell (Nat.le_refl _) _).setCell (Nat.le_refl _) _).setCell (Nat.le_refl _) _).setCell (Nat.le_refl _) _).setCell (Nat.le_refl _) _).setCell (Nat.le_refl _) _,
   (((((((h.res.s0 x.scheme).s1 x.hasHost).s2 x.host).s3 x.path).s4 x.hasQuery).s5 x.query).s6 x.hasFrag).s7 x.frag,
   (((((((h.own.other (by omega) _).other (by omega) _).other (by omega) _).other (by omega) _).other (by omega) _).other (by omega) _).other (by omega) _).other (by omega) _⟩
theorem PB.fzr (h : PB w W r u) : W.frozen? ⟨w.heap.size, 0, none⟩ = false ∧ W.frozen? ⟨w.heap.size, 1, none⟩ = false ∧ W.frozen? ⟨w.heap.size, 2, none⟩ = false ∧ W.frozen? ⟨w.heap.size, 3, none⟩ = false ∧ W.frozen? ⟨w.heap.size, 4, none⟩ = false ∧ W.frozen? ⟨w.heap.size, 5, none⟩ = false ∧ W.frozen? ⟨w.heap.size, 6, none⟩ = false ∧ W.frozen? ⟨w.heap.size, 7, none⟩ = false :=
  ⟨h.res.fz 0, h.res.fz 1, h.res.fz 2, h.res.fz 3, h.res.fz 4, h.res.fz 5, h.res.fz 6, h.res.fz 7⟩
end
end Go.Proofs.YtdhmmepcnladcaaDoor

import Derived.Test.YtdhmmepcnladcaaDoorPart6
import Derived.Test.YtdhmmepcnladcaaDoorPartN
namespace Go.Proofs.YtdhmmepcnladcaaDoor
open Go.RowKit

/-- The cells of a list of ints. -/
def iCells (l : List Int) : List Value := l.map fun x => Value.int .i64 x
theorem infoInt2 : (Tryd.prog.info? 3).map (fun i => (i.zero, i.size, i.bytes)) = some (some (.int .i64 0), 1, 8) := by kernel_rfl
theorem iCells_app (a b : List Int) : iCells (a ++ b) = iCells a ++ iCells b := by simp [iCells]
theorem iCells_len (a : List Int) : (iCells a).length = a.length := by simp [iCells]
theorem iCells_one (l : List Int) : ∀ u ∈ iCells l, u.oneCell' = true := by
  intro u hu; simp [iCells] at hu; obtain ⟨x, _, rfl⟩ := hu; rfl

theorem Sl.one2 (w : World) (o : Obj) (t : TypeId) (v : Value) : Sl ((w.alloc o).alloc (.cells #[v] t)) (w.heap.size + 2) 1 (some ⟨w.heap.size + 1, 0, none⟩) 1 [v] := by
  have := Sl.one (w.alloc o) t v
  simpa using this
/-- What the closure of part.Within works on: the list in block b, itself in block b + 1. -/
def WCtx (b : Nat) (w : World) (l : List Int) : Prop :=
  ∃ S m c, w.cell? ⟨b, 0, none⟩ = some (.slice S m c) ∧ w.frozen? ⟨b, 0, none⟩ = false ∧ w.cell? ⟨b + 1, 0, none⟩ = some (.func (.func 77) #[] #[.pointer (some ⟨b, 0, none⟩), .pointer (some ⟨b + 1, 0, none⟩)]) ∧
    w.ownsRow (b + 2) 3 1 (.slice S m c) m (iCells l) ∧ l.length = m ∧ b + 2 ≤ w.heap.size
theorem WCtx.below {b : Nat} {w w' : World} {l : List Int} (h : WCtx b w l) (hb : Below w.heap.size w w') : WCtx b w' l := by
  obtain ⟨S, m, c, h1, h2, h3, h4, h5, h6⟩ := h
  exact ⟨S, m, c, (hb.cell (p := ⟨b, 0, none⟩) (by show b < _; omega)).trans h1, (hb.frozen (p := ⟨b, 0, none⟩) (by show b < _; omega)).trans h2, (hb.cell (p := ⟨b + 1, 0, none⟩) (by show b + 1 < _; omega)).trans h3, own_below h4 hb, h5, Nat.le_trans h6 hb.size⟩
def WRel (b n2 me : Nat) (parts : List PartD) (T : List Int) (w0 : World) (iv : Value) (wr : World) : Prop :=
  ∃ i done, iv = .int .i64 (i : Nat) ∧ i ≤ n2 ∧ WCtx b wr done ∧ Hid (done ++ wthsD (parts.drop i) done.length me = T) ∧ Below b w0 wr
set_option maxRecDepth 100000 in
set_option maxHeartbeats 2000000 in
theorem Within1_any (b : Nat) (k : Nat) : ∀ (p : PartD) (v : List Value) (inn : Int) (l : List Int) (w : World) (B : Nat), (flatD p).length ≤ k → l.length + (flatD p).length ≤ 1000 → -1 ≤ inn → inn ≤ 1000 → B ≤ b → PartAt (· < B) w p v → WCtx b w l →
    Calls Tryd.prog 77 #[.agg v.toArray, .int .i64 inn, .pointer (some ⟨b, 0, none⟩), .pointer (some ⟨b + 1, 0, none⟩)] w
      fun e w' => e = .returned (.tuple #[]) ∧ WCtx b w' (l ++ wthD p l.length inn) ∧ Below b w w' := by
  obtain ⟨i0, hi0, hz0, hz1, hz2⟩ := info_parts infoInt2
  induction k with
  | zero => intro p v inn l w B h; rw [flatD_eq] at h; simp at h
  | succ k ih =>
    intro p v inn l w B hk hk1 hinn1 hinn2 hB hp hctx
    obtain ⟨A, c, A2, c2, rfl, _, _, _, _, hP, hc2, hcm⟩ := hp.open
    obtain ⟨W, hW⟩ : ∃ W, W = w.alloc (.cells #[str p.type, str p.cs, str p.id, str p.loc, .int .i64 p.how, .slice A p.body.length c, .slice A2 p.parts.length c2] 25) := ⟨_, rfl⟩
    have hbW : Below w.heap.size w W := by rw [hW]; exact (Below.refl _ w).alloc (Nat.le_refl _) _
    have hbx : Box7 W w.heap.size (str p.type) (str p.cs) (str p.id) (str p.loc) (.int .i64 p.how) (.slice A p.body.length c) (.slice A2 p.parts.length c2) := by rw [hW]; exact Box7.new w _ _ _ _ _ _ _ _
    have hctxW := hctx.below hbW
    have hszb : b + 2 ≤ w.heap.size := by obtain ⟨_, _, _, _, _, _, _, _, h⟩ := hctx; exact h
    have hbel0 : Below b w W := hbW.mono (by omega)
    obtain ⟨n2, hn2⟩ : ∃ n2, n2 = p.parts.length := ⟨_, rfl⟩
    have hT := wthD_eq p l.length inn
    obtain ⟨T, hTd⟩ : ∃ T, T = l ++ wthD p l.length inn := ⟨_, rfl⟩
    have hTl : T.length = l.length + (flatD p).length := by rw [hTd, List.length_append, wthD_len]
    rw [hT] at hTd
    rw [show l ++ wthD p l.length inn = T from by rw [hT, hTd]]
    have hPW := hP.below (hbW.mono (by omega : B ≤ w.heap.size))
    rw [← hn2] at hPW hc2 hW hbx ⊢
    have HT := Lib.hid hTd
    have HTl := Lib.hid hTl
    have Hn2 := Lib.hid hn2
    have Hih := Lib.hid ih
    have Hk := Lib.hid hk
    have hn2m : n2 ≤ 9223372036854775807 := by unfold maxLen at hcm; omega
    have hl1000 : l.length ≤ 1000 := by omega
    obtain ⟨S, m, cS, y0, yf, y1, hown, hlm, _⟩ := hctxW
    have hne : Value.ownBlock (.slice S m cS) ≠ some w.heap.size := by
      obtain ⟨S0, m0, c0, e0, _, _, hown0, _⟩ := hctx
      have e1 := (hbW.cell (p := ⟨b, 0, none⟩) (by show b < _; omega)).trans e0
      rw [y0] at e1
      injection e1 with e1
      rw [e1]
      intro e
      have := (hown0.lt _ e).2
      omega
    have hP0 : SlP (· < B) w A2 n2 p.parts := by rw [hn2]; exact hP
    have Hne := Lib.hid hne
    have hm1000 : m ≤ 1000 := by omega
    have Hlm := Lib.hid hlm
    have h63 : m + 1 ≤ maxLen := by unfold maxLen; omega
    have h47 : (m + 1) * 8 ≤ 140737488355328 := by omega
    have ⟨x0, x1, x2, x3, x4, x5, x6⟩ := hbx
    have hsW : b + 2 ≤ W.heap.size := Nat.le_trans hszb hbW.size
    have hownA := hown
    clear hT hTd hTl hn2 ih hk hP hp hctx hcm hlm
    subst hW
    go_enter Tryd.func77, Tryd.ntmps77
    go_wp2_with (at_builtin; refine wpList_app rfl _ _ 29 rfl (b + 2) 3 i0 (.int .i64 0) 1 8 Tryd.underlying29 hi0 hz0 hz1 hz2 rfl (by decide) S m cS (iCells l) rfl (hown.alloc _) _ _ 1 1 [.int .i64 inn] rfl (Sl.one2 w _ _ _) (iCells_one [inn]) h63 h47 (by simp only [World.size_alloc]; omega) ?_)
    intro S' c' w4 hown4 hb4 hg4
    have hbA := ((Below.refl (b + 2) (w.alloc (.cells #[str p.type, str p.cs, str p.id, str p.loc, .int .i64 p.how, .slice A p.body.length c, .slice A2 n2 c2] 25))).alloc hsW (.cells #[.int .i64 inn] 3)).trans hb4
    have hb40 : Below b w w4 := hbel0.trans (hbA.mono (by omega))
    have z0 := (hbA.cell (p := ⟨b, 0, none⟩) (by show b < b + 2; omega)).trans y0
    have zf := (hbA.frozen (p := ⟨b, 0, none⟩) (by show b < b + 2; omega)).trans yf
    have z1 := (hbA.cell (p := ⟨b + 1, 0, none⟩) (by show b + 1 < b + 2; omega)).trans y1
    have hbk : w4.heap[w.heap.size]? = some (.cells #[str p.type, str p.cs, str p.id, str p.loc, .int .i64 p.how, .slice A p.body.length c, .slice A2 n2 c2] 25) := by
      rw [hg4.block w.heap.size (by simp <;> omega) (fun e => Hne.out e.symm), Lib.alloc_old _ _ _ (by simp)]
      exact heap_alloc_new w _
    have u6 : w4.cell? ⟨w.heap.size, 6, none⟩ = some (.slice A2 n2 c2) := by unfold World.cell?; rw [hbk]; rfl
    have hne4 : Value.ownBlock (.slice S' (m + 1) c') ≠ some b := fun e => by have := (hown4.lt _ e).1; omega
    have hctx5 : WCtx b (w4.setCell ⟨b, 0, none⟩ (.slice S' (m + 1) c')) (l ++ [inn]) := by
      refine ⟨S', m + 1, c', World.cell?_setCell_same _ _ _ z0, by simpa using zf, ?_, ?_, by simp [Hlm.out], by have h1 := hb4.size; have h2 := hbA.size; simp only [World.size_setCell]; simp only [World.size_alloc] at h1; omega⟩
      · rw [World.cell?_setCell_other _ _ _ _ (by simp)]; exact z1
      · rw [iCells_app]; exact own_setFar hown4 hne4 _
    have hbel5 : Below b w (w4.setCell ⟨b, 0, none⟩ (.slice S' (m + 1) c')) := hb40.setCell (Nat.le_refl _) _
    have u6' : (w4.setCell ⟨b, 0, none⟩ (.slice S' (m + 1) c')).cell? ⟨w.heap.size, 6, none⟩ = some (.slice A2 n2 c2) := by
      rw [World.cell?_setCell_other _ _ _ _ (by simp <;> omega)]; exact u6
    have Hctx5 := Lib.hid hctx5
    clear hown hownA hown4 hb4 hg4 hbA hb40 y0 yf y1 hbk u6 hne4 hctx5 x0 x1 x2 x3 x4 x5 x6 z1 hbx hbel0 hbW hPW
    go_wp2_with fail
    go_loopw [18] (WRel b n2 m p.parts T w) (fun iv _ => n2 - (intOf iv).toNat)
    case atStart =>
      refine ⟨0, l ++ [inn], rfl, Nat.zero_le _, Hctx5.out, ?_, hbel5⟩
      show _ = T
      rw [HT.out, List.drop_zero, List.length_append, Hlm.out]
      simp
    case round =>
      obtain ⟨i, done, rfl, hi, hctx, hE, hbel⟩ := hrel
      by_cases hin : i < n2
      · have hPr := hP0.belowN hbel hB
        obtain ⟨b', off, q, A', n', c', A2', n2', c2', rfl, hbS, hq, hqa, x0, x1, x2, x3, x4, x5, x6⟩ := hPr.cells7 hin
        have hE1 := hE.out
        rw [hq, wthsD] at hE1
        have hqf : (flatD q).length ≤ k ∧ done.length + (flatD q).length ≤ 1000 := by
          have h1 := congrArg List.length hE1
          simp only [List.length_append, wthD_len] at h1
          have h2 := HTl.out
          refine ⟨?_, by omega⟩
          have hqi : i < p.parts.length := by rw [← Hn2.out]; exact hin
          have h3 := flatsD_get p.parts i hqi
          have h4 : p.parts[i] = q := by rw [List.drop_eq_getElem_cons hqi] at hq; injection hq
          rw [h4] at h3
          have h5 := Hk.out
          rw [flatD_eq, List.length_cons] at h5
          omega
        obtain ⟨W, hW⟩ : ∃ W, W = wr.alloc (.cells #[str q.type, str q.cs, str q.id, str q.loc, .int .i64 q.how, .slice A' n' c', .slice A2' n2' c2'] 25) := ⟨_, rfl⟩
        have hbW : Below wr.heap.size wr W := by rw [hW]; exact (Below.refl _ wr).alloc (Nat.le_refl _) _
        have hszr : b + 2 ≤ wr.heap.size := by obtain ⟨_, _, _, _, _, _, _, _, h⟩ := hctx; exact h
        have hctxW := hctx.below hbW
        have y1 : W.cell? ⟨b + 1, 0, none⟩ = some (.func (.func 77) #[] #[.pointer (some ⟨b, 0, none⟩), .pointer (some ⟨b + 1, 0, none⟩)]) := by obtain ⟨_, _, _, _, _, h, _⟩ := hctxW; exact h
        have hcl := Hih.out q _ (m : Int) done W B hqf.1 hqf.2 (by omega) (by omega) hB (hqa.belowN hbW (by omega)) hctxW
        have hbelW := hbel.trans (hbW.mono (by omega))
        have hE2 : Hid ((done ++ wthD q done.length (m : Int)) ++ wthsD (p.parts.drop (i + 1)) (done ++ wthD q done.length (m : Int)).length m = T) := by
          show _ = T
          rw [List.length_append, wthD_len, List.append_assoc]
          exact hE1
        generalize done ++ wthD q done.length (m : Int) = done2 at hcl hE2
        have Hcl := Lib.hid hcl
        clear hcl hE hE1 hq hPr hqa hctx hctxW hbW hbel
        subst hW
        go_wp2_with fail
        refine Hcl.out.mono ?_
        rintro e w6 ⟨rfl, hctx6, hb6⟩
        clear x0 x1 x2 x3 x4 x5 x6 y1
        go_wp2_with fail
        exact ⟨⟨i + 1, done2, by go_num, by omega, hctx6, hE2, hbelW.trans hb6⟩, by simp [intOf]; omega⟩
      · have hE1 : Hid (done = T) := by
          have := hE.out
          rw [List.drop_of_length_le (by rw [← Hn2.out]; omega), wthsD, List.append_nil] at this
          exact this
        clear hE
        have Hctx := Lib.hid hctx
        clear hctx
        go_wp2_with fail
        go_end0
        obtain rfl := hE1.out
        exact ⟨rfl, Hctx.out, hbel⟩
end Go.Proofs.YtdhmmepcnladcaaDoor

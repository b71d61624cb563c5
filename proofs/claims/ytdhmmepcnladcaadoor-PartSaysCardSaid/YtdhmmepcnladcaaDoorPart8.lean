import Derived.Test.YtdhmmepcnladcaaDoorPart7
import Derived.Laws.EntriesVeiled
namespace Go.Proofs.YtdhmmepcnladcaaDoor
open Go.RowKit

theorem WCtx.new (w : World) (t1 t2 : TypeId) : WCtx w.heap.size ((w.alloc (.cells #[.slice none 0 0] t1)).alloc (.cells #[.func (.func 77) #[] #[.pointer (some ⟨w.heap.size, 0, none⟩), .pointer (some ⟨w.heap.size + 1, 0, none⟩)]] t2)) [] := by
  have h0 : ((w.alloc (.cells #[.slice none 0 0] t1)).alloc (.cells #[.func (.func 77) #[] #[.pointer (some ⟨w.heap.size, 0, none⟩), .pointer (some ⟨w.heap.size + 1, 0, none⟩)]] t2)).heap[w.heap.size]? = some (.cells #[.slice none 0 0] t1) := by
    rw [Lib.alloc_old _ _ _ (by simp)]; exact heap_alloc_new w _
  have h1 : ((w.alloc (.cells #[.slice none 0 0] t1)).alloc (.cells #[.func (.func 77) #[] #[.pointer (some ⟨w.heap.size, 0, none⟩), .pointer (some ⟨w.heap.size + 1, 0, none⟩)]] t2)).heap[w.heap.size + 1]? = some (.cells #[.func (.func 77) #[] #[.pointer (some ⟨w.heap.size, 0, none⟩), .pointer (some ⟨w.heap.size + 1, 0, none⟩)]] t2) := by
    have := heap_alloc_new (w.alloc (.cells #[.slice none 0 0] t1)) (.cells #[.func (.func 77) #[] #[.pointer (some ⟨w.heap.size, 0, none⟩), .pointer (some ⟨w.heap.size + 1, 0, none⟩)]] t2)
    simpa using this
  refine ⟨none, 0, 0, ?_, Lib.frozen_of_heap h0 0, ?_, World.ownsRow_nil _ _ _ _, rfl, by simp⟩
  · unfold World.cell?; rw [h0]; rfl
  · unfold World.cell?; rw [h1]; rfl
/-- What part.Within leaves. -/
def WthOut (p : PartD) (w : World) (e : Ending) (w' : World) : Prop :=
  ∃ S c, e = .returned (.tuple #[.slice S (if checkD p = 0 then (flatD p).length else 0) c, .int .i64 (checkD p : Nat)]) ∧ Sl w' w'.heap.size 1 S (if checkD p = 0 then (flatD p).length else 0) (iCells (if checkD p = 0 then wthD p 0 (-1) else [])) ∧
    (if checkD p = 0 then (flatD p).length else 0) ≤ c ∧ c ≤ maxLen ∧ Below w.heap.size w w'
set_option maxRecDepth 100000 in
set_option maxHeartbeats 2000000 in
theorem Within_any (p : PartD) (v : List Value) (w : World) (hp : PartAt (· < w.heap.size) w p v) :
    Calls Tryd.prog 12 #[.agg v.toArray] w (WthOut p w) := by
  have hok := checkD_ok p
  have hck := PCheck_any p v
  obtain ⟨A, c, A2, c2, rfl, _⟩ := hp.open
  obtain ⟨W, hW⟩ : ∃ W, W = w.alloc (.cells #[str p.type, str p.cs, str p.id, str p.loc, .int .i64 p.how, .slice A p.body.length c, .slice A2 p.parts.length c2] 25) := ⟨_, rfl⟩
  have hbW : Below w.heap.size w W := by rw [hW]; exact (Below.refl _ w).alloc (Nat.le_refl _) _
  have hbx : Box7 W w.heap.size (str p.type) (str p.cs) (str p.id) (str p.loc) (.int .i64 p.how) (.slice A p.body.length c) (.slice A2 p.parts.length c2) := by rw [hW]; exact Box7.new w _ _ _ _ _ _ _ _
  have hpW := hp.below hbW
  have hcW := hck W (hpW.more hbW.size)
  unfold WthOut
  generalize checkD p = R at hcW hok ⊢
  have HcW := Lib.hid hcW
  have Hp := Lib.hid hp
  clear hck hcW hpW hp
  by_cases hR : R = 0
  · subst hR
    obtain ⟨hl12, hch⟩ := hok rfl
    simp only [if_true]
    have hwl := wthD_len p 0 (-1)
    clear hok hch
    obtain ⟨T, hT⟩ : ∃ T, T = wthD p 0 (-1) := ⟨_, rfl⟩
    rw [← hT, ← hwl, ← hT]
    rw [← hT] at hwl
    have Hwl := Lib.hid hwl
    have HT := Lib.hid hT
    clear hwl hT
    go_enter Tryd.func12, Tryd.ntmps12
    go_wp2_with fail
    rw [← hW]
    clear hW
    refine HcW.out.mono ?_
    clear HcW
    rintro e w1 ⟨rfl, hb1⟩
    have hbel1 := hbW.trans (hb1.mono hbW.size)
    have hbx1 := hbx.below hb1
    have ⟨x0, x1, x2, x3, x4, x5, x6⟩ := hbx1
    have hl1 := hbx1.lt
    clear hbx hbx1 hb1 hbW
    go_wp2_with fail
    have hbelx := (hbel1.alloc hbel1.size (.cells #[.slice none 0 0] 29)).alloc (by simp; have := hbel1.size; omega) (.cells #[.func (.func 77) #[] #[.pointer (some ⟨w1.heap.size, 0, none⟩), .pointer (some ⟨w1.heap.size + 1, 0, none⟩)]] 90)
    refine (Within1_any w1.heap.size 12 p _ (-1) [] _ w.heap.size hl12 (by simp; omega) (by omega) (by omega) hbel1.size (Hp.out.below hbelx) (WCtx.new w1 _ _)).mono ?_
    rw [List.nil_append, List.length_nil, ← HT.out]
    rintro e w2 ⟨rfl, hctx, hb2⟩
    have hbel2 := hbelx.trans (hb2.mono hbel1.size)
    obtain ⟨S, m, cS, y0, yf, y1, hown, hlm, _⟩ := hctx
    have hsl := Sl.of_own hown
    have hcap := own_cap hown
    have hcm := own_capmax hown
    subst hlm
    clear x0 x1 x2 x3 x4 x5 x6 yf y1 hown hbelx hb2
    go_wp2_with fail
    go_ret2
    exact ⟨S, cS, rfl, hsl, hcap, hcm, hbel2⟩
  · have hR1 : ((R : Int) != 0) = true := by simp; omega
    simp only [if_neg hR]
    clear hok
    go_enter Tryd.func12, Tryd.ntmps12
    go_wp2_with fail
    rw [← hW]
    clear hW
    refine HcW.out.mono ?_
    clear HcW hR
    rintro e w1 ⟨rfl, hb1⟩
    go_wp2_with fail
    go_ret2
    exact ⟨none, 0, rfl, Sl.nil_ _ _ _ _, Nat.le_refl _, Nat.zero_le _, hbW.trans (hb1.mono hbW.size)⟩
end Go.Proofs.YtdhmmepcnladcaaDoor

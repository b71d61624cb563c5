import Derived.Test.YtdhmmepcnladcaaDoorSmall
namespace Go.Proofs.YtdhmmepcnladcaaDoor
open Go.RowKit

theorem small_check : checkD smallD = 0 := by decide +kernel
theorem small_flat : flatD smallD = [smallD, pageD, pictD] := by simp [smallD, pageD, pictD, flatD, flatsD]
theorem small_in : wthD smallD 0 (-1) = [-1, 0, 0] := by simp [smallD, pageD, pictD, wthD, wthsD, flatD, flatsD]
theorem multi_bad : checkD { type := [109, 117, 108, 116, 105, 112, 97, 114, 116, 47, 120], cs := [], id := [], loc := [], how := 0, body := [], parts := [] } = 4 := by decide +kernel
theorem typ_ab : typB [97, 47, 98] = true := by decide +kernel
theorem typ_aB : typB [97, 47, 66] = false := by decide +kernel
set_option maxRecDepth 100000 in
set_option maxHeartbeats 2000000 in
theorem parted_any (w : World) : Calls Tryd.prog 14 #[] w fun e w' => e = .returned (.bool true) ∧ Below w.heap.size w w' := by
  have hT1 := fun W => Type_any [97, 47, 98] W (by decide)
  have hT2 := fun W => Type_any [97, 47, 66] W (by decide)
  rw [typ_ab] at hT1
  rw [typ_aB] at hT2
  have HT1 := Lib.hid hT1
  have HT2 := Lib.hid hT2
  clear hT1 hT2
  go_enter Tryd.func14, Tryd.ntmps14
  go_wp2_with fail
  refine (smallP_any _).mono ?_
  rintro e w1 ⟨v1, rfl, hp1, hb1⟩
  go_wp2_with fail
  refine (All_any smallD v1 _ hp1).mono ?_
  unfold AllOut
  rw [small_check, small_flat]
  rintro e w2 ⟨S2, c2, rfl, hs2, hc2, hm2, hb2⟩
  have hbel2 := hb1.trans (hb2.mono hb1.size)
  clear hp1 hb1 hb2
  simp only [if_true] at hs2 hc2
  have hs2l : ([smallD, pageD, pictD] : List PartD).length = 3 := rfl
  rw [hs2l] at hs2 hc2
  go_wp2_with fail
  refine (smallP_any _).mono ?_
  rintro e w3 ⟨v3, rfl, hp3, hb3⟩
  have hbel3 := hbel2.trans (hb3.mono hbel2.size)
  have hs3 := (hs2.below hb3).more hb3.size
  clear hs2 hb3
  go_wp2_with fail
  refine (Within_any smallD v3 _ hp3).mono ?_
  unfold WthOut
  rw [small_check, small_flat, small_in]
  rintro e w4 ⟨S4, c4, rfl, hs4, hc4, hm4, hb4⟩
  have hbel4 := hbel3.trans (hb4.mono hbel3.size)
  have hs5 := (hs3.below hb4).more hb4.size
  clear hs3 hb4 hp3
  simp only [if_true] at hs4 hc4
  rw [hs2l] at hs4 hc4
  obtain ⟨b, off, q, A', n', c', A2', n2', c2', rfl, hbS, hq, hqa, x0, x1, x2, x3, x4, x5, x6⟩ := hs5.cells7 (i := 0) (by omega)
  have hq0 : q = bareD smallD := by injection hq with h; exact h.symm
  obtain ⟨A9, c9, A8, c8, hv, _⟩ := hqa.open
  have hn2 : n2' = 0 := by
    simp only [List.cons.injEq, and_true] at hv
    have := hv.2.2.2.2.2.2
    injection this with _ h _
    rw [h, hq0]; rfl
  subst hn2
  simp only [Nat.zero_mul, Nat.add_zero] at x6
  have hll : (([-1, 0, 0] : List Int) == [-1, 0, 0]) = true := by decide
  have Hs4 := Lib.hid hs4
  clear hq hqa hv x0 x1 x2 x3 x4 x5 hs5 hs4 hq0
  go_wp2_with fail
  have hbelA := hbel4.alloc hbel4.size (.cells #[.int .i64 (-1), .int .i64 0, .int .i64 0] 3)
  have hslA := Sl.row w4 3 1 3 [.int .i64 (-1), .int .i64 0, .int .i64 0] rfl
  have hslB := Sl.below Hs4.out ((Below.refl w4.heap.size w4).alloc (Nat.le_refl _) (.cells #[.int .i64 (-1), .int .i64 0, .int .i64 0] 3))
  have heq := Equal_ints S4 (some ⟨w4.heap.size, 0, none⟩) 3 c4 3 3 _ _ [-1, 0, 0] [-1, 0, 0] _ hslB hslA (by omega) (by omega)
  rw [hll] at heq
  refine heq.mono ?_
  clear heq hslA hslB
  rintro e w5 ⟨rfl, q5, rfl⟩
  have hbel5 := belN hbelA q5
  generalize (w4.alloc (.cells #[.int .i64 (-1), .int .i64 0, .int .i64 0] 3)).drewN q5 = w5 at hbel5 ⊢
  clear x6
  go_wp2_with fail
  have hml := leaf_at (w := w5) { type := [109, 117, 108, 116, 105, 112, 97, 114, 116, 47, 120], cs := [], id := [], loc := [], how := 0, body := [], parts := [] } rfl none 0 ⟨rfl, fun h => absurd h (by simp)⟩ (by decide) (by omega) (by decide) (by decide) (by decide) (by decide) (by decide) (by decide)
  have hck := PCheck_any _ _ w5 hml
  rw [multi_bad] at hck
  refine hck.mono ?_
  clear hck hml
  rintro e w6 ⟨rfl, hb6⟩
  have hbel6 := hbel5.trans (hb6.mono hbel5.size)
  go_wp2_with fail
  refine (HT1.out _).mono ?_
  rintro e w7 ⟨rfl, hb7⟩
  have hbel7 := hbel6.trans (hb7.mono hbel6.size)
  go_wp2_with fail
  refine (HT2.out _).mono ?_
  rintro e w8 ⟨rfl, hb8⟩
  have hbel8 := hbel7.trans (hb8.mono hbel7.size)
  go_wp2_with fail
  go_ret
  exact ⟨rfl, hbel8⟩
end Go.Proofs.YtdhmmepcnladcaaDoor

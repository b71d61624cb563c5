import Derived.Test.YtlbdnohnngkapaaGreatDoorU10
import Derived.Lib.SlBytesConst
import Derived.Test.YtlbdnohnngkapaaGreatDoorU9
namespace Go.Proofs.YtlbdnohnngkapaaGreatDoor
open Go.RowKit

def pageD : PartD := { type := [116, 101, 120, 116, 47, 104, 116, 109, 108], cs := [117, 116, 102, 45, 56], id := [], loc := [], how := 2, body := [60, 97, 32, 104, 114, 101, 102, 61, 39, 99, 39, 62, 60, 105, 109, 103, 32, 83, 82, 67, 61, 99, 105, 100, 58, 120, 62, 60, 97, 32, 104, 114, 101, 102, 61, 35, 100, 62], parts := [] }
def pictD : PartD := { type := [105, 109, 97, 103, 101, 47, 112, 110, 103], cs := [], id := [120], loc := [99], how := 1, body := [1, 2, 3], parts := [] }
def smallD : PartD := { type := [109, 117, 108, 116, 105, 112, 97, 114, 116, 47, 114, 101, 108, 97, 116, 101, 100], cs := [], id := [], loc := [104, 116, 116, 112, 58, 47, 47, 104, 47, 97, 47, 98], how := 0, body := [], parts := [pageD, pictD] }
theorem sl_block {w : World} {g n size : Nat} {t : TypeId} {fr : Nat × Nat} (xs : List Value) (hg : w.heap[g]? = some (.cells xs.toArray t fr)) (hl : xs.length = n * size) : SlS (· < w.heap.size) w size (some ⟨g, 0, none⟩) n xs :=
  Sl.of_block hg hl (fun j u hu => by rw [Nat.zero_add]; simpa using hu)
theorem leaf_at {w : World} (p : PartD) (hp : p.parts = []) (A : Option Addr) (c : Nat) (hb : SlS (· < w.heap.size) w 1 A p.body.length (Lib.byteCells p.body)) (hc : p.body.length ≤ c) (hm : c ≤ 1000) (h1 : p.type.length ≤ 1000) (h2 : p.cs.length ≤ 1000) (h3 : p.id.length ≤ 1000) (h4 : p.loc.length ≤ 1000) (h5 : 0 ≤ p.how) (h6 : p.how ≤ 2) :
    PartAt (· < w.heap.size) w p [str p.type, str p.cs, str p.id, str p.loc, .int .i64 p.how, .slice A p.body.length c, .slice none 0 0] := by
  obtain ⟨t, cs, id, loc, how, body, parts⟩ := p
  simp only at hp hb hc h1 h2 h3 h4 h5 h6
  subst hp
  refine ⟨A, _, c, none, 0, 0, [], rfl, ?_, hb, hc, by unfold maxLen; omega, ⟨rfl, fun h => absurd h (by omega)⟩, Nat.le_refl _, Nat.zero_le _, rfl⟩
  unfold maxLen
  omega
def SmallRes (w : World) (e : Ending) (w' : World) : Prop := ∃ v : List Value, e = .returned (.agg v.toArray) ∧ PartAt (· < w'.heap.size) w' smallD v ∧ Below w.heap.size w w'
set_option maxRecDepth 100000 in
set_option maxHeartbeats 2000000 in
theorem smallP_any (w : World) : Calls Tryz.prog 74 #[] w (SmallRes w) := by
  have kc : ∀ (w : World) (o : Obj) (C : Array Value) (n c : Nat), (convert 22 22 (.slice (some ⟨w.heap.size + 1, 0, none⟩) n c)).run Tryz.prog ((w.alloc o).alloc (.cells C 5)) = .ok (.slice (some ⟨w.heap.size + 1, 0, none⟩) n c) ((w.alloc o).alloc (.cells C 5 (C.size, C.size + 1))) := by
    intro w o C n c
    have := Lib.run_convert_bytes_const (P := Tryz.prog) (w.alloc o) 22 5 C n c Tryz.underlying22 Tryz.underlying5
    simpa using this
  go_enter Tryz.func74, Tryz.ntmps74
  go_wp2_with fail
  generalize hW : ((((w.alloc _).alloc _).alloc _).alloc _ : World) = W
  have hb : Below w.heap.size w W := by
    rw [← hW]
    exact ((((Below.refl _ w).alloc (Nat.le_refl _) _).alloc (by simp) _).alloc (by simp <;> omega) _).alloc (by simp <;> omega) _
  have hsz : W.heap.size = w.heap.size + 4 := by rw [← hW]; simp
  have g0 : W.heap[w.heap.size]? = some (.cells #[str smallD.type, str smallD.cs, str smallD.id, str smallD.loc, .int .i64 0, .slice none 0 0, .slice (some ⟨w.heap.size + 1 + 1 + 1, 0, none⟩) 2 2] 25) := by
    rw [← hW, Lib.alloc_old _ _ _ (by simp <;> omega), Lib.alloc_old _ _ _ (by simp <;> omega), Lib.alloc_old _ _ _ (by simp)]
    exact heap_alloc_new w _
  have g1 : W.heap[w.heap.size + 1]? = some (.cells (Lib.byteCells pageD.body).toArray 5 (38, 39)) := by
    rw [← hW, Lib.alloc_old _ _ _ (by simp <;> omega), Lib.alloc_old _ _ _ (by simp)]
    have := fun o => heap_alloc_new (w.alloc o)
    simp only [World.size_alloc] at this
    exact this _ _
  have g2 : W.heap[w.heap.size + 1 + 1]? = some (.cells (Lib.byteCells pictD.body).toArray 5) := by
    rw [← hW, Lib.alloc_old _ _ _ (by simp)]
    have := fun o o' => heap_alloc_new ((w.alloc o).alloc o')
    simp only [World.size_alloc] at this
    exact this _ _ _
  have g3 : W.heap[w.heap.size + 1 + 1 + 1]? = some (.cells ([[str pageD.type, str pageD.cs, str pageD.id, str pageD.loc, .int .i64 2, .slice (some ⟨w.heap.size + 1, 0, none⟩) 38 38, .slice none 0 0], [str pictD.type, str pictD.cs, str pictD.id, str pictD.loc, .int .i64 1, .slice (some ⟨w.heap.size + 1 + 1, 0, none⟩) 3 3, .slice none 0 0]] : List (List Value)).flatten.toArray 25) := by
    rw [← hW]
    have := fun o o' o'' => heap_alloc_new (((w.alloc o).alloc o').alloc o'')
    simp only [World.size_alloc] at this
    exact this _ _ _ _
  clear hW
  have h1 := leaf_at pageD rfl _ 38 (sl_block (n := 38) _ g1 rfl) (by decide) (by omega) (by decide) (by decide) (by decide) (by decide) (by decide) (by decide)
  have h2 := leaf_at pictD rfl _ 3 (sl_block (n := 3) _ g2 rfl) (by decide) (by omega) (by decide) (by decide) (by decide) (by decide) (by decide) (by decide)
  obtain ⟨c0, c1, c2, c3, c4, c5, c6⟩ := (BoxF.of_block g0).1
  refine bodyPost_ret (v := .agg #[str smallD.type, str smallD.cs, str smallD.id, str smallD.loc, .int .i64 0, .slice none 0 0, .slice (some ⟨w.heap.size + 1 + 1 + 1, 0, none⟩) 2 2]) (by simp [results, Tryz.results74, go_sem, c0, c1, c2, c3, c4, c5, c6]) rfl ⟨[str smallD.type, str smallD.cs, str smallD.id, str smallD.loc, .int .i64 0, .slice none 0 0, .slice (some ⟨w.heap.size + 1 + 1 + 1, 0, none⟩) 2 2], rfl, ?_, hb⟩
  exact ⟨none, 0, 0, _, 2, 2, _, rfl, by refine ⟨?_, ?_, ?_, ?_, ?_, ?_⟩ <;> decide, ⟨rfl, fun h => absurd h (by omega)⟩, Nat.le_refl _, Nat.zero_le _, sl_block (n := 2) (size := 7) _ g3 rfl, Nat.le_refl _, by unfold maxLen; omega, ⟨_, _, rfl, h1, _, _, rfl, h2, rfl⟩⟩
end Go.Proofs.YtlbdnohnngkapaaGreatDoor

namespace Go.Proofs.YtlbdnohnngkapaaGreatDoor
open Go.RowKit

theorem smallM_check : checkD smallD = 0 := by decide +kernel
theorem smallM_len : (textM smallD).length ≤ 40000 := by decide +kernel
theorem splitM_small : splitM [120, 10, 45, 45, 98, 10, 121, 13, 10, 45, 45, 98, 32, 10, 10, 45, 45, 98, 45, 45, 10, 122] [98] = ([[121], []], 0) := by decide +kernel
theorem smallM_flat : (flatD smallD).length ≤ 3 := by simp [smallD, pageD, pictD, flatD, flatsD]
set_option maxRecDepth 100000 in
set_option maxHeartbeats 4000000 in
theorem bundled_any (w : World) (hM : MaxLenOk w) (hP : PowOk w) : Calls Tryz.prog 26 #[] w fun e w' => e = .returned (.bool true) ∧ Below w.heap.size w w' := by
  obtain ⟨T, hT⟩ : ∃ T, T = textM smallD := ⟨_, rfl⟩
  have hT1 : T.length ≤ 40000 := by rw [hT]; exact smallM_len
  have hT2 : readM T = (smallD, 0) := by rw [hT]; exact read_back smallM_check smallM_len
  have hT3 : writeM smallD = (T, 0) := by unfold writeM; rw [smallM_check, if_neg (by decide), ← hT, if_neg (by omega)]
  clear hT
  have HM := Lib.hid hM
  have HP := Lib.hid hP
  have HT2 := Lib.hid hT2
  have HT3 := Lib.hid hT3
  clear hM hP hT2 hT3
  go_enter Tryz.func26, Tryz.ntmps26
  go_wp2_with fail
  refine (smallP_any _).mono ?_
  rintro e w1 ⟨v1, rfl, hp1, hb1⟩
  go_wp2_with fail
  refine (MWrite_any smallD v1 _ hp1 (HM.out.below hb1) (HP.out.below hb1)).mono ?_
  rw [HT3.out]
  rintro e w2 ⟨A2, c2, rfl, hby2, hc2, hm2, hb2⟩
  have hbel2 := hb1.trans (hb2.mono hb1.size)
  simp only at hby2 hc2 hm2
  clear hp1 hb1 hb2
  go_wp2_with fail
  refine (mread_any T A2 T.length c2 w2 hby2 hc2 hm2).mono ?_
  rw [HT2.out]
  rintro e w3 ⟨v0, v1, v2, v3, v4, v5, v6, rfl, hpt, hb3⟩
  have hbel3 := hbel2.trans (hb3.mono hbel2.size)
  simp only at hpt
  obtain ⟨q, hq⟩ : ∃ q, q = smallD := ⟨_, rfl⟩
  rw [← hq] at hpt
  have Hq := Lib.hid hq
  clear hq
  obtain ⟨Aq, cq, Aq2, cq2, hvq, _⟩ := hpt.open
  injection hvq with h0 hvq
  injection hvq with h1 hvq
  injection hvq with h2 hvq
  injection hvq with h3 hvq
  injection hvq with h4 hvq
  injection hvq with h5 hvq
  injection hvq with h6 _
  subst h0; subst h1; subst h2; subst h3; subst h4; subst h5; subst h6
  obtain ⟨nq1, hnq1⟩ : ∃ y, y = q.body.length := ⟨_, rfl⟩
  obtain ⟨nq2, hnq2⟩ : ∃ y, y = q.parts.length := ⟨_, rfl⟩
  rw [← hnq1, ← hnq2] at hpt ⊢
  clear hnq1 hnq2 hby2 hb3 hc2 hm2
  obtain ⟨W4, hW4⟩ : ∃ W4, W4 = w3.alloc (.cells #[str q.type, str q.cs, str q.id, str q.loc, .int .i64 q.how, .slice Aq nq1 cq, .slice Aq2 nq2 cq2] 25) := ⟨_, rfl⟩
  have hb4 : Below w3.heap.size w3 W4 := by rw [hW4]; exact (Below.refl _ w3).alloc (Nat.le_refl _) _
  have hbp4 : BoxF W4 w3.heap.size (str q.type) (str q.cs) (str q.id) (str q.loc) (.int .i64 q.how) (.slice Aq nq1 cq) (.slice Aq2 nq2 cq2) := BoxF.of_block (t := 25) (by rw [hW4]; exact heap_alloc_new w3 _)
  have hs4 : w3.heap.size < W4.heap.size := by rw [hW4]; simp
  have hpt4 : PartAt (· < W4.heap.size) W4 q [str q.type, str q.cs, str q.id, str q.loc, .int .i64 q.how, .slice Aq nq1 cq, .slice Aq2 nq2 cq2] := PartAt.change (fun z hz => Nat.lt_of_lt_of_le hz.2 hb4.size) (fun z hz => hb4.cell hz.2) _ _ hpt
  have hbel4 := hbel3.trans (hb4.mono hbel3.size)
  have HW4 := Lib.hid hW4
  have Hst := Lib.hid (And.intro hbp4 (And.intro hpt4 hbel4))
  clear hpt hb4 hbp4 hpt4 hW4 hbel4 hbel3 hbel2
  go_upto_region 3 with fail
  rw [← HW4.out]
  obtain ⟨hbp4, hpt4, hbel4⟩ := Hst.out
  have kc : (convert 22 22 (.slice (some ⟨W4.heap.size, 0, none⟩) 22 22)).run Tryz.prog (W4.alloc (.cells #[.int .u8 120, .int .u8 10, .int .u8 45, .int .u8 45, .int .u8 98, .int .u8 10, .int .u8 121, .int .u8 13, .int .u8 10, .int .u8 45, .int .u8 45, .int .u8 98, .int .u8 32, .int .u8 10, .int .u8 10, .int .u8 45, .int .u8 45, .int .u8 98, .int .u8 45, .int .u8 45, .int .u8 10, .int .u8 122] 5)) = .ok (.slice (some ⟨W4.heap.size, 0, none⟩) 22 22) (W4.alloc (.cells #[.int .u8 120, .int .u8 10, .int .u8 45, .int .u8 45, .int .u8 98, .int .u8 10, .int .u8 121, .int .u8 13, .int .u8 10, .int .u8 45, .int .u8 45, .int .u8 98, .int .u8 32, .int .u8 10, .int .u8 10, .int .u8 45, .int .u8 45, .int .u8 98, .int .u8 45, .int .u8 45, .int .u8 10, .int .u8 122] 5 (22, 23))) := by
    have := Lib.run_convert_bytes_const (P := Tryz.prog) W4 22 5 #[.int .u8 120, .int .u8 10, .int .u8 45, .int .u8 45, .int .u8 98, .int .u8 10, .int .u8 121, .int .u8 13, .int .u8 10, .int .u8 45, .int .u8 45, .int .u8 98, .int .u8 32, .int .u8 10, .int .u8 10, .int .u8 45, .int .u8 45, .int .u8 98, .int .u8 45, .int .u8 45, .int .u8 10, .int .u8 122] 22 22 Tryz.underlying22 Tryz.underlying5
    exact this
  obtain ⟨W5, hW5⟩ : ∃ W5, W5 = W4.alloc (.cells #[.int .u8 120, .int .u8 10, .int .u8 45, .int .u8 45, .int .u8 98, .int .u8 10, .int .u8 121, .int .u8 13, .int .u8 10, .int .u8 45, .int .u8 45, .int .u8 98, .int .u8 32, .int .u8 10, .int .u8 10, .int .u8 45, .int .u8 45, .int .u8 98, .int .u8 45, .int .u8 45, .int .u8 10, .int .u8 122] 5 (22, 23)) := ⟨_, rfl⟩
  have hb5 : Below W4.heap.size W4 W5 := by rw [hW5]; exact (Below.refl _ W4).alloc (Nat.le_refl _) _
  have hby5 : By W5 W5.heap.size (some ⟨W4.heap.size, 0, none⟩) 22 [120, 10, 45, 45, 98, 10, 121, 13, 10, 45, 45, 98, 32, 10, 10, 45, 45, 98, 45, 45, 10, 122] := sl_block (n := 22) (t := 5) (fr := (22, 23)) (Lib.byteCells [120, 10, 45, 45, 98, 10, 121, 13, 10, 45, 45, 98, 32, 10, 10, 45, 45, 98, 45, 45, 10, 122]) (by rw [hW5]; exact heap_alloc_new W4 _) rfl
  have HW5 := Lib.hid hW5
  have hspl := Split_any [120, 10, 45, 45, 98, 10, 121, 13, 10, 45, 45, 98, 32, 10, 10, 45, 45, 98, 45, 45, 10, 122] [98] (some ⟨W4.heap.size, 0, none⟩) 22 22 W5 hby5 (by decide) (by decide) (by decide)
  rw [splitM_small] at hspl
  have Hspl := Lib.hid hspl
  have hbp5 := hbp4.below hb5 hs4
  have hpt5 : PartAt (· < W5.heap.size) W5 q [str q.type, str q.cs, str q.id, str q.loc, .int .i64 q.how, .slice Aq nq1 cq, .slice Aq2 nq2 cq2] := (hpt4.below hb5).more hb5.size
  have hbel5 := hbel4.trans (hb5.mono hbel4.size)
  have hs5 : w3.heap.size < W5.heap.size := Nat.lt_of_lt_of_le hs4 hb5.size
  have Hst5 := Lib.hid (And.intro hbp5 (And.intro hpt5 hbel5))
  clear hbp4 hpt4 hbel4 hW5 hb5 hby5 hspl hbp5 hpt5 hbel5 Hst
  go_wp2_with fail
  rw [← HW5.out]
  refine Hspl.out.mono ?_
  rintro e w6 ⟨S, c, vs, sv, rfl, hsl, hrow, hb6⟩
  simp only [List.length_cons, List.length_nil, Nat.zero_add, Nat.reduceAdd] at hsl ⊢
  clear kc
  go_upto_region 4 with fail
  obtain ⟨hbp5, hpt5, hbel5⟩ := Hst5.out
  have hbp6 := hbp5.below hb6 hs5
  have hpt6 := (hpt5.below hb6).more hb6.size
  have hbel6 := hbel5.trans (hb6.mono hbel5.size)
  have hs6 : w3.heap.size < w6.heap.size := Nat.lt_of_lt_of_le hs5 hb6.size
  have HBox : Hid (∀ X, Below w6.heap.size w6 X → Box7 X w3.heap.size (str q.type) (str q.cs) (str q.id) (str q.loc) (.int .i64 q.how) (.slice Aq nq1 cq) (.slice Aq2 nq2 cq2)) := Lib.hid (fun X h => (hbp6.below h hs6).1)
  have Hpt : Hid (∀ X, Below w6.heap.size w6 X → PartAt (· < X.heap.size) X q [str q.type, str q.cs, str q.id, str q.loc, .int .i64 q.how, .slice Aq nq1 cq, .slice Aq2 nq2 cq2]) := Lib.hid (fun X h => (hpt6.below h).more h.size)
  obtain ⟨A0, d0, hv0, hsl0, _, _⟩ := hrow.2 0 [121] rfl
  obtain ⟨A1, d1, hv1, _, _, _⟩ := hrow.2 1 [] rfl
  obtain ⟨bS, offS, hS7, hbS, hcS⟩ := hsl.2 (by omega)
  subst hS7
  simp only [List.length_cons, List.length_nil, Nat.zero_add] at hv0 hv1 hsl0
  have k0 : w6.cell? ⟨bS, offS, none⟩ = some (.slice A0 1 d0) := by simpa using hcS 0 _ hv0
  have k1 : w6.cell? ⟨bS, offS + 1, none⟩ = some (.slice A1 0 d1) := by simpa using hcS 1 _ hv1
  have HC0 : Hid (∀ X, Below w6.heap.size w6 X → X.cell? ⟨bS, offS, none⟩ = some (.slice A0 1 d0)) := Lib.hid (fun X h => (h.cell (p := ⟨bS, offS, none⟩) hbS.2).trans k0)
  have HC1 : Hid (∀ X, Below w6.heap.size w6 X → X.cell? ⟨bS, offS + 1, none⟩ = some (.slice A1 0 d1)) := Lib.hid (fun X h => (h.cell (p := ⟨bS, offS + 1, none⟩) hbS.2).trans k1)
  have hby0 : By w6 w6.heap.size A0 1 [121] := SlS.change hsl0 (fun z hz => hz.2.1) (fun _ _ => rfl)
  have HT0 : Hid (∀ X, Below w6.heap.size w6 X → (convert 22 9 (.slice A0 1 d0)).run Tryz.prog X = .ok (str [121]) X) := Lib.hid (fun X h => run_toStr (P := Tryz.prog) X 22 9 5 _ A0 1 d0 _ (hby0.below h) Tryz.underlying22 Tryz.underlying5 Tryz.underlying9)
  have Hbel6 := Lib.hid hbel6
  clear hbp5 hpt5 hbel5 hbp6 hpt6 hrow hsl hv0 hsl0 hv1 hcS k0 k1 hby0 hbel6 hb6 Hst5
  refine wp_region_held (S := fun X => Below w6.heap.size w6 X) (by kernel_rfl) ?_
  change wpAnyH _ _ _ _ _ _ _ _ (World.drew w6)
  have hS : Below w6.heap.size w6 (World.drew w6) := (Below.refl _ w6).drew
  refine wpAnyH_take (i := 0) (v := ?_) rfl (by kernel_rfl) (by kernel_rfl) (by kernel_rfl) (fun _ _ _ h => h) (Or.inl ⟨by kernel_rfl, ?_⟩) hS ?_
  rotate_left 1
  · intro W' hb'; go_simp; try exact rfl
  refine wpAnyH_take (i := 1) (v := ?_) rfl (by kernel_rfl) (by kernel_rfl) (by kernel_rfl) (fun _ _ _ h => h) (Or.inl ⟨by kernel_rfl, ?_⟩) hS ?_
  rotate_left 1
  · intro W' hb'; go_simp; try exact rfl
  refine wpAnyH_take (i := 2) (v := ?_) rfl (by kernel_rfl) (by kernel_rfl) (by kernel_rfl) (fun _ _ _ h => h) (Or.inl ⟨by kernel_rfl, ?_⟩) hS ?_
  rotate_left 1
  · intro W' hb'; go_simp; try exact rfl
  refine wpAnyH_take (i := 3) (v := ?_) rfl (by kernel_rfl) (by kernel_rfl) (by kernel_rfl) (fun _ _ _ h => h) (Or.inl ⟨by kernel_rfl, ?_⟩) hS ?_
  rotate_left 1
  · intro W' hb'; go_simp; try exact rfl
  refine wpAnyH_take (i := 4) (v := ?_) rfl (by kernel_rfl) (by kernel_rfl) (by kernel_rfl) (fun _ _ _ h => h) (Or.inl ⟨by kernel_rfl, ?_⟩) hS ?_
  rotate_left 1
  · intro W' hb'; go_simp; try exact rfl
  refine wpAnyH_take (i := 5) (v := ?_) rfl (by kernel_rfl) (by kernel_rfl) (by kernel_rfl) (fun _ _ _ h => h) (Or.inl ⟨by kernel_rfl, ?_⟩) hS ?_
  rotate_left 1
  · intro W' hb'; go_simp; try exact rfl
  refine wpAnyH_take (i := 6) (v := ?_) rfl (by kernel_rfl) (by kernel_rfl) (by kernel_rfl) (fun _ _ _ h => h) (Or.inl ⟨by kernel_rfl, ?_⟩) hS ?_
  rotate_left 1
  · intro W' hb'; go_simp; try exact rfl
  refine wpAnyH_take (i := 7) (v := ?_) rfl (by kernel_rfl) (by kernel_rfl) (by kernel_rfl) (fun _ _ _ h => h) (Or.inl ⟨by kernel_rfl, ?_⟩) hS ?_
  rotate_left 1
  · intro W' hb'; go_simp; try exact rfl
  refine wpAnyH_take (i := 8) (v := ?_) rfl (by kernel_rfl) (by kernel_rfl) (by kernel_rfl) (fun _ _ _ h => h) (Or.inl ⟨by kernel_rfl, ?_⟩) hS ?_
  rotate_left 1
  · intro W' hb'; go_simp; try exact rfl
  refine wpAnyH_take (i := 9) (v := ?_) rfl (by kernel_rfl) (by kernel_rfl) (by kernel_rfl) (fun _ _ _ h => h) (Or.inl ⟨by kernel_rfl, ?_⟩) hS ?_
  rotate_left 1
  · intro W' hb'; go_simp; try exact rfl
  refine wpAnyH_take (i := 10) (v := ?_) rfl (by kernel_rfl) (by kernel_rfl) (by kernel_rfl) (fun _ _ _ h => h) (Or.inl ⟨by kernel_rfl, ?_⟩) hS ?_
  rotate_left 1
  · intro W' hb'; go_simp; try exact rfl
  refine wpAnyH_take (i := 11) (v := ?_) rfl (by kernel_rfl) (by kernel_rfl) (by kernel_rfl) (fun _ _ _ h => h) (Or.inl ⟨by kernel_rfl, ?_⟩) hS ?_
  rotate_left 1
  · intro W' hb'; obtain ⟨x0, x1, x2, x3, x4, x5, x6⟩ := HBox.out W' hb'; go_simp; try exact rfl
  refine wpAnyH_all (rs := [12]) (by kernel_rfl) (by simp) ?_
  intro kk hkk
  simp only [List.mem_singleton] at hkk
  subst hkk
  go_simp
  refine wpM_callP rfl (by kernel_rfl) 74 #[] (by go_simp; try rfl) _ (smallP_any _) ?_
  rintro e w8 ⟨v8, rfl, hp8, hb8⟩
  refine ⟨_, rfl, ?_⟩
  have hS : Below w6.heap.size w6 w8 := hS.trans (hb8.mono hS.size)
  refine ⟨hS, ?_⟩
  clear hb8
  have hsm := SamePart_any 3 q smallD _ v8 w8 (by rw [Hq.out]; exact smallM_flat) (Hpt.out w8 hS) hp8
  rw [show sameD q smallD = true by rw [Hq.out]; exact sameD_refl _] at hsm
  have Hsm := Lib.hid hsm
  clear hsm
  refine wpAnyH_all (rs := [13]) (by kernel_rfl) (by simp) ?_
  intro kk hkk
  simp only [List.mem_singleton] at hkk
  subst hkk
  go_simp
  refine wpM_callF rfl (by kernel_rfl) 20 #[.agg #[str q.type, str q.cs, str q.id, str q.loc, .int .i64 q.how, .slice Aq nq1 cq, .slice Aq2 nq2 cq2], .agg v8.toArray] (by go_simp; try rfl) _ _ Hsm.out ?_
  intro w9 hb9
  have hS : Below w6.heap.size w6 w9 := hS.trans (hb9.mono hS.size)
  refine ⟨hS, ?_⟩
  clear hb9
  refine wpAnyH_take (i := 14) (v := ?_) rfl (by kernel_rfl) (by kernel_rfl) (by kernel_rfl) (fun _ _ _ h => h) (Or.inl ⟨by kernel_rfl, ?_⟩) hS ?_
  rotate_left 1
  · intro W' hb'; go_simp; try exact rfl
  refine wpAnyH_take (i := 15) (v := ?_) rfl (by kernel_rfl) (by kernel_rfl) (by kernel_rfl) (fun _ _ _ h => h) (Or.inl ⟨by kernel_rfl, ?_⟩) hS ?_
  rotate_left 1
  · intro W' hb'; go_simp; try exact rfl
  refine wpAnyH_take (i := 16) (v := ?_) rfl (by kernel_rfl) (by kernel_rfl) (by kernel_rfl) (fun _ _ _ h => h) (Or.inl ⟨by kernel_rfl, ?_⟩) hS ?_
  rotate_left 1
  · intro W' hb'; go_simp; try exact rfl
  refine wpAnyH_take (i := 17) (v := ?_) rfl (by kernel_rfl) (by kernel_rfl) (by kernel_rfl) (fun _ _ _ h => h) (Or.inl ⟨by kernel_rfl, ?_⟩) hS ?_
  rotate_left 1
  · intro W' hb'; go_simp; try exact rfl
  refine wpAnyH_take (i := 18) (v := ?_) rfl (by kernel_rfl) (by kernel_rfl) (by kernel_rfl) (fun _ _ _ h => h) (Or.inl ⟨by kernel_rfl, ?_⟩) hS ?_
  rotate_left 1
  · intro W' hb'; go_simp; try exact rfl
  refine wpAnyH_take (i := 19) (v := ?_) rfl (by kernel_rfl) (by kernel_rfl) (by kernel_rfl) (fun _ _ _ h => h) (Or.inl ⟨by kernel_rfl, ?_⟩) hS ?_
  rotate_left 1
  · intro W' hb'; go_simp; try exact rfl
  refine wpAnyH_take (i := 20) (v := ?_) rfl (by kernel_rfl) (by kernel_rfl) (by kernel_rfl) (fun _ _ _ h => h) (Or.inl ⟨by kernel_rfl, ?_⟩) hS ?_
  rotate_left 1
  · intro W' hb'; go_simp; try exact rfl
  refine wpAnyH_take (i := 21) (v := ?_) rfl (by kernel_rfl) (by kernel_rfl) (by kernel_rfl) (fun _ _ _ h => h) (Or.inl ⟨by kernel_rfl, ?_⟩) hS ?_
  rotate_left 1
  · intro W' hb'; go_simp; try exact rfl
  refine wpAnyH_take (i := 22) (v := ?_) rfl (by kernel_rfl) (by kernel_rfl) (by kernel_rfl) (fun _ _ _ h => h) (Or.inl ⟨by kernel_rfl, ?_⟩) hS ?_
  rotate_left 1
  · intro W' hb'; go_simp; try exact rfl
  refine wpAnyH_take (i := 23) (v := ?_) rfl (by kernel_rfl) (by kernel_rfl) (by kernel_rfl) (fun _ _ _ h => h) (Or.inl ⟨by kernel_rfl, ?_⟩) hS ?_
  rotate_left 1
  · intro W' hb'; have k0 := HC0.out W' hb'; go_simp; try exact rfl
  refine wpAnyH_take (i := 24) (v := ?_) rfl (by kernel_rfl) (by kernel_rfl) (by kernel_rfl) (fun _ _ _ h => h) (Or.inl ⟨by kernel_rfl, ?_⟩) hS ?_
  rotate_left 1
  · intro W' hb'; have kt := HT0.out W' hb'; go_simp; try exact rfl
  refine wpAnyH_take (i := 25) (v := ?_) rfl (by kernel_rfl) (by kernel_rfl) (by kernel_rfl) (fun _ _ _ h => h) (Or.inl ⟨by kernel_rfl, ?_⟩) hS ?_
  rotate_left 1
  · intro W' hb'; go_simp; try exact rfl
  refine wpAnyH_take (i := 26) (v := ?_) rfl (by kernel_rfl) (by kernel_rfl) (by kernel_rfl) (fun _ _ _ h => h) (Or.inl ⟨by kernel_rfl, ?_⟩) hS ?_
  rotate_left 1
  · intro W' hb'; go_simp; try exact rfl
  refine wpAnyH_take (i := 27) (v := ?_) rfl (by kernel_rfl) (by kernel_rfl) (by kernel_rfl) (fun _ _ _ h => h) (Or.inl ⟨by kernel_rfl, ?_⟩) hS ?_
  rotate_left 1
  · intro W' hb'; go_simp; try exact rfl
  refine wpAnyH_take (i := 28) (v := ?_) rfl (by kernel_rfl) (by kernel_rfl) (by kernel_rfl) (fun _ _ _ h => h) (Or.inl ⟨by kernel_rfl, ?_⟩) hS ?_
  rotate_left 1
  · intro W' hb'; go_simp; try exact rfl
  refine wpAnyH_take (i := 29) (v := ?_) rfl (by kernel_rfl) (by kernel_rfl) (by kernel_rfl) (fun _ _ _ h => h) (Or.inl ⟨by kernel_rfl, ?_⟩) hS ?_
  rotate_left 1
  · intro W' hb'; go_simp; try exact rfl
  refine wpAnyH_take (i := 30) (v := ?_) rfl (by kernel_rfl) (by kernel_rfl) (by kernel_rfl) (fun _ _ _ h => h) (Or.inl ⟨by kernel_rfl, ?_⟩) hS ?_
  rotate_left 1
  · intro W' hb'; have k1 := HC1.out W' hb'; go_simp; try exact rfl
  refine wpAnyH_take (i := 31) (v := ?_) rfl (by kernel_rfl) (by kernel_rfl) (by kernel_rfl) (fun _ _ _ h => h) (Or.inl ⟨by kernel_rfl, ?_⟩) hS ?_
  rotate_left 1
  · intro W' hb'; go_simp; try exact rfl
  refine wpAnyH_take (i := 32) (v := ?_) rfl (by kernel_rfl) (by kernel_rfl) (by kernel_rfl) (fun _ _ _ h => h) (Or.inl ⟨by kernel_rfl, ?_⟩) hS ?_
  rotate_left 1
  · intro W' hb'; go_simp; try exact rfl
  refine wpAnyH_take (i := 33) (v := ?_) rfl (by kernel_rfl) (by kernel_rfl) (by kernel_rfl) (fun _ _ _ h => h) (Or.inl ⟨by kernel_rfl, ?_⟩) hS ?_
  rotate_left 1
  · intro W' hb'; go_simp; try exact rfl
  refine wpAnyH_take (i := 34) (v := ?_) rfl (by kernel_rfl) (by kernel_rfl) (by kernel_rfl) (fun _ _ _ h => h) (Or.inl ⟨by kernel_rfl, ?_⟩) hS ?_
  rotate_left 1
  · intro W' hb'; go_simp; try exact rfl
  refine wpAnyH_done (by kernel_rfl) ?_ _
  go_simp
  go_wp2_with fail
  go_ret
  exact ⟨rfl, Hbel6.out.trans (hS.mono Hbel6.out.size)⟩
end Go.Proofs.YtlbdnohnngkapaaGreatDoor

namespace Go.Proofs.YtlbdnohnngkapaaGreatDoor
open Go.RowKit

/-- A variable that holds a part. -/
def PBox (W : World) (b : Nat) (q : PartD) (A : Option Addr) (n c : Nat) (A2 : Option Addr) (n2 c2 : Nat) : Prop :=
  b < W.heap.size ∧ BoxF W b (str q.type) (str q.cs) (str q.id) (str q.loc) (.int .i64 q.how) (.slice A n c) (.slice A2 n2 c2) ∧ PartAt (· < W.heap.size) W q [str q.type, str q.cs, str q.id, str q.loc, .int .i64 q.how, .slice A n c, .slice A2 n2 c2]
theorem PBox.below {W W' : World} {b : Nat} {q : PartD} {A : Option Addr} {n c : Nat} {A2 : Option Addr} {n2 c2 : Nat} (h : PBox W b q A n c A2 n2 c2) (hb : Below W.heap.size W W') : PBox W' b q A n c A2 n2 c2 :=
  ⟨Nat.lt_of_lt_of_le h.1 hb.size, h.2.1.below hb h.1, (h.2.2.below hb).more hb.size⟩
theorem PBox.new {w : World} {q : PartD} {A : Option Addr} {n c : Nat} {A2 : Option Addr} {n2 c2 : Nat} (h : PartAt (· < w.heap.size) w q [str q.type, str q.cs, str q.id, str q.loc, .int .i64 q.how, .slice A n c, .slice A2 n2 c2]) :
    PBox (w.alloc (.cells #[str q.type, str q.cs, str q.id, str q.loc, .int .i64 q.how, .slice A n c, .slice A2 n2 c2] 25)) w.heap.size q A n c A2 n2 c2 ∧ Below w.heap.size w (w.alloc (.cells #[str q.type, str q.cs, str q.id, str q.loc, .int .i64 q.how, .slice A n c, .slice A2 n2 c2] 25)) := by
  have hb : Below w.heap.size w (w.alloc (.cells #[str q.type, str q.cs, str q.id, str q.loc, .int .i64 q.how, .slice A n c, .slice A2 n2 c2] 25)) := (Below.refl _ w).alloc (Nat.le_refl _) _
  exact ⟨⟨by simp, BoxF.of_block (t := 25) (heap_alloc_new w _), (h.below hb).more hb.size⟩, hb⟩
/-- A part's row of values, opened. -/
theorem PartAt.vals {S : Nat → Prop} {w : World} {q : PartD} {v0 v1 v2 v3 v4 v5 v6 : Value} (h : PartAt S w q [v0, v1, v2, v3, v4, v5, v6]) :
    ∃ A n c A2 n2 c2, v0 = str q.type ∧ v1 = str q.cs ∧ v2 = str q.id ∧ v3 = str q.loc ∧ v4 = .int .i64 q.how ∧ v5 = .slice A n c ∧ v6 = .slice A2 n2 c2 ∧ PartAt S w q [str q.type, str q.cs, str q.id, str q.loc, .int .i64 q.how, .slice A n c, .slice A2 n2 c2] := by
  obtain ⟨A, c, A2, c2, hv, _⟩ := h.open
  have h' := h
  rw [hv] at h'
  injection hv with h0 hv
  injection hv with h1 hv
  injection hv with h2 hv
  injection hv with h3 hv
  injection hv with h4 hv
  injection hv with h5 hv
  injection hv with h6 _
  exact ⟨A, _, c, A2, _, c2, h0, h1, h2, h3, h4, h5, h6, h'⟩
theorem PartAt.valsL {S : Nat → Prop} {w : World} {q : PartD} {v : List Value} (h : PartAt S w q v) :
    ∃ A n c A2 n2 c2, v = [str q.type, str q.cs, str q.id, str q.loc, .int .i64 q.how, .slice A n c, .slice A2 n2 c2] ∧ PartAt S w q [str q.type, str q.cs, str q.id, str q.loc, .int .i64 q.how, .slice A n c, .slice A2 n2 c2] := by
  obtain ⟨A, c, A2, c2, hv, _⟩ := h.open
  have h' := h
  rw [hv] at h'
  exact ⟨A, _, c, A2, _, c2, hv, h'⟩
/-- What 'mime.Read' answers, opened. -/
theorem ReadEnd.open {w w' : World} {q : PartD} {er : Nat} {e : Ending} (h : ReadEnd w (q, er) e w') :
    ∃ A n c A2 n2 c2, e = .returned (.tuple #[.agg #[str q.type, str q.cs, str q.id, str q.loc, .int .i64 q.how, .slice A n c, .slice A2 n2 c2], .int .i64 (er : Nat)]) ∧ PartAt (· < w'.heap.size) w' q [str q.type, str q.cs, str q.id, str q.loc, .int .i64 q.how, .slice A n c, .slice A2 n2 c2] ∧ Below w.heap.size w w' := by
  obtain ⟨v0, v1, v2, v3, v4, v5, v6, rfl, hpt, hb⟩ := h
  obtain ⟨A, n, c, A2, n2, c2, rfl, rfl, rfl, rfl, rfl, rfl, rfl, hp⟩ := hpt.vals
  exact ⟨A, n, c, A2, n2, c2, rfl, PartAt.change (fun _ h => h.2) (fun _ _ => rfl) _ _ hp, hb⟩
theorem write_ok {p : PartD} {b : List UInt8} (h : writeM p = (b, 0)) : readM b = (p, 0) ∧ checkD p = 0 ∧ b.length ≤ 40000 ∧ b = textM p := by
  unfold writeM at h
  split at h
  · rename_i hc; injection h with _ h; exact absurd h hc
  · rename_i hc
    split at h
    · cases h
    · rename_i hl
      injection h with h _
      have hc0 : checkD p = 0 := by omega
      rw [← h]
      exact ⟨read_back hc0 (by omega), hc0, by omega, rfl⟩
theorem write_err {p : PartD} {b : List UInt8} {e : Nat} (h : writeM p = (b, e)) (hc : checkD p = 0) (he : e ≠ 0) : e = 2 := by
  unfold writeM at h
  rw [if_neg (by omega)] at h
  split at h
  · injection h with _ h; exact h.symm
  · injection h with _ h; exact absurd h.symm he
end Go.Proofs.YtlbdnohnngkapaaGreatDoor

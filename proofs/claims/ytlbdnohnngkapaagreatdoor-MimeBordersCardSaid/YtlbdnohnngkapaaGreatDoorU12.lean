import Derived.Test.YtlbdnohnngkapaaGreatDoorU11
namespace Go.Proofs.YtlbdnohnngkapaaGreatDoor
open Go.RowKit

/-- A part that has no parts, and of which only its type is said. -/
def leafT (t a : List UInt8) : PartD := ⟨t, [], [], [], 0, a, []⟩
/-- One with parts, of which only its type is said. -/
def manyT (t : List UInt8) (l : List PartD) : PartD := ⟨t, [], [], [], 0, [], l⟩
def cellT (t : List UInt8) (A : Option Addr) (n c : Nat) (B : Option Addr) (m d : Nat) : List Value := [str t, str [], str [], str [], .int .i64 0, .slice A n c, .slice B m d]
theorem leafT_at {w : World} {S : Nat → Prop} {t a : List UInt8} {A : Option Addr} {n c : Nat} (h : SlS S w 1 A n (Lib.byteCells a)) (hn : n ≤ c) (hc : c ≤ maxLen) (ht : t.length ≤ 100) : PartAt S w (leafT t a) (cellT t A n c none 0 0) :=
  ⟨A, n, c, none, 0, 0, [], rfl, ⟨by unfold maxLen; omega, Nat.zero_le _, Nat.zero_le _, Nat.zero_le _, by omega, by omega⟩, h, hn, hc, ⟨rfl, fun h => absurd h (by omega)⟩, Nat.le_refl _, Nat.zero_le _, rfl⟩
theorem manyT_at {w : World} {S : Nat → Prop} {t : List UInt8} {l : List PartD} {rows : List (List Value)} {g n : Nat} (h : SlS S w 7 (some ⟨g, 0, none⟩) n rows.flatten) (hl : PartsAt S w l rows) (hn : n ≤ maxLen) (ht : t.length ≤ 100) : PartAt S w (manyT t l) (cellT t none 0 0 (some ⟨g, 0, none⟩) n n) :=
  ⟨none, 0, 0, _, n, n, rows, rfl, ⟨by unfold maxLen; omega, Nat.zero_le _, Nat.zero_le _, Nat.zero_le _, by omega, by omega⟩, ⟨rfl, fun h => absurd h (by omega)⟩, Nat.le_refl _, Nat.zero_le _, h, Nat.le_refl _, hn, hl⟩
def set7 (W : World) (r : Nat) (u0 u1 u2 u3 u4 u5 u6 : Value) : World := ((((((W.setCell ⟨r, 0, none⟩ u0).setCell ⟨r, 1, none⟩ u1).setCell ⟨r, 2, none⟩ u2).setCell ⟨r, 3, none⟩ u3).setCell ⟨r, 4, none⟩ u4).setCell ⟨r, 5, none⟩ u5).setCell ⟨r, 6, none⟩ u6
theorem set7_box {w : World} {b : Nat} {v0 v1 v2 v3 v4 v5 v6 : Value} (h : BoxF w b v0 v1 v2 v3 v4 v5 v6) (u0 u1 u2 u3 u4 u5 u6 : Value) : BoxF (set7 w b u0 u1 u2 u3 u4 u5 u6) b u0 u1 u2 u3 u4 u5 u6 :=
  ⟨BoxF.set7 h u0 u1 u2 u3 u4 u5 u6, fun k => by unfold set7; simpa using h.2 k⟩
set_option maxRecDepth 100000 in
set_option maxHeartbeats 4000000 in
theorem mimeBorders_walk (a b : List UInt8) (A : Option Addr) (n c : Nat) (B : Option Addr) (m d : Nat) (dp : Bool) (w : World) (hMx : MaxLenOk w) (hPw : PowOk w) (ha : By w w.heap.size A n a) (hn : n ≤ c) (hc : c ≤ maxLen) (hb : By w w.heap.size B m b) (hm : m ≤ d) (hd : d ≤ maxLen) :
    Calls Tryz.prog 13 #[.slice A n c, .slice B m d, .bool dp] w fun e w' => e = .returned (.bool true) ∧ Below w.heap.size w w' := by
  have HM := Lib.hid hMx
  have HP := Lib.hid hPw
  have Ha := Lib.hid ha
  have Hb := Lib.hid hb
  clear hMx hPw ha hb
  obtain ⟨W1, hW1⟩ : ∃ X, X = ((w.alloc (.cells (cellT [116, 101, 120, 116, 47, 120] A n c none 0 0).toArray 25)).alloc (.cells (cellT [116, 101, 120, 116, 47, 120] B m d none 0 0).toArray 25)).alloc (.cells ([cellT [116, 101, 120, 116, 47, 120] A n c none 0 0, cellT [116, 101, 120, 116, 47, 120] B m d none 0 0].flatten).toArray 25) := ⟨_, rfl⟩
  have hbl : Below w.heap.size w W1 := by
    rw [hW1]
    exact (((Below.refl _ w).alloc (Nat.le_refl _) _).alloc (by simp) _).alloc (by simp <;> omega) _
  have hsz : W1.heap.size = w.heap.size + 3 := by rw [hW1]; simp
  have g0 : W1.heap[w.heap.size]? = some (.cells (cellT [116, 101, 120, 116, 47, 120] A n c none 0 0).toArray 25) := by
    rw [hW1, Lib.alloc_old _ _ _ (by simp <;> omega), Lib.alloc_old _ _ _ (by simp)]
    exact heap_alloc_new w _
  have g1 : W1.heap[w.heap.size + 1]? = some (.cells (cellT [116, 101, 120, 116, 47, 120] B m d none 0 0).toArray 25) := by
    rw [hW1, Lib.alloc_old _ _ _ (by simp)]
    have := fun o => heap_alloc_new (w.alloc o)
    simp only [World.size_alloc] at this
    exact this _ _
  have g2 : W1.heap[w.heap.size + 1 + 1]? = some (.cells ([cellT [116, 101, 120, 116, 47, 120] A n c none 0 0, cellT [116, 101, 120, 116, 47, 120] B m d none 0 0].flatten).toArray 25) := by
    rw [hW1]
    have := fun o o' => heap_alloc_new ((w.alloc o).alloc o')
    simp only [World.size_alloc] at this
    exact this _ _ _
  obtain ⟨X, hX⟩ : ∃ X, X = leafT [116, 101, 120, 116, 47, 120] a := ⟨_, rfl⟩
  obtain ⟨Y, hY⟩ : ∃ Y, Y = leafT [116, 101, 120, 116, 47, 120] b := ⟨_, rfl⟩
  have px : PartAt (· < W1.heap.size) W1 X (cellT [116, 101, 120, 116, 47, 120] A n c none 0 0) := by
    rw [hX]
    exact leafT_at ((Ha.out.below hbl).more hbl.size) hn hc (by decide)
  have py : PartAt (· < W1.heap.size) W1 Y (cellT [116, 101, 120, 116, 47, 120] B m d none 0 0) := by
    rw [hY]
    exact leafT_at ((Hb.out.below hbl).more hbl.size) hm hd (by decide)
  have pz : PartAt (· < W1.heap.size) W1 (manyT [109, 117, 108, 116, 105, 112, 97, 114, 116, 47, 120] [X, Y]) (cellT [109, 117, 108, 116, 105, 112, 97, 114, 116, 47, 120] none 0 0 (some ⟨w.heap.size + 1 + 1, 0, none⟩) 2 2) :=
    manyT_at (sl_block (n := 2) (size := 7) _ g2 rfl) ⟨_, _, rfl, px, _, _, rfl, py, rfl⟩ (by unfold maxLen; omega) (by decide)
  have hbx : Box7 W1 w.heap.size (str [116, 101, 120, 116, 47, 120]) (str []) (str []) (str []) (.int .i64 0) (.slice A n c) (.slice none 0 0) := (BoxF.of_block g0).1
  have hby : Box7 W1 (w.heap.size + 1) (str [116, 101, 120, 116, 47, 120]) (str []) (str []) (str []) (.int .i64 0) (.slice B m d) (.slice none 0 0) := (BoxF.of_block g1).1
  obtain ⟨W2, hW2⟩ : ∃ X, X = W1.alloc (.cells (cellT [109, 117, 108, 116, 105, 112, 97, 114, 116, 47, 120] none 0 0 (some ⟨w.heap.size + 1 + 1, 0, none⟩) 2 2).toArray 25) := ⟨_, rfl⟩
  have hbox := PBox.new (q := manyT [109, 117, 108, 116, 105, 112, 97, 114, 116, 47, 120] [X, Y]) pz
  have Hpx := Lib.hid px
  have Hpy := Lib.hid py
  have Hpz := Lib.hid pz
  have Hbx := Lib.hid hbx
  have Hby := Lib.hid hby
  have Hbox := Lib.hid hbox
  have Hbl := Lib.hid hbl
  have Hsz := Lib.hid hsz
  have HW1 := Lib.hid hW1
  have HW2 := Lib.hid hW2
  have HX := Lib.hid hX
  have HY := Lib.hid hY
  clear px py pz hbx hby hbox hbl hsz hW1 hW2 hX hY g0 g1 g2
  have hW2b : Below W1.heap.size W1 W2 := by rw [HW2.out]; exact Hbox.out.2
  have hbel2 := Lib.hid (Hbl.out.trans (hW2b.mono Hbl.out.size))
  have hb2 : PBox W2 (w.heap.size + 1 + 1 + 1) (manyT [109, 117, 108, 116, 105, 112, 97, 114, 116, 47, 120] [X, Y]) none 0 0 (some ⟨w.heap.size + 1 + 1, 0, none⟩) 2 2 := by
    rw [HW2.out, ← (show W1.heap.size = w.heap.size + 1 + 1 + 1 from Hsz.out)]
    exact Hbox.out.1
  have Hb2 := Lib.hid hb2
  have HW2b := Lib.hid hW2b
  clear hb2 hW2b
  cases dp with
  | false =>
    go_enter Tryz.func13, Tryz.ntmps13
    go_upto_region 5 with fail
    generalize hWg : ((((w.alloc _).alloc _).alloc _).alloc _ : World) = W0
    obtain rfl : W0 = W2 := by rw [← hWg, HW2.out, HW1.out]; rfl
    clear hWg
    obtain ⟨p, hp⟩ : ∃ p, p = manyT [109, 117, 108, 116, 105, 112, 97, 114, 116, 47, 120] [X, Y] := ⟨_, rfl⟩
    have hb3 := Hb2.out
    rw [← hp] at hb3
    have Hbx0 := Lib.hid hb3
    have Hbel0 := hbel2
    clear hb3 hp Hb2 Hbx Hby Hpx Hpy Hpz Hbox HW1 HW2 hbel2
    have bx := Hbx0.out
    have ⟨⟨x0, x1, x2, x3, x4, x5, x6⟩, xf⟩ := bx.2.1
    clear bx
    go_wp2_with fail
    refine (MWrite_any p _ W0 Hbx0.out.2.2 (HM.out.below Hbel0.out) (HP.out.below Hbel0.out)).mono ?_
    obtain ⟨b9, e9, hw9⟩ : ∃ b9 e9, writeM p = (b9, e9) := ⟨_, _, rfl⟩
    rw [hw9]
    rintro e w9 ⟨A9, c9, rfl, hby9, hc9, hm9, hb9⟩
    have Hbel9 := Lib.hid (Hbel0.out.trans (hb9.mono Hbel0.out.size))
    have Hbx9 := Lib.hid (Hbx0.out.below hb9)
    have Hw9 := Lib.hid hw9
    simp only at hc9 hby9 ⊢
    have Hby9 := Lib.hid hby9
    clear hb9 hw9 hby9
    clear x0 x1 x2 x3 x4 x5 x6 xf
    go_wp2_with fail
    refine (bundled_any w9 (HM.out.below Hbel9.out) (HP.out.below Hbel9.out)).mono ?_
    rintro e w1 ⟨rfl, hb1⟩
    have Hbel1 := Lib.hid (Hbel9.out.trans (hb1.mono Hbel9.out.size))
    have Hbx1 := Lib.hid (Hbx9.out.below hb1)
    have Hby1 := Lib.hid ((Hby9.out.below hb1).more hb1.size)
    clear hb1
    by_cases he9 : e9 = 0
    · subst he9
      obtain ⟨r1, r2, r3, r4⟩ := write_ok Hw9.out
      have Hr1 := Lib.hid r1
      clear r1 r2 r4
      go_wp2_with fail
      refine (mread_any b9 A9 b9.length c9 w1 Hby1.out hc9 hm9).mono ?_
      rw [Hr1.out]
      intro e w10 hr10
      obtain ⟨A10, n10, c10, B10, m10, d10, rfl, hq10, hb10⟩ := hr10.open
      have Hbel10 := Lib.hid (Hbel1.out.trans (hb10.mono Hbel1.out.size))
      have Hbx10 := Lib.hid (Hbx1.out.below hb10)
      clear hr10 hb10
      obtain ⟨W11, hW11⟩ : ∃ X, X = w10.alloc (.cells #[str p.type, str p.cs, str p.id, str p.loc, .int .i64 p.how, .slice A10 n10 c10, .slice B10 m10 d10] 25) := ⟨_, rfl⟩
      obtain ⟨bx11, bl11⟩ := PBox.new hq10
      rw [← hW11] at bx11 bl11
      have HW11 := Lib.hid hW11
      have Hbel11 := Lib.hid (Hbel10.out.trans (bl11.mono Hbel10.out.size))
      have Hbx11 := Lib.hid (Hbx10.out.below bl11)
      have Hbr11 := Lib.hid bx11
      clear hW11 hq10
      go_upto_region 9 with fail
      rw [← HW11.out]
      have ⟨⟨x0, x1, x2, x3, x4, x5, x6⟩, xf⟩ := bx11.2.1
      have by_ := Hbx11.out
      have ⟨⟨y0, y1, y2, y3, y4, y5, y6⟩, yf⟩ := by_.2.1
      clear bx11 bl11 by_
      go_wp2_with fail
      have hsm := Same_any (flatD p).length p p _ _ W11 (Nat.le_refl _) Hbx11.out.2.2 Hbr11.out.2.2
      rw [sameD_refl] at hsm
      refine hsm.mono ?_
      rintro e w14 ⟨rfl, hb14⟩
      have Hbel14 := Lib.hid (Hbel11.out.trans (hb14.mono Hbel11.out.size))
      clear hsm hb14
      go_wp2_with fail
      go_ret
      exact ⟨rfl, Hbel14.out⟩
    · have d2 : ((e9 : Int) != 0) = true := by simp; omega
      clear he9
      go_wp2_with fail
      refine (bundled_any w1 (HM.out.below Hbel1.out) (HP.out.below Hbel1.out)).mono ?_
      rintro e w3 ⟨rfl, hb3⟩
      have Hbel3 := Lib.hid (Hbel1.out.trans (hb3.mono Hbel1.out.size))
      clear hb3
      go_wp2_with fail
      go_ret
      exact ⟨rfl, Hbel3.out⟩
  | true =>
    have hcx := Hbx.out.below (HW2b.out)
    have hcy := Hby.out.below (HW2b.out)
    obtain ⟨x0, x1, x2, x3, x4, x5, x6⟩ := hcx
    obtain ⟨y0, y1, y2, y3, y4, y5, y6⟩ := hcy
    have hb3 := Hb2.out
    obtain ⟨p1, hp1⟩ : ∃ p, p = manyT [109, 117, 108, 116, 105, 112, 97, 114, 116, 47, 120] [X, Y] := ⟨_, rfl⟩
    rw [← hp1] at hb3
    have hbo : ∀ o : Obj, BoxF (W2.alloc o) (w.heap.size + 1 + 1 + 1) (str p1.type) (str p1.cs) (str p1.id) (str p1.loc) (.int .i64 p1.how) (.slice none 0 0) (.slice (some ⟨w.heap.size + 1 + 1, 0, none⟩) 2 2) := fun o => hb3.2.1.below ((Below.refl W2.heap.size W2).alloc (Nat.le_refl _) o) hb3.1
    have Hbo := Lib.hid hbo
    have ⟨⟨q0, q1, q2, q3, q4, q5, q6⟩, _⟩ := hb3.2.1
    have z0 := fun o => (hbo o).1.1
    have z1 := fun o => (hbo o).1.2.1
    have z2 := fun o => (hbo o).1.2.2.1
    have z3 := fun o => (hbo o).1.2.2.2.1
    have z4 := fun o => (hbo o).1.2.2.2.2.1
    have z5 := fun o => (hbo o).1.2.2.2.2.2.1
    have z6 := fun o => (hbo o).1.2.2.2.2.2.2
    have f0 := fun o => (hbo o).2 0
    have f1 := fun o => (hbo o).2 1
    have f2 := fun o => (hbo o).2 2
    have f3 := fun o => (hbo o).2 3
    have f4 := fun o => (hbo o).2 4
    have f5 := fun o => (hbo o).2 5
    have f6 := fun o => (hbo o).2 6
    have Hb3 := Lib.hid hb3
    have Hp1 := Lib.hid hp1
    clear hbo hb3 hp1
    go_enter Tryz.func13, Tryz.ntmps13
    go_upto_region 4 with fail
    generalize hWg : ((((w.alloc _).alloc _).alloc _).alloc _ : World) = W0
    obtain rfl : W2 = W0 := by rw [← hWg, HW2.out, HW1.out]; rfl
    clear hWg
    clear x0 x1 x2 x3 x4 x5 x6 y0 y1 y2 y3 y4 y5 y6 q0 q1 q2 q3 q4 q5 q6
    have hcx := Hbx.out.below (HW2b.out)
    have hcy := Hby.out.below (HW2b.out)
    obtain ⟨x0, x1, x2, x3, x4, x5, x6⟩ := hcx
    obtain ⟨y0, y1, y2, y3, y4, y5, y6⟩ := hcy
    have ⟨⟨q0, q1, q2, q3, q4, q5, q6⟩, _⟩ := Hb3.out.2.1
    go_upto_region 5 with fail
    obtain ⟨rows, hrows⟩ : ∃ rows : List (List Value), rows = [cellT [116, 101, 120, 116, 47, 120] A n c none 0 0, [str p1.type, str p1.cs, str p1.id, str p1.loc, .int .i64 p1.how, .slice none 0 0, .slice (some ⟨w.heap.size + 1 + 1, 0, none⟩) 2 2], cellT [116, 101, 120, 116, 47, 120] B m d none 0 0] := ⟨_, rfl⟩
    obtain ⟨W3, hW3⟩ : ∃ X, X = W2.alloc (.cells rows.flatten.toArray 25) := ⟨_, rfl⟩
    obtain ⟨W4, hW4⟩ : ∃ X, X = set7 W3 (w.heap.size + 1 + 1 + 1) (str [109, 117, 108, 116, 105, 112, 97, 114, 116, 47, 121]) (str []) (str []) (str []) (.int .i64 0) (.slice none 0 0) (.slice (some ⟨W2.heap.size, 0, none⟩) 3 3) := ⟨_, rfl⟩
    generalize hWg : ((((((((W2.alloc _).setCell _ _).setCell _ _).setCell _ _).setCell _ _).setCell _ _).setCell _ _).setCell _ _ : World) = W0
    obtain rfl : W0 = W4 := by rw [← hWg, hW4, hW3, hrows]; rfl
    clear hWg
    clear x0 x1 x2 x3 x4 x5 x6 y0 y1 y2 y3 y4 y5 y6 q0 q1 q2 q3 q4 q5 q6 z0 z1 z2 z3 z4 z5 z6 f0 f1 f2 f3 f4 f5 f6
    have hbF := Hbo.out (.cells rows.flatten.toArray 25)
    rw [← hW3] at hbF
    have hbG := set7_box hbF (str [109, 117, 108, 116, 105, 112, 97, 114, 116, 47, 121]) (str []) (str []) (str []) (.int .i64 0) (.slice none 0 0) (.slice (some ⟨W2.heap.size, 0, none⟩) 3 3)
    have hsb : SameBut (w.heap.size + 1 + 1 + 1) W3 W0 := by rw [hW4]; exact set7_block _ _ _ _ _ _ _ _ _
    rw [← hW4] at hbG
    have hb13 : Below W1.heap.size W1 W3 := by rw [hW3]; exact HW2b.out.alloc HW2b.out.size _
    have h2s : W2.heap.size = w.heap.size + 1 + 1 + 1 + 1 := by rw [HW2.out]; simp; exact Hsz.out
    have h3s : W3.heap.size = W2.heap.size + 1 := by rw [hW3]; simp
    have h1s : W1.heap.size = w.heap.size + 3 := Hsz.out
    have hrow := sl_block (n := 3) (size := 7) rows.flatten (by rw [hW3]; exact heap_alloc_new W2 _ : W3.heap[W2.heap.size]? = _) (by rw [hrows]; rfl)
    have hrowS : SlS (fun b => b < W1.heap.size ∨ b = W2.heap.size) W3 7 (some ⟨W2.heap.size, 0, none⟩) 3 rows.flatten := by
      refine ⟨hrow.1, fun h => ?_⟩
      obtain ⟨b, off, e, _, hc⟩ := hrow.2 h
      refine ⟨b, off, e, .inr ?_, hc⟩
      injection e with e
      injection e with e
      exact e.symm
    have cx := PartAt.change (S' := fun b => b < W1.heap.size ∨ b = W2.heap.size) (w' := W3) (fun b hb => .inl hb) (fun q hq => hb13.cell hq) _ _ Hpx.out
    have cy := PartAt.change (S' := fun b => b < W1.heap.size ∨ b = W2.heap.size) (w' := W3) (fun b hb => .inl hb) (fun q hq => hb13.cell hq) _ _ Hpy.out
    have cz := PartAt.change (S' := fun b => b < W1.heap.size ∨ b = W2.heap.size) (w' := W3) (fun b hb => .inl hb) (fun q hq => hb13.cell hq) _ _ Hpz.out
    have cz1 : PartAt (fun b => b < W1.heap.size ∨ b = W2.heap.size) W3 p1 [str p1.type, str p1.cs, str p1.id, str p1.loc, .int .i64 p1.how, .slice none 0 0, .slice (some ⟨w.heap.size + 1 + 1, 0, none⟩) 2 2] := by rw [Hp1.out]; exact cz
    have cq : PartAt (fun b => b < W1.heap.size ∨ b = W2.heap.size) W3 (manyT [109, 117, 108, 116, 105, 112, 97, 114, 116, 47, 121] [X, p1, Y]) (cellT [109, 117, 108, 116, 105, 112, 97, 114, 116, 47, 121] none 0 0 (some ⟨W2.heap.size, 0, none⟩) 3 3) :=
      manyT_at hrowS (by rw [hrows]; exact ⟨_, _, rfl, cx, _, _, rfl, cz1, _, _, rfl, cy, rfl⟩) (by unfold maxLen; omega) (by decide)
    have hq4 := PartAt.change (S' := (· < W0.heap.size)) (w' := W0) (fun b hb => by rw [hsb.size]; rcases hb with hb | hb <;> omega) (fun q hq => World.cell?_of_block (hsb.block _ (by rcases hq with hq | hq <;> omega))) _ _ cq
    have hbel0 : Below w.heap.size w W0 := by
      have h1 := Hbl.out.trans (hb13.mono Hbl.out.size)
      exact ⟨hsb.os.trans h1.os, hsb.tape.trans h1.tape, hsb.output.trans h1.output, by rw [hsb.size]; exact h1.size, fun j hj => (hsb.block j (by omega)).trans (h1.block j hj)⟩
    have hbx0 : PBox W0 (w.heap.size + 1 + 1 + 1) (manyT [109, 117, 108, 116, 105, 112, 97, 114, 116, 47, 121] [X, p1, Y]) none 0 0 (some ⟨W2.heap.size, 0, none⟩) 3 3 := ⟨by rw [hsb.size]; omega, hbG, hq4⟩
    obtain ⟨p, hp⟩ : ∃ p, p = manyT [109, 117, 108, 116, 105, 112, 97, 114, 116, 47, 121] [X, p1, Y] := ⟨_, rfl⟩
    rw [← hp] at hbx0
    obtain ⟨g0, hg0⟩ : ∃ g0, g0 = W2.heap.size := ⟨_, rfl⟩
    rw [← hg0] at hbx0 ⊢
    have Hbx0 := Lib.hid hbx0
    have Hbel0 := Lib.hid hbel0
    clear hbx0 hbel0 hq4 cq cz1 cx cy cz hrowS hrow h1s h2s h3s hb13 hsb hbG hbF hW4 hW3 hrows hp hg0 Hb3 Hp1 Hbo Hbx Hby Hpx Hpy Hpz Hbox HW1 HW2 hbel2 Hb2 HW2b
    have bx := Hbx0.out
    have ⟨⟨x0, x1, x2, x3, x4, x5, x6⟩, xf⟩ := bx.2.1
    clear bx
    go_wp2_with fail
    refine (MWrite_any p _ W0 Hbx0.out.2.2 (HM.out.below Hbel0.out) (HP.out.below Hbel0.out)).mono ?_
    obtain ⟨b9, e9, hw9⟩ : ∃ b9 e9, writeM p = (b9, e9) := ⟨_, _, rfl⟩
    rw [hw9]
    rintro e w9 ⟨A9, c9, rfl, hby9, hc9, hm9, hb9⟩
    have Hbel9 := Lib.hid (Hbel0.out.trans (hb9.mono Hbel0.out.size))
    have Hbx9 := Lib.hid (Hbx0.out.below hb9)
    have Hw9 := Lib.hid hw9
    simp only at hc9 hby9 ⊢
    have Hby9 := Lib.hid hby9
    clear hb9 hw9 hby9
    clear x0 x1 x2 x3 x4 x5 x6 xf
    go_wp2_with fail
    refine (bundled_any w9 (HM.out.below Hbel9.out) (HP.out.below Hbel9.out)).mono ?_
    rintro e w1 ⟨rfl, hb1⟩
    have Hbel1 := Lib.hid (Hbel9.out.trans (hb1.mono Hbel9.out.size))
    have Hbx1 := Lib.hid (Hbx9.out.below hb1)
    have Hby1 := Lib.hid ((Hby9.out.below hb1).more hb1.size)
    clear hb1
    by_cases he9 : e9 = 0
    · subst he9
      obtain ⟨r1, r2, r3, r4⟩ := write_ok Hw9.out
      have Hr1 := Lib.hid r1
      clear r1 r2 r4
      go_wp2_with fail
      refine (mread_any b9 A9 b9.length c9 w1 Hby1.out hc9 hm9).mono ?_
      rw [Hr1.out]
      intro e w10 hr10
      obtain ⟨A10, n10, c10, B10, m10, d10, rfl, hq10, hb10⟩ := hr10.open
      have Hbel10 := Lib.hid (Hbel1.out.trans (hb10.mono Hbel1.out.size))
      have Hbx10 := Lib.hid (Hbx1.out.below hb10)
      clear hr10 hb10
      obtain ⟨W11, hW11⟩ : ∃ X, X = w10.alloc (.cells #[str p.type, str p.cs, str p.id, str p.loc, .int .i64 p.how, .slice A10 n10 c10, .slice B10 m10 d10] 25) := ⟨_, rfl⟩
      obtain ⟨bx11, bl11⟩ := PBox.new hq10
      rw [← hW11] at bx11 bl11
      have HW11 := Lib.hid hW11
      have Hbel11 := Lib.hid (Hbel10.out.trans (bl11.mono Hbel10.out.size))
      have Hbx11 := Lib.hid (Hbx10.out.below bl11)
      have Hbr11 := Lib.hid bx11
      clear hW11 hq10
      go_upto_region 9 with fail
      rw [← HW11.out]
      have ⟨⟨x0, x1, x2, x3, x4, x5, x6⟩, xf⟩ := bx11.2.1
      have by_ := Hbx11.out
      have ⟨⟨y0, y1, y2, y3, y4, y5, y6⟩, yf⟩ := by_.2.1
      clear bx11 bl11 by_
      go_wp2_with fail
      have hsm := Same_any (flatD p).length p p _ _ W11 (Nat.le_refl _) Hbx11.out.2.2 Hbr11.out.2.2
      rw [sameD_refl] at hsm
      refine hsm.mono ?_
      rintro e w14 ⟨rfl, hb14⟩
      have Hbel14 := Lib.hid (Hbel11.out.trans (hb14.mono Hbel11.out.size))
      clear hsm hb14
      go_wp2_with fail
      go_ret
      exact ⟨rfl, Hbel14.out⟩
    · have d2 : ((e9 : Int) != 0) = true := by simp; omega
      clear he9
      go_wp2_with fail
      refine (bundled_any w1 (HM.out.below Hbel1.out) (HP.out.below Hbel1.out)).mono ?_
      rintro e w3 ⟨rfl, hb3⟩
      have Hbel3 := Lib.hid (Hbel1.out.trans (hb3.mono Hbel1.out.size))
      clear hb3
      go_wp2_with fail
      go_ret
      exact ⟨rfl, Hbel3.out⟩
end Go.Proofs.YtlbdnohnngkapaaGreatDoor

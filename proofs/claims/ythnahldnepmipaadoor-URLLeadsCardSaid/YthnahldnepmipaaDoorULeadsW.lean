import Derived.Test.YthnahldnepmipaaDoorUEq
namespace Go.Proofs.YthnahldnepmipaaDoor
open Go.RowKit

set_option maxHeartbeats 400000 in
theorem isDot_any (x : List UInt8) (h : isDot x = false) (w : World) : Calls Tryd.prog 33 #[str x] w fun e w' => e = .returned (.bool false) ∧ w = w' := by
  unfold isDot at h
  rw [Bool.or_eq_false_iff] at h
  obtain ⟨h1, h2⟩ := h
  go_enter Tryd.func33, Tryd.ntmps33
  go_wp2_with fail
  go_ret
  exact ⟨rfl, rfl⟩
set_option maxHeartbeats 400000 in
theorem indexFunc_dot (A : Option Addr) (n c B : Nat) (L : List (List UInt8)) (w : World) (hS : Sl w B 1 A n (L.map str)) (hm : n ≤ 4000000) (hL : ∀ x ∈ L, isDot x = false) :
    Calls Tryd.prog 82 #[.slice A n c, .func (.func 33) #[] #[]] w fun e w' => e = .returned (.int .i64 (-1)) ∧ w = w' := by
  go_enter Tryd.func82, Tryd.ntmps82
  go_wp2_with fail
  go_loopw [8] (fun iv wr => ∃ k : Nat, k ≤ n ∧ iv = .int .i64 k ∧ wr = w) (fun iv _ => n - (intOf iv).toNat)
  case atStart => exact ⟨0, by omega, rfl, rfl⟩
  case round =>
    obtain ⟨k, hk, rfl, rfl⟩ := hrel
    by_cases hkn : k < n
    · obtain ⟨b, off, u, rfl, _, hu, hc⟩ := hS.at_ hkn
      obtain ⟨x, hx, hxu⟩ : ∃ x ∈ L, str x = u := by
        rw [List.getElem?_map, Option.map_eq_some_iff] at hu
        obtain ⟨x, hx, hxu⟩ := hu
        exact ⟨x, List.mem_of_getElem? hx, hxu⟩
      subst hxu
      have hd := isDot_any x (hL x hx)
      have Hd := Lib.hid hd
      clear hu hd
      go_wp2_with fail
      refine (Hd.out _).mono ?_
      rintro e w1 ⟨rfl, rfl⟩
      go_wp2_with fail
      exact ⟨⟨k + 1, by omega, by go_num, trivial⟩, by simp [intOf]; omega⟩
    · go_wp2_with fail
      go_ret
      exact ⟨rfl, rfl⟩
set_option maxHeartbeats 400000 in
theorem containsFunc_dot (A : Option Addr) (n c B : Nat) (L : List (List UInt8)) (w : World) (hS : Sl w B 1 A n (L.map str)) (hm : n ≤ 4000000) (hL : ∀ x ∈ L, isDot x = false) :
    Calls Tryd.prog 31 #[.slice A n c, .func (.func 33) #[] #[]] w fun e w' => e = .returned (.bool false) ∧ w = w' := by
  go_enter Tryd.func31, Tryd.ntmps31
  go_wp2_with fail
  refine (indexFunc_dot A n c B L _ hS hm hL).mono ?_
  rintro e w1 ⟨rfl, rfl⟩
  go_wp2_with fail
  go_ret
  exact ⟨rfl, rfl⟩
attribute [local go_sem high] eql_url neq_url
set_option maxRecDepth 100000 in
set_option maxHeartbeats 4000000 in
theorem URLLeads_walk (b u c : UrlD) (w : World) (hM : MaxLenOk w) :
    Calls Tryd.prog 4 #[b.val, u.val, c.val] w (LawU w) := by
  rcases h1 : leadU b u with ⟨x, ex⟩
  have k1 := fun W (h : MaxLenOk W) => Lead_parts b u W h
  rw [h1] at k1
  simp only [UrlD.val] at k1
  have K1 := Lib.hid k1
  have H1 := Lib.hid h1
  have HM := Lib.hid hM
  have KA := Lib.hid (fun X (h : MaxLenOk X) => addressed_any X h)
  clear k1 h1 hM
  rw [val_eq, val_eq, val_eq]
  obtain ⟨wA, hwA⟩ : ∃ W, W = w.alloc (.cells #[str b.scheme, .bool b.hasHost, str b.host, str b.path, .bool b.hasQuery, str b.query, .bool b.hasFrag, str b.frag] 42) := ⟨_, rfl⟩
  obtain ⟨wB, hwB⟩ : ∃ W, W = wA.alloc (.cells #[str u.scheme, .bool u.hasHost, str u.host, str u.path, .bool u.hasQuery, str u.query, .bool u.hasFrag, str u.frag] 42) := ⟨_, rfl⟩
  obtain ⟨W, hW⟩ : ∃ W, W = wB.alloc (.cells #[str c.scheme, .bool c.hasHost, str c.host, str c.path, .bool c.hasQuery, str c.query, .bool c.hasFrag, str c.frag] 42) := ⟨_, rfl⟩
  have hb1 : Below w.heap.size w wA := by rw [hwA]; exact (Below.refl _ w).alloc (Nat.le_refl _) _
  have hb2 : Below wA.heap.size wA wB := by rw [hwB]; exact (Below.refl _ wA).alloc (Nat.le_refl _) _
  have hb3 : Below wB.heap.size wB W := by rw [hW]; exact (Below.refl _ wB).alloc (Nat.le_refl _) _
  have s1 : wA.heap.size = w.heap.size + 1 := by rw [hwA]; simp
  have s2 : wB.heap.size = w.heap.size + 1 + 1 := by rw [hwB]; simp [s1]
  have hbb : UB W w.heap.size b := by
    have : UB wA w.heap.size b := by rw [hwA]; exact UB.new w b
    exact (this.below hb2).below hb3
  have hbu : UB W (w.heap.size + 1) u := by
    have : UB wB wA.heap.size u := by rw [hwB]; exact UB.new wA u
    rw [s1] at this
    exact this.below hb3
  have hbc : UB W (w.heap.size + 1 + 1) c := by
    have : UB W wB.heap.size c := by rw [hW]; exact UB.new wB c
    rw [s2] at this
    exact this
  have hbW : Below w.heap.size w W := (hb1.trans (hb2.mono hb1.size)).trans (hb3.mono (by omega))
  have hWW : W = ((w.alloc (.cells #[str b.scheme, .bool b.hasHost, str b.host, str b.path, .bool b.hasQuery, str b.query, .bool b.hasFrag, str b.frag] 42)).alloc (.cells #[str u.scheme, .bool u.hasHost, str u.host, str u.path, .bool u.hasQuery, str u.query, .bool u.hasFrag, str u.frag] 42)).alloc (.cells #[str c.scheme, .bool c.hasHost, str c.host, str c.path, .bool c.hasQuery, str c.query, .bool c.hasFrag, str c.frag] 42) := by rw [hW, hwB, hwA]
  clear hb1 hb2 hb3 s1 s2 hW hwA hwB
  go_enter Tryd.func4, Tryd.ntmps4
  go_wp2_with fail
  rw [← hWW]
  clear hWW
  refine (K1.out _ (HM.out.below hbW)).mono ?_
  rintro e w1 ⟨rfl, hb1⟩
  have hbel1 := hbW.trans (hb1.mono hbW.size)
  have hbu1 := hbu.below hb1
  have hbc1 := hbc.below hb1
  clear hb1 hbb hbu hbc hbW
  go_wp2_with fail
  generalize hW2 : World.alloc w1 _ = W2
  have hb2 : Below w1.heap.size w1 W2 := by rw [← hW2]; exact (Below.refl _ w1).alloc (Nat.le_refl _) _
  have hbx2 : UB W2 w1.heap.size x := by rw [← hW2]; exact UB.new w1 x
  clear hW2
  have hbel2 := hbel1.trans (hb2.mono hbel1.size)
  have hbu2 := hbu1.below hb2
  have hbc2 := hbc1.below hb2
  refine (KA.out _ (HM.out.below hbel2)).mono ?_
  rintro e w3 ⟨rfl, hb3⟩
  have hbel3 := hbel2.trans (hb3.mono hbel2.size)
  have hbu3 := hbu2.below hb3
  have hbc3 := hbc2.below hb3
  have hbx3 := hbx2.below hb3
  clear hb3 hbu1 hbc1 hbu2 hbc2 hbx2 hb2 hbel2
  by_cases he : ex = 0
  · have e1 : ((ex : Int) != 0) = false := by simp [he]
    have H1' := Lib.hid (H1.out.trans (by rw [he]) : leadU b u = (x, 0))
    clear he H1
    have H1 := H1'
    clear H1'
    obtain ⟨p1, p2, p3, p4, p5⟩ := lead_parts H1.out
    have hxs : x.scheme ≠ [] := by rw [p4, (undot_path _).2.1]; exact (led_scheme p3).1
    have hxf : x.hasFrag = u.hasFrag ∧ x.frag = u.frag := by rw [p4, (undot_path _).2.2.1, (undot_path _).2.2.2]; exact (led_scheme p3).2
    have Hxf := Lib.hid hxf
    have hfree : Lib.hasPrefix x.path [47] = true → ∀ s ∈ splitC 47 x.path, isDot s = false := by
      intro h
      rw [p4] at h ⊢
      exact undot_free h
    have Hfree := Lib.hid hfree
    clear hxf hfree
    have hpl := (check_text p5).2.2.1
    rcases h2 : leadU c x with ⟨y, ey⟩
    have k2 := fun W (h : MaxLenOk W) => Lead_parts c x W h
    rw [h2] at k2
    have k3 := fun W (h : MaxLenOk W) => Lead_parts x zeroU W h
    rw [lead_none H1.out] at k3
    simp only [UrlD.val, noFrag, zeroU] at k2 k3
    have K2 := Lib.hid k2
    have K3 := Lib.hid k3
    have H2 := Lib.hid h2
    have kX := fun X => Check_parts x.scheme x.host x.path x.query x.frag x.hasHost x.hasQuery x.hasFrag X
    have exx : (⟨x.scheme, x.hasHost, x.host, x.path, x.hasQuery, x.query, x.hasFrag, x.frag⟩ : UrlD) = x := rfl
    rw [exx, p5] at kX
    have KX := Lib.hid kX
    have exs : (x.scheme == []) = false := by simpa using hxs
    clear p1 p2 p3 p4 p5 hxs k2 k3 kX h2 exx K1
    obtain ⟨x0, x1, x2, x3, x4, x5, x6, x7⟩ := hbx3.box
    go_wp2_with fail
    clear x0 x1 x2 x3 x4 x5 x6 x7
    refine (KX.out _).mono ?_
    rintro e w4 ⟨rfl, hb4⟩
    have hbel4 := hbel3.trans (hb4.mono hbel3.size)
    have hbu4 := hbu3.below hb4
    have hbc4 := hbc3.below hb4
    have hbx4 := hbx3.below hb4
    clear hb4 hbu3 hbc3 hbx3 hbel3
    obtain ⟨x0, x1, x2, x3, x4, x5, x6, x7⟩ := hbx4.box
    obtain ⟨u0, u1, u2, u3, u4, u5, u6, u7⟩ := hbu4.box
    rw [← Hxf.out.1] at u6
    rw [← Hxf.out.2] at u7
    clear u0 u1 u2 u3 u4 u5 Hxf hbu4
    have kP := fun X => HasPrefix_any x.path [47] X
    cases hpp : Lib.hasPrefix x.path [47]
    case' false =>
      rw [hpp] at kP
      have KP := Lib.hid kP
      clear kP hpp Hfree
      go_wp2_with fail
      refine (KP.out _).mono ?_
      rintro e wP ⟨rfl, rfl⟩
      clear u6 u7
      obtain ⟨c0, c1, c2, c3, c4, c5, c6, c7⟩ := hbc4.box
      go_wp2_with fail
      clear KP exs x0 x1 x2 x3 x4 x5 x6 x7 c0 c1 c2 c3 c4 c5 c6 c7 hpl
      have hbel5 := hbel4
      have hbx5 := hbx4
      have hbc5 := hbc4
      clear hbx4 hbc4 hbel4
    case' true =>
      rw [hpp] at kP
      have KP := Lib.hid kP
      have hS := Split_one x.path w4 (HM.out.below hbel4) (by omega)
      have hdl := Hfree.out hpp
      have hln := splitC_len 47 x.path
      generalize splitC 47 x.path = L at hS hdl hln
      have hCF := fun X (hx : Sl X (w4.heap.size + 1) 1 (some ⟨w4.heap.size, 0, none⟩) L.length (L.map str)) => containsFunc_dot (some ⟨w4.heap.size, 0, none⟩) L.length L.length (w4.heap.size + 1) L X hx (by omega) hdl
      have HCF := Lib.hid (hCF _ (Sl.row w4 9 1 L.length (L.map str) (by simp)))
      have HS := Lib.hid hS
      clear kP hpp Hfree hS hdl hCF
      go_wp2_with fail
      refine (KP.out _).mono ?_
      rintro e wP ⟨rfl, rfl⟩
      go_wp2_with fail
      refine HS.out.mono ?_
      rintro e wS ⟨rfl, hwS⟩
      have hbS : Below w4.heap.size w4 wS := by rw [hwS]; exact (Below.refl _ w4).alloc (Nat.le_refl _) _
      rw [← hwS] at HCF
      clear hwS
      have hbel5 := hbel4.trans (hbS.mono hbel4.size)
      have hbx5 := hbx4.below hbS
      have hbc5 := hbc4.below hbS
      clear u6 u7 x0 x1 x2 x3 x4 x5 x6 x7 hbS hbx4 hbc4 hbel4
      go_wp2_with fail
      refine HCF.out.mono ?_
      rintro e wT ⟨rfl, rfl⟩
      obtain ⟨c0, c1, c2, c3, c4, c5, c6, c7⟩ := hbc5.box
      obtain ⟨x0, x1, x2, x3, x4, x5, x6, x7⟩ := hbx5.box
      go_wp2_with fail
      clear KP exs x0 x1 x2 x3 x4 x5 x6 x7 c0 c1 c2 c3 c4 c5 c6 c7 hpl hln HS HCF
    all_goals
      refine (K2.out _ (HM.out.below hbel5)).mono ?_
      rintro e w6 ⟨rfl, hb6⟩
      have hbel6 := hbel5.trans (hb6.mono hbel5.size)
      have hbx6 := hbx5.below hb6
      have hbc6 := hbc5.below hb6
      clear hb6 hbx5 hbc5 hbel5
      obtain ⟨c0, c1, c2, c3, c4, c5, c6, c7⟩ := (hbc6.below ((Below.refl _ w6).alloc (Nat.le_refl _) (.cells #[str y.scheme, .bool y.hasHost, str y.host, str y.path, .bool y.hasQuery, str y.query, .bool y.hasFrag, str y.frag] 42))).box
      go_wp2_with fail
      generalize hW7 : World.alloc w6 _ = W7 at c0 c1 c2 c3 c4 c5 c6 c7 ⊢
      have hb7 : Below w6.heap.size w6 W7 := by rw [← hW7]; exact (Below.refl _ w6).alloc (Nat.le_refl _) _
      have hby7 : UB W7 w6.heap.size y := by rw [← hW7]; exact UB.new w6 y
      clear hW7
      have hbel7 := hbel6.trans (hb7.mono hbel6.size)
      have hbx7 := hbx6.below hb7
      have hbc7 := hbc6.below hb7
      clear hb7 hbx6 hbc6
      have KC := Lib.hid (fun X => Check_parts c.scheme c.host c.path c.query c.frag c.hasHost c.hasQuery c.hasFrag X)
      have ec : (⟨c.scheme, c.hasHost, c.host, c.path, c.hasQuery, c.query, c.hasFrag, c.frag⟩ : UrlD) = c := rfl
      rw [ec] at KC
      clear ec
      by_cases hcc : checkU c = 0
      · rw [hcc] at KC
        by_cases hcs : c.scheme = []
        · skip
          have ecs : (c.scheme == []) = true := by rw [hcs]; rfl
          clear hcc hcs
          refine (KC.out _).mono ?_
          rintro e wY ⟨rfl, hbY⟩
          have hbelY := hbel7.trans (hbY.mono hbel7.size)
          have hbxY := hbx7.below hbY
          obtain ⟨c0, c1, c2, c3, c4, c5, c6, c7⟩ := (hbc7.below hbY).box
          obtain ⟨x0, x1, x2, x3, x4, x5, x6, x7⟩ := hbxY.box
          clear hbY hbel7 hbx7 hbc7 hby7
          go_wp2_with fail
          clear ecs
          clear c0 c1 c2 c3 c4 c5 c6 c7 x0 x1 x2 x3 x4 x5 x6 x7
          refine (K3.out _ (HM.out.below hbelY)).mono ?_
          rintro e w8 ⟨rfl, hb8⟩
          have hbel8 := hbelY.trans (hb8.mono hbelY.size)
          have hbx8 := hbxY.below hb8
          clear hb8
          go_upto_region 12 with fail
          have hltx := hbx8.lt
          have hne : w1.heap.size ≠ w8.heap.size := by omega
          have hbw1 : w.heap.size ≤ w1.heap.size := hbel1.size
          generalize hW9 : World.alloc w8 _ = W9
          have hb9 : Below w8.heap.size w8 W9 := by rw [← hW9]; exact (Below.refl _ w8).alloc (Nat.le_refl _) _
          have hy9 : UB W9 w8.heap.size { x with hasFrag := false, frag := [] } := by rw [← hW9]; exact UB.new w8 { x with hasFrag := false, frag := [] }
          clear hW9
          have hbel9 := hbel8.trans (hb9.mono hbel8.size)
          have hx9 := hbx8.below hb9
          have f6 := hx9.fz 6
          have c6 := hx9.box.2.2.2.2.2.2.1
          have f7 := (hx9.s6 false).fz 7
          have c7 := (hx9.s6 false).box.2.2.2.2.2.2.2
          have HX := Lib.hid ((hx9.s6 false).s7 [])
          have HY := Lib.hid ((hy9.other (k := 6) hne (.bool false)).other (k := 7) hne (str []))
          have HB := Lib.hid ((hbel9.setCell (p := ⟨w1.heap.size, 6, none⟩) hbw1 (.bool false)).setCell (p := ⟨w1.heap.size, 7, none⟩) hbw1 (str []))
          clear hx9 hy9 hbel9 hb9 hbx8 hbel8 hbw1 hltx
          go_upto_region 13 with fail
          clear f6 c6 f7 c7
          generalize hW10 : World.setCell _ _ _ = W10
          have hx10 : UB W10 w1.heap.size { x with hasFrag := false, frag := [] } := by rw [← hW10]; exact HX.out
          have hy10 : UB W10 w8.heap.size { x with hasFrag := false, frag := [] } := by rw [← hW10]; exact HY.out
          have hB10 : Below w.heap.size w W10 := by rw [← hW10]; exact HB.out
          clear hW10 HX HY HB
          obtain ⟨x0, x1, x2, x3, x4, x5, x6, x7⟩ := hx10.box
          obtain ⟨y0, y1, y2, y3, y4, y5, y6, y7⟩ := hy10.box
          go_wp2_with fail
          go_ret
          exact ⟨rfl, hB10⟩
        · skip
          have ecs : (c.scheme == []) = false := by simpa using hcs
          have hyx := H2.out.symm.trans (lead_self H1.out hcc hcs)
          injection hyx with hy1 hy2
          have hy3 := hy1.symm
          have hy4 := hy2.symm
          clear hy1 hy2
          subst hy3
          subst hy4
          clear hcc hcs
          refine (KC.out _).mono ?_
          rintro e wY ⟨rfl, hbY⟩
          have hbelY := hbel7.trans (hbY.mono hbel7.size)
          have hbxY := hbx7.below hbY
          obtain ⟨c0, c1, c2, c3, c4, c5, c6, c7⟩ := (hbc7.below hbY).box
          obtain ⟨x0, x1, x2, x3, x4, x5, x6, x7⟩ := hbxY.box
          obtain ⟨y0, y1, y2, y3, y4, y5, y6, y7⟩ := (hby7.below hbY).box
          clear hbY hbel7 hbx7 hbc7 hby7
          go_wp2_with fail
          clear ecs y0 y1 y2 y3 y4 y5 y6 y7
          clear c0 c1 c2 c3 c4 c5 c6 c7 x0 x1 x2 x3 x4 x5 x6 x7
          refine (K3.out _ (HM.out.below hbelY)).mono ?_
          rintro e w8 ⟨rfl, hb8⟩
          have hbel8 := hbelY.trans (hb8.mono hbelY.size)
          have hbx8 := hbxY.below hb8
          clear hb8
          go_upto_region 12 with fail
          have hltx := hbx8.lt
          have hne : w1.heap.size ≠ w8.heap.size := by omega
          have hbw1 : w.heap.size ≤ w1.heap.size := hbel1.size
          generalize hW9 : World.alloc w8 _ = W9
          have hb9 : Below w8.heap.size w8 W9 := by rw [← hW9]; exact (Below.refl _ w8).alloc (Nat.le_refl _) _
          have hy9 : UB W9 w8.heap.size { x with hasFrag := false, frag := [] } := by rw [← hW9]; exact UB.new w8 { x with hasFrag := false, frag := [] }
          clear hW9
          have hbel9 := hbel8.trans (hb9.mono hbel8.size)
          have hx9 := hbx8.below hb9
          have f6 := hx9.fz 6
          have c6 := hx9.box.2.2.2.2.2.2.1
          have f7 := (hx9.s6 false).fz 7
          have c7 := (hx9.s6 false).box.2.2.2.2.2.2.2
          have HX := Lib.hid ((hx9.s6 false).s7 [])
          have HY := Lib.hid ((hy9.other (k := 6) hne (.bool false)).other (k := 7) hne (str []))
          have HB := Lib.hid ((hbel9.setCell (p := ⟨w1.heap.size, 6, none⟩) hbw1 (.bool false)).setCell (p := ⟨w1.heap.size, 7, none⟩) hbw1 (str []))
          clear hx9 hy9 hbel9 hb9 hbx8 hbel8 hbw1 hltx
          go_upto_region 13 with fail
          clear f6 c6 f7 c7
          generalize hW10 : World.setCell _ _ _ = W10
          have hx10 : UB W10 w1.heap.size { x with hasFrag := false, frag := [] } := by rw [← hW10]; exact HX.out
          have hy10 : UB W10 w8.heap.size { x with hasFrag := false, frag := [] } := by rw [← hW10]; exact HY.out
          have hB10 : Below w.heap.size w W10 := by rw [← hW10]; exact HB.out
          clear hW10 HX HY HB
          obtain ⟨x0, x1, x2, x3, x4, x5, x6, x7⟩ := hx10.box
          obtain ⟨y0, y1, y2, y3, y4, y5, y6, y7⟩ := hy10.box
          go_wp2_with fail
          go_ret
          exact ⟨rfl, hB10⟩
      · skip
        have ek : ((checkU c : Nat) : Int) ≠ 0 := by omega
        have ekk : (((checkU c : Nat) : Int) == 0) = false := by simpa using ek
        generalize checkU c = kc at KC ekk
        clear hcc ek
        refine (KC.out _).mono ?_
        rintro e wY ⟨rfl, hbY⟩
        have hbelY := hbel7.trans (hbY.mono hbel7.size)
        have hbxY := hbx7.below hbY
        obtain ⟨c0, c1, c2, c3, c4, c5, c6, c7⟩ := (hbc7.below hbY).box
        obtain ⟨x0, x1, x2, x3, x4, x5, x6, x7⟩ := hbxY.box
        clear hbY hbel7 hbx7 hbc7 hby7
        go_wp2_with fail
        clear ekk
        clear c0 c1 c2 c3 c4 c5 c6 c7 x0 x1 x2 x3 x4 x5 x6 x7
        refine (K3.out _ (HM.out.below hbelY)).mono ?_
        rintro e w8 ⟨rfl, hb8⟩
        have hbel8 := hbelY.trans (hb8.mono hbelY.size)
        have hbx8 := hbxY.below hb8
        clear hb8
        go_upto_region 12 with fail
        have hltx := hbx8.lt
        have hne : w1.heap.size ≠ w8.heap.size := by omega
        have hbw1 : w.heap.size ≤ w1.heap.size := hbel1.size
        generalize hW9 : World.alloc w8 _ = W9
        have hb9 : Below w8.heap.size w8 W9 := by rw [← hW9]; exact (Below.refl _ w8).alloc (Nat.le_refl _) _
        have hy9 : UB W9 w8.heap.size { x with hasFrag := false, frag := [] } := by rw [← hW9]; exact UB.new w8 { x with hasFrag := false, frag := [] }
        clear hW9
        have hbel9 := hbel8.trans (hb9.mono hbel8.size)
        have hx9 := hbx8.below hb9
        have f6 := hx9.fz 6
        have c6 := hx9.box.2.2.2.2.2.2.1
        have f7 := (hx9.s6 false).fz 7
        have c7 := (hx9.s6 false).box.2.2.2.2.2.2.2
        have HX := Lib.hid ((hx9.s6 false).s7 [])
        have HY := Lib.hid ((hy9.other (k := 6) hne (.bool false)).other (k := 7) hne (str []))
        have HB := Lib.hid ((hbel9.setCell (p := ⟨w1.heap.size, 6, none⟩) hbw1 (.bool false)).setCell (p := ⟨w1.heap.size, 7, none⟩) hbw1 (str []))
        clear hx9 hy9 hbel9 hb9 hbx8 hbel8 hbw1 hltx
        go_upto_region 13 with fail
        clear f6 c6 f7 c7
        generalize hW10 : World.setCell _ _ _ = W10
        have hx10 : UB W10 w1.heap.size { x with hasFrag := false, frag := [] } := by rw [← hW10]; exact HX.out
        have hy10 : UB W10 w8.heap.size { x with hasFrag := false, frag := [] } := by rw [← hW10]; exact HY.out
        have hB10 : Below w.heap.size w W10 := by rw [← hW10]; exact HB.out
        clear hW10 HX HY HB
        obtain ⟨x0, x1, x2, x3, x4, x5, x6, x7⟩ := hx10.box
        obtain ⟨y0, y1, y2, y3, y4, y5, y6, y7⟩ := hy10.box
        go_wp2_with fail
        go_ret
        exact ⟨rfl, hB10⟩
  · have e1 : ((ex : Int) != 0) = true := by simp; omega
    clear he
    go_wp2_with fail
    refine (KA.out _ (HM.out.below hbel3)).mono ?_
    rintro e w6 ⟨rfl, hb6⟩
    have hbel6 := hbel3.trans (hb6.mono hbel3.size)
    go_wp2_with fail
    go_ret
    exact ⟨rfl, hbel6⟩
end Go.Proofs.YthnahldnepmipaaDoor

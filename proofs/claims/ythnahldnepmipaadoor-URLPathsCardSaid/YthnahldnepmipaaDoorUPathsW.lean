import Derived.Test.YthnahldnepmipaaDoorUrl10
import Derived.Test.YthnahldnepmipaaDoorUEq
namespace Go.Proofs.YthnahldnepmipaaDoor
open Go.RowKit

attribute [local go_sem high] eql_url neq_url
set_option maxRecDepth 100000 in
set_option maxHeartbeats 4000000 in
theorem URLPaths_walk (b u : UrlD) (p : List UInt8) (w : World) (hM : MaxLenOk w) (hp : p.length ≤ 140737488355328) :
    Calls Tryd.prog 5 #[b.val, u.val, str p] w (LawU w) := by
  rcases h1 : leadU b u with ⟨x, ex⟩
  rcases h2 : leadU { b with path := 47 :: p, hasQuery := false, query := [] } u with ⟨y, ey⟩
  have k1 := fun W (h : MaxLenOk W) => Lead_parts b u W h
  have k2 := fun W (h : MaxLenOk W) => Lead_parts { b with path := 47 :: p, hasQuery := false, query := [] } u W h
  rw [h1] at k1
  rw [h2] at k2
  simp only [UrlD.val] at k1 k2
  have K1 := Lib.hid k1
  have K2 := Lib.hid k2
  have H1 := Lib.hid h1
  have H2 := Lib.hid h2
  have HM := Lib.hid hM
  clear k1 k2 h1 h2 hM
  rw [val_eq, val_eq]
  obtain ⟨W, hW⟩ : ∃ W, W = ((w.alloc (.cells #[str b.scheme, .bool b.hasHost, str b.host, str b.path, .bool b.hasQuery, str b.query, .bool b.hasFrag, str b.frag] 42)).alloc (.cells #[str u.scheme, .bool u.hasHost, str u.host, str u.path, .bool u.hasQuery, str u.query, .bool u.hasFrag, str u.frag] 42)) := ⟨_, rfl⟩
  have hbW : Below w.heap.size w W := by rw [hW]; exact ((Below.refl _ w).alloc (Nat.le_refl _) _).alloc (by simp) _
  have hbb : UB W w.heap.size b := by rw [hW]; exact (UB.new w b).below ((Below.refl _ _).alloc (Nat.le_refl _) _)
  have hbu : UB W (w.heap.size + 1) u := by
    rw [hW]
    have := UB.new (w.alloc (.cells #[str b.scheme, .bool b.hasHost, str b.host, str b.path, .bool b.hasQuery, str b.query, .bool b.hasFrag, str b.frag] 42)) u
    rw [show (w.alloc (.cells #[str b.scheme, .bool b.hasHost, str b.host, str b.path, .bool b.hasQuery, str b.query, .bool b.hasFrag, str b.frag] 42)).heap.size = w.heap.size + 1 by simp] at this
    exact this
  have hp1 : 1 + p.length ≤ 9223372036854775807 := by omega
  go_enter Tryd.func5, Tryd.ntmps5
  go_wp2_with fail
  rw [← hW]
  clear hW
  refine (K1.out _ (HM.out.below hbW)).mono ?_
  rintro e w1 ⟨rfl, hb1⟩
  have hbel1 := hbW.trans (hb1.mono hbW.size)
  have hbb1 := hbb.below hb1
  have hbu1 := hbu.below hb1
  clear hb1 hbb hbu hbW
  obtain ⟨b0, b1, b2, b3, b4, b5, b6, b7⟩ := hbb1.box
  obtain ⟨u0, u1, u2, u3, u4, u5, u6, u7⟩ := hbu1.box
  have hltb := hbb1.lt
  have hltu := hbu1.lt
  go_wp2_with fail
  clear b0 b1 b2 b3 b4 b5 b6 b7 u0 u1 u2 u3 u4 u5 u6 u7 hltb hltu
  generalize hW2 : World.alloc (World.alloc w1 _) _ = W2
  have hb2 : Below w1.heap.size w1 W2 := by rw [← hW2]; exact ((Below.refl _ w1).alloc (Nat.le_refl _) _).alloc (by simp) _
  have hbx : UB W2 w1.heap.size x := by rw [← hW2]; exact (UB.new w1 x).below ((Below.refl _ _).alloc (Nat.le_refl _) _)
  clear hW2
  have hbel2 := hbel1.trans (hb2.mono hbel1.size)
  have hbu2 := hbu1.below hb2
  clear hb2 hbb1 hbu1
  refine (K2.out _ (HM.out.below hbel2)).mono ?_
  rintro e w3 ⟨rfl, hb3⟩
  have hbel3 := hbel2.trans (hb3.mono hbel2.size)
  have hbu3 := hbu2.below hb3
  have hbx3 := hbx.below hb3
  clear hb3 hbu2 hbx
  have KA := Lib.hid (fun X (h : MaxLenOk X) => addressed_any X h)
  go_wp2_with fail
  generalize hW4 : World.alloc w3 _ = W4
  have hb4 : Below w3.heap.size w3 W4 := by rw [← hW4]; exact (Below.refl _ w3).alloc (Nat.le_refl _) _
  have hby : UB W4 w3.heap.size y := by rw [← hW4]; exact UB.new w3 y
  clear hW4
  have hbel4 := hbel3.trans (hb4.mono hbel3.size)
  have hbu4 := hbu3.below hb4
  have hbx4 := hbx3.below hb4
  clear hb4 hbu3 hbx3
  refine (KA.out _ (HM.out.below hbel4)).mono ?_
  rintro e w5 ⟨rfl, hb5⟩
  have hbel5 := hbel4.trans (hb5.mono hbel4.size)
  have hbu5 := hbu4.below hb5
  have hbx5 := hbx4.below hb5
  have hby5 := hby.below hb5
  clear hb5 hbu4 hbx4 hby hbel1 hbel2 hbel3 hbel4
  by_cases he : ex = 0
  · have e1 : ((ex : Int) != 0) = false := by simp [he]
    by_cases hf : ey = 0
    · have e2 : ((ey : Int) != 0) = false := by simp [hf]
      have H1' := Lib.hid (H1.out.trans (by rw [he]) : leadU b u = (x, 0))
      have H2' := Lib.hid (H2.out.trans (by rw [hf]) : leadU { b with path := 47 :: p, hasQuery := false, query := [] } u = (y, 0))
      clear he hf H1 H2 K1 K2
      obtain ⟨u0, u1, u2, u3, u4, u5, u6, u7⟩ := hbu5.box
      obtain ⟨bh, hbh⟩ : ∃ q, q = u.hasHost := ⟨_, rfl⟩
      rw [← hbh] at u1
      have Hbh := Lib.hid hbh
      clear hbh
      have kP := fun X => HasPrefix_any u.path [47] X
      obtain ⟨pp, hpp⟩ : ∃ q, q = Lib.hasPrefix u.path [47] := ⟨_, rfl⟩
      rw [← hpp] at kP
      have KP := Lib.hid kP
      have Hpp := Lib.hid hpp
      clear kP hpp
      cases bh
      · cases pp
        · by_cases hus : u.scheme = []
          · have eus : (u.scheme == []) = true := by rw [hus]; rfl
            clear hus
            go_wp2_with fail
            refine (KP.out _).mono ?_
            rintro e wP ⟨rfl, rfl⟩
            go_wp2_with fail
            refine (KA.out _ (HM.out.below hbel5)).mono ?_
            rintro e w6 ⟨rfl, hb6⟩
            have hbel6 := hbel5.trans (hb6.mono hbel5.size)
            go_wp2_with fail
            go_ret
            exact ⟨rfl, hbel6⟩
          · have eus : (u.scheme == []) = false := by simpa using hus
            have hxy : x = y := lead_paths H1'.out H2'.out (.inr (.inr hus))
            subst hxy
            obtain ⟨x0, x1, x2, x3, x4, x5, x6, x7⟩ := hbx5.box
            obtain ⟨y0, y1, y2, y3, y4, y5, y6, y7⟩ := hby5.box
            clear hus
            go_wp2_with fail
            refine (KP.out _).mono ?_
            rintro e wP ⟨rfl, rfl⟩
            go_wp2_with fail
            go_ret
            exact ⟨rfl, hbel5⟩
        · have hxy : x = y := lead_paths H1'.out H2'.out (.inr (.inl Hpp.out.symm))
          subst hxy
          obtain ⟨x0, x1, x2, x3, x4, x5, x6, x7⟩ := hbx5.box
          obtain ⟨y0, y1, y2, y3, y4, y5, y6, y7⟩ := hby5.box
          go_wp2_with fail
          refine (KP.out _).mono ?_
          rintro e wP ⟨rfl, rfl⟩
          go_wp2_with fail
          go_ret
          exact ⟨rfl, hbel5⟩
      · have hxy : x = y := lead_paths H1'.out H2'.out (.inl Hbh.out.symm)
        subst hxy
        obtain ⟨x0, x1, x2, x3, x4, x5, x6, x7⟩ := hbx5.box
        obtain ⟨y0, y1, y2, y3, y4, y5, y6, y7⟩ := hby5.box
        go_wp2_with fail
        go_ret
        exact ⟨rfl, hbel5⟩
    · have e2 : ((ey : Int) != 0) = true := by simp; omega
      clear hf
      go_wp2_with fail
      refine (KA.out _ (HM.out.below hbel5)).mono ?_
      rintro e w6 ⟨rfl, hb6⟩
      have hbel6 := hbel5.trans (hb6.mono hbel5.size)
      go_wp2_with fail
      go_ret
      exact ⟨rfl, hbel6⟩
  · have e1 : ((ex : Int) != 0) = true := by simp; omega
    clear he
    go_wp2_with fail
    refine (KA.out _ (HM.out.below hbel5)).mono ?_
    rintro e w6 ⟨rfl, hb6⟩
    have hbel6 := hbel5.trans (hb6.mono hbel5.size)
    go_wp2_with fail
    go_ret
    exact ⟨rfl, hbel6⟩
end Go.Proofs.YthnahldnepmipaaDoor

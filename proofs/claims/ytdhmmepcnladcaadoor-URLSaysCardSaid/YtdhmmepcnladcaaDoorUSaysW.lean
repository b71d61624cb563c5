import Derived.Test.YtdhmmepcnladcaaDoorRU7
import Derived.Test.YtdhmmepcnladcaaDoorUEq
namespace Go.Proofs.YtdhmmepcnladcaaDoor
open Go.RowKit

attribute [local go_sem high] eql_url neq_url
set_option maxRecDepth 100000 in
set_option maxHeartbeats 4000000 in
theorem URLSays_walk (u v : UrlD) (s : List UInt8) (w : World) (hM : MaxLenOk w) (hs : s.length ≤ maxLen) :
    Calls Tryd.prog 6 #[u.val, v.val, str s] w (LawU w) := by
  rcases h2 : readU s with ⟨p, f⟩
  rcases h3 : leadU u v with ⟨l, g⟩
  have k1 := fun W => Print_val u W
  have k2 := fun W => Parse_any s W hs
  have k3 := fun W (h : MaxLenOk W) => Lead_parts u v W h
  have k4 := fun W (h : MaxLenOk W) => RRead_any s W hs h
  have k5 := fun W (h : MaxLenOk W) => RLedTo_any u v W h
  have k6 := fun W (h : MaxLenOk W) => RCheck_any u.scheme u.host u.path u.query u.frag u.hasHost u.hasQuery u.hasFrag W h
  have k7 := fun W => Check_parts u.scheme u.host u.path u.query u.frag u.hasHost u.hasQuery u.hasFrag W
  have eu : (⟨u.scheme, u.hasHost, u.host, u.path, u.hasQuery, u.query, u.hasFrag, u.frag⟩ : UrlD) = u := rfl
  rw [eu] at k6 k7
  rw [h2] at k2 k4
  rw [h3] at k3 k5
  simp only [UrlD.val] at k1 k2 k3 k4 k5
  have K2 := Lib.hid k2
  have K3 := Lib.hid k3
  have K4 := Lib.hid k4
  have K5 := Lib.hid k5
  have KA := Lib.hid (fun X (h : MaxLenOk X) => addressed_any X h)
  have HM := Lib.hid hM
  clear k2 k3 k4 k5 h2 h3 hM hs
  rw [val_eq, val_eq]
  obtain ⟨W, hW⟩ : ∃ W, W = ((w.alloc (.cells #[str u.scheme, .bool u.hasHost, str u.host, str u.path, .bool u.hasQuery, str u.query, .bool u.hasFrag, str u.frag] 59)).alloc (.cells #[str v.scheme, .bool v.hasHost, str v.host, str v.path, .bool v.hasQuery, str v.query, .bool v.hasFrag, str v.frag] 59)) := ⟨_, rfl⟩
  have hbel : Below w.heap.size w W := by rw [hW]; exact ((Below.refl _ w).alloc (Nat.le_refl _) _).alloc (by simp) _
  have hu : UB W w.heap.size u := by rw [hW]; exact (UB.new w u).below ((Below.refl _ _).alloc (Nat.le_refl _) _)
  have hv : UB W (w.heap.size + 1) v := by
    rw [hW]
    have := UB.new (w.alloc (.cells #[str u.scheme, .bool u.hasHost, str u.host, str u.path, .bool u.hasQuery, str u.query, .bool u.hasFrag, str u.frag] 59)) v
    rw [show (w.alloc (.cells #[str u.scheme, .bool u.hasHost, str u.host, str u.path, .bool u.hasQuery, str u.query, .bool u.hasFrag, str u.frag] 59)).heap.size = w.heap.size + 1 by simp] at this
    exact this
  have ef : ((f : Int) == (f : Int)) = true := by simp
  have eg : ((g : Int) == (g : Int)) = true := by simp
  by_cases hc : checkU u = 0
  · have hpu : printU u = (textU u, 0) := by unfold printU; rw [if_pos hc]
    have hlu := check_text hc
    have K8 := Lib.hid (fun W => RText_any u.scheme u.host u.path u.query u.frag u.hasHost u.hasQuery u.hasFrag W (by omega) (by omega) (by omega) (by omega) (by omega))
    rw [eu] at K8
    rw [hpu] at k1
    rw [hc] at k6 k7
    generalize textU u = tu at k1 K8
    have et : (tu == tu) = true := by simp
    have K1 := Lib.hid k1
    have K6 := Lib.hid k6
    have K7 := Lib.hid k7
    clear hpu hlu k1 k6 k7 hc eu
    go_enter Tryd.func6, Tryd.ntmps6
    go_wp2_with fail
    rw [← hW]
    clear hW
    refine (K1.out _).mono ?_
    rintro e w1 ⟨rfl, hb⟩
    have hu := hu.below hb
    have hv := hv.below hb
    have hbel := hbel.trans (hb.mono hbel.size)
    clear hb
    go_wp2_with fail
    refine (K2.out _).mono ?_
    rintro e w2 ⟨rfl, hb⟩
    have hu := hu.below hb
    have hv := hv.below hb
    have hbel := hbel.trans (hb.mono hbel.size)
    clear hb
    obtain ⟨u0, u1, u2, u3, u4, u5, u6, u7⟩ := hu.box
    have ltu := hu.lt
    obtain ⟨v0, v1, v2, v3, v4, v5, v6, v7⟩ := hv.box
    have ltv := hv.lt
    go_wp2_with fail
    clear u0 u1 u2 u3 u4 u5 u6 u7 ltu
    clear v0 v1 v2 v3 v4 v5 v6 v7 ltv
    generalize hWn : World.alloc w2 _ = W2
    have hb : Below w2.heap.size w2 W2 := by rw [← hWn]; exact (Below.refl _ w2).alloc (Nat.le_refl _) _
    have hp : UB W2 w2.heap.size p := by rw [← hWn]; exact UB.new w2 p
    clear hWn
    have hu := hu.below hb
    have hv := hv.below hb
    have hbel := hbel.trans (hb.mono hbel.size)
    clear hb
    refine (K3.out _ (HM.out.below hbel)).mono ?_
    rintro e w3 ⟨rfl, hb⟩
    have hu := hu.below hb
    have hv := hv.below hb
    have hp := hp.below hb
    have hbel := hbel.trans (hb.mono hbel.size)
    clear hb
    go_wp2_with fail
    generalize hWn : World.alloc w3 _ = W3
    have hb : Below w3.heap.size w3 W3 := by rw [← hWn]; exact (Below.refl _ w3).alloc (Nat.le_refl _) _
    have hl : UB W3 w3.heap.size l := by rw [← hWn]; exact UB.new w3 l
    clear hWn
    have hu := hu.below hb
    have hv := hv.below hb
    have hp := hp.below hb
    have hbel := hbel.trans (hb.mono hbel.size)
    clear hb
    refine (K4.out _ (HM.out.below hbel)).mono ?_
    rintro e w4 ⟨rfl, hb⟩
    have hu := hu.below hb
    have hv := hv.below hb
    have hp := hp.below hb
    have hl := hl.below hb
    have hbel := hbel.trans (hb.mono hbel.size)
    clear hb
    obtain ⟨u0, u1, u2, u3, u4, u5, u6, u7⟩ := hu.box
    have ltu := hu.lt
    obtain ⟨v0, v1, v2, v3, v4, v5, v6, v7⟩ := hv.box
    have ltv := hv.lt
    go_wp2_with fail
    clear u0 u1 u2 u3 u4 u5 u6 u7 ltu
    clear v0 v1 v2 v3 v4 v5 v6 v7 ltv
    generalize hWn : World.alloc w4 _ = W4
    have hb : Below w4.heap.size w4 W4 := by rw [← hWn]; exact (Below.refl _ w4).alloc (Nat.le_refl _) _
    have hP : UB W4 w4.heap.size p := by rw [← hWn]; exact UB.new w4 p
    clear hWn
    have hu := hu.below hb
    have hv := hv.below hb
    have hp := hp.below hb
    have hl := hl.below hb
    have hbel := hbel.trans (hb.mono hbel.size)
    clear hb
    refine (K5.out _ (HM.out.below hbel)).mono ?_
    rintro e w5 ⟨rfl, hb⟩
    have hu := hu.below hb
    have hv := hv.below hb
    have hp := hp.below hb
    have hl := hl.below hb
    have hP := hP.below hb
    have hbel := hbel.trans (hb.mono hbel.size)
    clear hb
    obtain ⟨u0, u1, u2, u3, u4, u5, u6, u7⟩ := hu.box
    have ltu := hu.lt
    go_wp2_with fail
    clear u0 u1 u2 u3 u4 u5 u6 u7 ltu
    generalize hWn : World.alloc w5 _ = W5
    have hb : Below w5.heap.size w5 W5 := by rw [← hWn]; exact (Below.refl _ w5).alloc (Nat.le_refl _) _
    have hL : UB W5 w5.heap.size l := by rw [← hWn]; exact UB.new w5 l
    clear hWn
    have hu := hu.below hb
    have hv := hv.below hb
    have hp := hp.below hb
    have hl := hl.below hb
    have hP := hP.below hb
    have hbel := hbel.trans (hb.mono hbel.size)
    clear hb
    refine (K6.out _ (HM.out.below hbel)).mono ?_
    rintro e w6 ⟨rfl, hb⟩
    have hu := hu.below hb
    have hv := hv.below hb
    have hp := hp.below hb
    have hl := hl.below hb
    have hP := hP.below hb
    have hL := hL.below hb
    have hbel := hbel.trans (hb.mono hbel.size)
    clear hb
    go_wp2_with fail
    refine (KA.out _ (HM.out.below hbel)).mono ?_
    rintro e w7 ⟨rfl, hb⟩
    have hu := hu.below hb
    have hv := hv.below hb
    have hp := hp.below hb
    have hl := hl.below hb
    have hP := hP.below hb
    have hL := hL.below hb
    have hbel := hbel.trans (hb.mono hbel.size)
    clear hb
    obtain ⟨u0, u1, u2, u3, u4, u5, u6, u7⟩ := hu.box
    go_wp2_with fail
    clear u0 u1 u2 u3 u4 u5 u6 u7
    refine (K7.out _).mono ?_
    rintro e w8 ⟨rfl, hb⟩
    have hu := hu.below hb
    have hv := hv.below hb
    have hp := hp.below hb
    have hl := hl.below hb
    have hP := hP.below hb
    have hL := hL.below hb
    have hbel := hbel.trans (hb.mono hbel.size)
    clear hb
    obtain ⟨u0, u1, u2, u3, u4, u5, u6, u7⟩ := hu.box
    go_wp2_with fail
    clear u0 u1 u2 u3 u4 u5 u6 u7
    refine (K8.out _).mono ?_
    rintro e w9 ⟨rfl, hb⟩
    have hu := hu.below hb
    have hv := hv.below hb
    have hp := hp.below hb
    have hl := hl.below hb
    have hP := hP.below hb
    have hL := hL.below hb
    have hbel := hbel.trans (hb.mono hbel.size)
    clear hb
    obtain ⟨p0, p1, p2, p3, p4, p5, p6, p7⟩ := hp.box
    obtain ⟨q0, q1, q2, q3, q4, q5, q6, q7⟩ := hP.box
    obtain ⟨l0, l1, l2, l3, l4, l5, l6, l7⟩ := hl.box
    obtain ⟨m0, m1, m2, m3, m4, m5, m6, m7⟩ := hL.box
    go_wp2_with fail
    go_ret
    exact ⟨rfl, hbel⟩
  · have hpu : printU u = ([], checkU u) := by unfold printU; rw [if_neg hc]
    rw [hpu] at k1
    generalize checkU u = k at k1 k6 k7 hc
    have ek : ((k : Int) == (k : Int)) = true := by simp
    have e0 : ((k : Int) == 0) = false := by simp; omega
    have e1 : ((k : Int) != 0) = true := by simp; omega
    have K1 := Lib.hid k1
    have K6 := Lib.hid k6
    have K7 := Lib.hid k7
    clear hpu k1 k6 k7 hc eu
    go_enter Tryd.func6, Tryd.ntmps6
    go_wp2_with fail
    rw [← hW]
    clear hW
    refine (K1.out _).mono ?_
    rintro e w1 ⟨rfl, hb⟩
    have hu := hu.below hb
    have hv := hv.below hb
    have hbel := hbel.trans (hb.mono hbel.size)
    clear hb
    go_wp2_with fail
    refine (K2.out _).mono ?_
    rintro e w2 ⟨rfl, hb⟩
    have hu := hu.below hb
    have hv := hv.below hb
    have hbel := hbel.trans (hb.mono hbel.size)
    clear hb
    obtain ⟨u0, u1, u2, u3, u4, u5, u6, u7⟩ := hu.box
    have ltu := hu.lt
    obtain ⟨v0, v1, v2, v3, v4, v5, v6, v7⟩ := hv.box
    have ltv := hv.lt
    go_wp2_with fail
    clear u0 u1 u2 u3 u4 u5 u6 u7 ltu
    clear v0 v1 v2 v3 v4 v5 v6 v7 ltv
    generalize hWn : World.alloc w2 _ = W2
    have hb : Below w2.heap.size w2 W2 := by rw [← hWn]; exact (Below.refl _ w2).alloc (Nat.le_refl _) _
    have hp : UB W2 w2.heap.size p := by rw [← hWn]; exact UB.new w2 p
    clear hWn
    have hu := hu.below hb
    have hv := hv.below hb
    have hbel := hbel.trans (hb.mono hbel.size)
    clear hb
    refine (K3.out _ (HM.out.below hbel)).mono ?_
    rintro e w3 ⟨rfl, hb⟩
    have hu := hu.below hb
    have hv := hv.below hb
    have hp := hp.below hb
    have hbel := hbel.trans (hb.mono hbel.size)
    clear hb
    go_wp2_with fail
    generalize hWn : World.alloc w3 _ = W3
    have hb : Below w3.heap.size w3 W3 := by rw [← hWn]; exact (Below.refl _ w3).alloc (Nat.le_refl _) _
    have hl : UB W3 w3.heap.size l := by rw [← hWn]; exact UB.new w3 l
    clear hWn
    have hu := hu.below hb
    have hv := hv.below hb
    have hp := hp.below hb
    have hbel := hbel.trans (hb.mono hbel.size)
    clear hb
    refine (K4.out _ (HM.out.below hbel)).mono ?_
    rintro e w4 ⟨rfl, hb⟩
    have hu := hu.below hb
    have hv := hv.below hb
    have hp := hp.below hb
    have hl := hl.below hb
    have hbel := hbel.trans (hb.mono hbel.size)
    clear hb
    obtain ⟨u0, u1, u2, u3, u4, u5, u6, u7⟩ := hu.box
    have ltu := hu.lt
    obtain ⟨v0, v1, v2, v3, v4, v5, v6, v7⟩ := hv.box
    have ltv := hv.lt
    go_wp2_with fail
    clear u0 u1 u2 u3 u4 u5 u6 u7 ltu
    clear v0 v1 v2 v3 v4 v5 v6 v7 ltv
    generalize hWn : World.alloc w4 _ = W4
    have hb : Below w4.heap.size w4 W4 := by rw [← hWn]; exact (Below.refl _ w4).alloc (Nat.le_refl _) _
    have hP : UB W4 w4.heap.size p := by rw [← hWn]; exact UB.new w4 p
    clear hWn
    have hu := hu.below hb
    have hv := hv.below hb
    have hp := hp.below hb
    have hl := hl.below hb
    have hbel := hbel.trans (hb.mono hbel.size)
    clear hb
    refine (K5.out _ (HM.out.below hbel)).mono ?_
    rintro e w5 ⟨rfl, hb⟩
    have hu := hu.below hb
    have hv := hv.below hb
    have hp := hp.below hb
    have hl := hl.below hb
    have hP := hP.below hb
    have hbel := hbel.trans (hb.mono hbel.size)
    clear hb
    obtain ⟨u0, u1, u2, u3, u4, u5, u6, u7⟩ := hu.box
    have ltu := hu.lt
    go_wp2_with fail
    clear u0 u1 u2 u3 u4 u5 u6 u7 ltu
    generalize hWn : World.alloc w5 _ = W5
    have hb : Below w5.heap.size w5 W5 := by rw [← hWn]; exact (Below.refl _ w5).alloc (Nat.le_refl _) _
    have hL : UB W5 w5.heap.size l := by rw [← hWn]; exact UB.new w5 l
    clear hWn
    have hu := hu.below hb
    have hv := hv.below hb
    have hp := hp.below hb
    have hl := hl.below hb
    have hP := hP.below hb
    have hbel := hbel.trans (hb.mono hbel.size)
    clear hb
    refine (K6.out _ (HM.out.below hbel)).mono ?_
    rintro e w6 ⟨rfl, hb⟩
    have hu := hu.below hb
    have hv := hv.below hb
    have hp := hp.below hb
    have hl := hl.below hb
    have hP := hP.below hb
    have hL := hL.below hb
    have hbel := hbel.trans (hb.mono hbel.size)
    clear hb
    go_wp2_with fail
    refine (KA.out _ (HM.out.below hbel)).mono ?_
    rintro e w7 ⟨rfl, hb⟩
    have hu := hu.below hb
    have hv := hv.below hb
    have hp := hp.below hb
    have hl := hl.below hb
    have hP := hP.below hb
    have hL := hL.below hb
    have hbel := hbel.trans (hb.mono hbel.size)
    clear hb
    obtain ⟨u0, u1, u2, u3, u4, u5, u6, u7⟩ := hu.box
    go_wp2_with fail
    clear u0 u1 u2 u3 u4 u5 u6 u7
    refine (K7.out _).mono ?_
    rintro e w8 ⟨rfl, hb⟩
    have hu := hu.below hb
    have hv := hv.below hb
    have hp := hp.below hb
    have hl := hl.below hb
    have hP := hP.below hb
    have hL := hL.below hb
    have hbel := hbel.trans (hb.mono hbel.size)
    clear hb
    obtain ⟨p0, p1, p2, p3, p4, p5, p6, p7⟩ := hp.box
    obtain ⟨q0, q1, q2, q3, q4, q5, q6, q7⟩ := hP.box
    obtain ⟨l0, l1, l2, l3, l4, l5, l6, l7⟩ := hl.box
    obtain ⟨m0, m1, m2, m3, m4, m5, m6, m7⟩ := hL.box
    go_wp2_with fail
    go_ret
    exact ⟨rfl, hbel⟩
end Go.Proofs.YtdhmmepcnladcaaDoor

import Derived.Test.YthnahldnepmipaaDoorUEq
import Derived.Lib.Fold
namespace Go.Proofs.YthnahldnepmipaaDoor
open Go.RowKit

theorem fold_low : ∀ (a b : List UInt8), lowL a = lowL b → Lib.equalFold a b = true
  | [], [], _ => rfl
  | [], _ :: _, h => by simp [lowL] at h
  | _ :: _, [], h => by simp [lowL] at h
  | x :: a, y :: b, h => by
    simp only [lowL, List.map_cons, List.cons.injEq] at h
    have hf : Lib.foldEq x y = true := by
      have h1 := congrArg UInt8.toNat h.1
      rw [lowB_nat, lowB_nat] at h1
      unfold Lib.foldEq
      rw [decide_eq_true_eq]
      split at h1 <;> split at h1 <;> omega
    rw [Lib.equalFold_yes x y a b hf]
    exact fold_low a b h.2
theorem EqualFold_yes (a b : List UInt8) (h : lowL a = lowL b) (ha : ∀ x ∈ a, x.toNat < 128) (hb : ∀ x ∈ b, x.toNat < 128) (hl : a.length ≤ 1000) (w : World) : Calls Tryd.prog 40 #[str a, str b] w fun e w' => e = .returned (.bool true) ∧ Below w.heap.size w w' := by
  refine (Go.Proofs.Tryd.strings_EqualFold ⟨a.toArray⟩ ⟨b.toArray⟩ w (by simp [ByteArray.size]; omega) (fun j x hx => ha x (List.mem_of_getElem? hx)) (fun j x hx => hb x (List.mem_of_getElem? hx))).mono ?_
  rintro e w' ⟨rfl, rfl⟩
  exact ⟨by rw [show Lib.equalFold (⟨a.toArray⟩ : ByteArray).data.toList (⟨b.toArray⟩ : ByteArray).data.toList = true from fold_low a b h], Below.refl _ _⟩
theorem HasSuffix_yes (a b : List UInt8) (h : b <:+ a) (hl : a.length ≤ 9223372036854775807) (w : World) : Calls Tryd.prog 41 #[str a, str b] w fun e w' => e = .returned (.bool true) ∧ Below w.heap.size w w' := by
  refine (Go.Proofs.Tryd.strings_HasSuffix ⟨a.toArray⟩ ⟨b.toArray⟩ w (by simp [ByteArray.size]; omega)).mono ?_
  rintro e w' ⟨rfl, rfl⟩
  refine ⟨?_, Below.refl _ _⟩
  have : Lib.hasSuffix (⟨a.toArray⟩ : ByteArray).data.toList (⟨b.toArray⟩ : ByteArray).data.toList = true := by
    unfold Lib.hasSuffix
    rw [List.isSuffixOf_iff_suffix]
    exact h
  rw [this]
set_option maxRecDepth 100000 in
set_option maxHeartbeats 1000000 in
theorem tail_any (u : UrlD) (w : World) (h1 : u.query.length ≤ 1000) (h2 : u.frag.length ≤ 1000) : Calls Tryd.prog 42 #[.agg #[str u.scheme, .bool u.hasHost, str u.host, str u.path, .bool u.hasQuery, str u.query, .bool u.hasFrag, str u.frag]] w fun e w' => e = .returned (.int .i64 ((tlU u).length : Nat)) ∧ Below w.heap.size w w' := by
  obtain ⟨W, hW⟩ : ∃ W, W = w.alloc (.cells #[str u.scheme, .bool u.hasHost, str u.host, str u.path, .bool u.hasQuery, str u.query, .bool u.hasFrag, str u.frag] 42) := ⟨_, rfl⟩
  have hbW : Below w.heap.size w W := by rw [hW]; exact (Below.refl _ w).alloc (Nat.le_refl _) _
  have hbx : UB W w.heap.size u := by rw [hW]; exact UB.new w u
  have HbW := Lib.hid hbW
  have hT := tail_len u
  generalize (tlU u).length = n at hT ⊢
  obtain ⟨c0, c1, c2, c3, c4, c5, c6, c7⟩ := hbx.box
  obtain ⟨sc, hh, ho, pa, hq, qu, hf, fr⟩ := u
  simp only at *
  cases hq <;> cases hf
  all_goals
    have HT := Lib.hid hT
    clear hT
    go_enter Tryd.func42, Tryd.ntmps42
    go_wp2_with fail
    go_ret
    rw [← hW]
    refine ⟨?_, HbW.out⟩
    have := HT.out
    simp only [Bool.false_eq_true, if_false, if_true] at this
    rw [this]
    simp
    try omega
attribute [local go_sem high] eql_url neq_url
set_option maxRecDepth 100000 in
set_option maxHeartbeats 4000000 in
theorem URLBack_walk (u : UrlD) (s : List UInt8) (w : World) (hM : MaxLenOk w) (hs : s.length ≤ maxLen) :
    Calls Tryd.prog 7 #[u.val, str s] w (LawU w) := by
  have k1 := fun W => Print_val u W
  simp only [UrlD.val] at k1
  rcases h2 : readU s with ⟨v, ev⟩
  have k2 := fun W => Parse_any s W hs
  rw [h2] at k2
  simp only [UrlD.val] at k2
  have K2 := Lib.hid k2
  have H2 := Lib.hid h2
  have HM := Lib.hid hM
  have Hs := Lib.hid hs
  have KA := Lib.hid (fun X (h : MaxLenOk X) => addressed_any X h)
  clear k2 h2 hM hs
  rw [val_eq]
  obtain ⟨W, hW⟩ : ∃ W, W = w.alloc (.cells #[str u.scheme, .bool u.hasHost, str u.host, str u.path, .bool u.hasQuery, str u.query, .bool u.hasFrag, str u.frag] 42) := ⟨_, rfl⟩
  have hbW : Below w.heap.size w W := by rw [hW]; exact (Below.refl _ w).alloc (Nat.le_refl _) _
  have hbu : UB W w.heap.size u := by rw [hW]; exact UB.new w u
  by_cases hu : checkU u = 0
  case' pos =>
    have hpu : printU u = (textU u, 0) := by unfold printU; rw [if_pos hu]
    rw [hpu] at k1
    have k3 := fun W => Parse_any (textU u) W (by have := (check_ok hu).2.2.2.2; unfold maxLen; omega)
    rw [read_text hu] at k3
    simp only [UrlD.val] at k3
    generalize textU u = tu at k1 k3
    have K1 := Lib.hid k1
    have K3 := Lib.hid k3
    clear k1 k3 hpu hu
    go_enter Tryd.func7, Tryd.ntmps7
    go_wp2_with fail
    rw [← hW]
    clear hW
    refine (K1.out _).mono ?_
    rintro e w1 ⟨rfl, hb1⟩
    have hbel1 := hbW.trans (hb1.mono hbW.size)
    have hbu1 := hbu.below hb1
    clear hb1 hbW hbu
    go_wp2_with fail
    refine (K3.out _).mono ?_
    rintro e w2 ⟨rfl, hb2⟩
    have hbel2 := hbel1.trans (hb2.mono hbel1.size)
    have hbu2 := hbu1.below hb2
    clear hb2 hbel1 hbu1
    obtain ⟨u0, u1, u2, u3, u4, u5, u6, u7⟩ := (hbu2.below ((Below.refl _ w2).alloc (Nat.le_refl _) (.cells #[str u.scheme, .bool u.hasHost, str u.host, str u.path, .bool u.hasQuery, str u.query, .bool u.hasFrag, str u.frag] 42))).box
    go_wp2_with fail
    generalize hW3 : World.alloc w2 _ = W3
    have hbelP : Below w.heap.size w W3 := by rw [← hW3]; exact hbel2.trans (((Below.refl _ w2).alloc (Nat.le_refl _) _).mono hbel2.size)
    clear hW3 hbel2 hbu2 u0 u1 u2 u3 u4 u5 u6 u7 K1 K3
  case' neg =>
    have hpu : printU u = ([], checkU u) := by unfold printU; rw [if_neg hu]
    rw [hpu] at k1
    generalize checkU u = ku at k1 hu
    have eku : ((ku : Int) == 0) = false := by simp; omega
    have K1 := Lib.hid k1
    clear k1 hpu hu
    go_enter Tryd.func7, Tryd.ntmps7
    go_wp2_with fail
    rw [← hW]
    clear hW
    refine (K1.out _).mono ?_
    rintro e w1 ⟨rfl, hb1⟩
    have hbelP := hbW.trans (hb1.mono hbW.size)
    clear hb1 hbW hbu
    go_wp2_with fail
    generalize w1 = W3 at hbelP ⊢
    clear eku K1
  all_goals
    refine (K2.out _).mono ?_
    rintro e w4 ⟨rfl, hb4⟩
    have hbel4 := hbelP.trans (hb4.mono hbelP.size)
    clear hb4 hbelP
    go_wp2_with fail
    generalize hW5 : World.alloc w4 _ = W5
    have hb5 : Below w4.heap.size w4 W5 := by rw [← hW5]; exact (Below.refl _ w4).alloc (Nat.le_refl _) _
    have hv5 : UB W5 w4.heap.size v := by rw [← hW5]; exact UB.new w4 v
    clear hW5
    have hbel5 := hbel4.trans (hb5.mono hbel4.size)
    clear hb5
    refine (KA.out _ (HM.out.below hbel5)).mono ?_
    rintro e w6 ⟨rfl, hb6⟩
    have hbel6 := hbel5.trans (hb6.mono hbel5.size)
    have hv6 := hv5.below hb6
    clear hb6 hv5 hbel5
    by_cases he : ev = 0
    · have e1 : ((ev : Int) != 0) = false := by simp [he]
      obtain ⟨p1, p2, p3, p4, p5, p6, p7⟩ := back_law (H2.out.trans (by rw [he]) : readU s = (v, 0))
      have hlv := check_text p1
      have hlt := (check_ok p1).2.2.2.2
      have hls : s.length ≤ 120 := (read_parts (H2.out.trans (by rw [he]) : readU s = (v, 0))).1
      have k7 := fun W => Print_val v W
      rw [show printU v = (textU v, 0) by unfold printU; rw [if_pos p1]] at k7
      have k8 := fun W => Parse_any (textU v) W (by unfold maxLen; omega)
      rw [p2] at k8
      have kE := fun X => EqualFold_yes (textU v) s p3 p5 p4 (by omega) X
      have kT := fun X => tail_any v X (by have := hlv.2.2.2.1; omega) (by have := hlv.2.2.2.2; omega)
      simp only [UrlD.val] at k7 k8
      generalize textU v = t at k7 k8 kE
      have kH := fun X => HasSuffix_yes s _ p7 (by omega) X
      generalize (tlU v).length = tn at kT kH p6
      obtain ⟨mn, hmn⟩ : ∃ mn, mn = min v.path.length 1 := ⟨_, rfl⟩
      rw [← hmn] at kH
      have hmn1 : ((mn : Nat) : Int) ≤ (v.path.length : Int) := by omega
      have K7 := Lib.hid k7
      have K8 := Lib.hid k8
      have KE := Lib.hid kE
      have KT := Lib.hid kT
      have KH := Lib.hid kH
      have Hmn := Lib.hid hmn
      have hpv := hlv.2.2.1
      have emin : ∀ X : World, (Builtin.min_ #[3, 3] 3 #[.int .i64 (v.path.length : Int), .int .i64 1]).run Tryd.prog X = .ok (.int .i64 (mn : Int)) X := fun X => by
        rw [run_min_int2]
        have : (if (1 : Int) < (v.path.length : Int) then 1 else (v.path.length : Int)) = (mn : Int) := by rw [hmn]; split <;> omega
        rw [this]
      clear k7 k8 kE kT kH hmn p1 p2 p3 p4 p5 p7 hlv he H2 K2
      obtain ⟨v0, v1, v2, v3, v4, v5, v6, v7⟩ := hv6.box
      go_wp2_with fail
      clear v0 v1 v2 v3 v4 v5 v6 v7
      refine (K7.out _).mono ?_
      rintro e w7 ⟨rfl, hb7⟩
      have hbel7 := hbel6.trans (hb7.mono hbel6.size)
      have hv7 := hv6.below hb7
      clear hb7 hbel6 hv6
      go_wp2_with fail
      refine (K8.out _).mono ?_
      rintro e w8 ⟨rfl, hb8⟩
      have hbel8 := hbel7.trans (hb8.mono hbel7.size)
      have hv8 := hv7.below hb8
      clear hb8 hbel7 hv7
      go_wp2_with fail
      generalize hWR : World.alloc w8 _ = wR
      have hbR : Below w8.heap.size w8 wR := by rw [← hWR]; exact (Below.refl _ w8).alloc (Nat.le_refl _) _
      have hyR : UB wR w8.heap.size v := by rw [← hWR]; exact UB.new w8 v
      clear hWR
      have hbelR := hbel8.trans (hbR.mono hbel8.size)
      have hvR := hv8.below hbR
      clear hbR hbel8 hv8 K7 K8
      generalize w8.heap.size = by_ at hyR ⊢
      generalize w4.heap.size = bv at hvR ⊢
      have z1 : IntKind.i64.wrap ((s.length : Int) - (tn : Int)) = (s.length : Int) - (tn : Int) := IntWalk.i64_in _ (by omega)
      have z2 : 0 ≤ (s.length : Int) - (tn : Int) := by omega
      have z3 : ((s.length : Int) - (tn : Int)).toNat = s.length - tn := by omega
      have z4 : (s.length : Int) - (tn : Int) ≤ (s.length : Int) := by omega
      have z5 : v.path.length - mn + (s.length - (s.length - tn)) ≤ 9223372036854775807 := by omega
      refine wp_region_held (S := fun W' => Below w.heap.size w W' ∧ UB W' bv v ∧ UB W' by_ v) (by kernel_rfl) ?_
      change wpAnyH _ _ _ _ _ _ _ _ (World.drew wR)
      have hS : Below w.heap.size w (World.drew wR) ∧ UB (World.drew wR) bv v ∧ UB (World.drew wR) by_ v := ⟨hbelR.drew, hvR, hyR⟩
      refine wpAnyH_take (i := 0) (v := ?_) rfl (by kernel_rfl) (by kernel_rfl) (by kernel_rfl) (fun _ _ _ h => h) (Or.inl ⟨by kernel_rfl, ?_⟩) hS ?_
      rotate_left 1
      · intro W' hb; go_simp; try exact rfl
      refine wpAnyH_take (i := 1) (v := ?_) rfl (by kernel_rfl) (by kernel_rfl) (by kernel_rfl) (fun _ _ _ h => h) (Or.inl ⟨by kernel_rfl, ?_⟩) hS ?_
      rotate_left 1
      · intro W' hb; go_simp; try exact rfl
      refine wpAnyH_take (i := 2) (v := ?_) rfl (by kernel_rfl) (by kernel_rfl) (by kernel_rfl) (fun _ _ _ h => h) (Or.inl ⟨by kernel_rfl, ?_⟩) hS ?_
      rotate_left 1
      · intro W' hb; go_simp; try exact rfl
      refine wpAnyH_take (i := 3) (v := ?_) rfl (by kernel_rfl) (by kernel_rfl) (by kernel_rfl) (fun _ _ _ h => h) (Or.inl ⟨by kernel_rfl, ?_⟩) hS ?_
      rotate_left 1
      · intro W' hb; go_simp; try exact rfl
      refine wpAnyH_take (i := 4) (v := ?_) rfl (by kernel_rfl) (by kernel_rfl) (by kernel_rfl) (fun _ _ _ h => h) (Or.inl ⟨by kernel_rfl, ?_⟩) hS ?_
      rotate_left 1
      · intro W' hb; go_simp; try exact rfl
      refine wpAnyH_take (i := 5) (v := ?_) rfl (by kernel_rfl) (by kernel_rfl) (by kernel_rfl) (fun _ _ _ h => h) (Or.inl ⟨by kernel_rfl, ?_⟩) hS ?_
      rotate_left 1
      · intro W' hb; go_simp; try exact rfl
      refine wpAnyH_take (i := 6) (v := ?_) rfl (by kernel_rfl) (by kernel_rfl) (by kernel_rfl) (fun _ _ _ h => h) (Or.inl ⟨by kernel_rfl, ?_⟩) hS ?_
      rotate_left 1
      · intro W' hb; go_simp; try exact rfl
      refine wpAnyH_take (i := 7) (v := ?_) rfl (by kernel_rfl) (by kernel_rfl) (by kernel_rfl) (fun _ _ _ h => h) (Or.inl ⟨by kernel_rfl, ?_⟩) hS ?_
      rotate_left 1
      · intro W' hb; obtain ⟨v0, v1, v2, v3, v4, v5, v6, v7⟩ := hb.2.1.box; obtain ⟨y0, y1, y2, y3, y4, y5, y6, y7⟩ := hb.2.2.box; go_simp; try exact rfl
      refine wpAnyH_take (i := 8) (v := ?_) rfl (by kernel_rfl) (by kernel_rfl) (by kernel_rfl) (fun _ _ _ h => h) (Or.inl ⟨by kernel_rfl, ?_⟩) hS ?_
      rotate_left 1
      · intro W' hb; obtain ⟨v0, v1, v2, v3, v4, v5, v6, v7⟩ := hb.2.1.box; obtain ⟨y0, y1, y2, y3, y4, y5, y6, y7⟩ := hb.2.2.box; go_simp; try exact rfl
      refine wpAnyH_take (i := 9) (v := ?_) rfl (by kernel_rfl) (by kernel_rfl) (by kernel_rfl) (fun _ _ _ h => h) (Or.inl ⟨by kernel_rfl, ?_⟩) hS ?_
      rotate_left 1
      · intro W' hb; go_simp; try exact rfl
      refine wpAnyH_take (i := 10) (v := ?_) rfl (by kernel_rfl) (by kernel_rfl) (by kernel_rfl) (fun _ _ _ h => h) (Or.inl ⟨by kernel_rfl, ?_⟩) hS ?_
      rotate_left 1
      · intro W' hb; go_simp; try exact rfl
      refine wpAnyH_take (i := 11) (v := ?_) rfl (by kernel_rfl) (by kernel_rfl) (by kernel_rfl) (fun _ _ _ h => h) (Or.inl ⟨by kernel_rfl, ?_⟩) hS ?_
      rotate_left 1
      · intro W' hb; go_simp; try exact rfl
      refine wpAnyH_take (i := 12) (v := ?_) rfl (by kernel_rfl) (by kernel_rfl) (by kernel_rfl) (fun _ _ _ h => h) (Or.inl ⟨by kernel_rfl, ?_⟩) hS ?_
      rotate_left 1
      · intro W' hb; go_simp; try exact rfl
      refine wpAnyH_take (i := 13) (v := ?_) rfl (by kernel_rfl) (by kernel_rfl) (by kernel_rfl) (fun _ _ _ h => h) (Or.inl ⟨by kernel_rfl, ?_⟩) hS ?_
      rotate_left 1
      · intro W' hb; go_simp; try exact rfl
      refine wpAnyH_all (rs := [14]) (by kernel_rfl) (by simp) ?_
      intro kk hkk
      simp only [List.mem_singleton] at hkk
      subst hkk
      go_simp
      refine wpOp_call rfl (by kernel_rfl) 40 #[str t, str s] (by go_simp) _ _ (KE.out _) ?_
      intro wE hbwE
      have hS : Below w.heap.size w wE ∧ UB wE bv v ∧ UB wE by_ v := ⟨hS.1.trans (hbwE.mono hS.1.size), hS.2.1.below hbwE, hS.2.2.below hbwE⟩
      clear hbwE
      refine ⟨hS, ?_⟩
      refine wpAnyH_take (i := 15) (v := ?_) rfl (by kernel_rfl) (by kernel_rfl) (by kernel_rfl) (fun _ _ _ h => h) (Or.inl ⟨by kernel_rfl, ?_⟩) hS ?_
      rotate_left 1
      · intro W' hb; go_simp; try exact rfl
      refine wpAnyH_take (i := 16) (v := ?_) rfl (by kernel_rfl) (by kernel_rfl) (by kernel_rfl) (fun _ _ _ h => h) (Or.inl ⟨by kernel_rfl, ?_⟩) hS ?_
      rotate_left 1
      · intro W' hb; go_simp; try exact rfl
      refine wpAnyH_take (i := 17) (v := ?_) rfl (by kernel_rfl) (by kernel_rfl) (by kernel_rfl) (fun _ _ _ h => h) (Or.inl ⟨by kernel_rfl, ?_⟩) hS ?_
      rotate_left 1
      · intro W' hb; go_simp; try exact rfl
      refine wpAnyH_take (i := 18) (v := ?_) rfl (by kernel_rfl) (by kernel_rfl) (by kernel_rfl) (fun _ _ _ h => h) (Or.inl ⟨by kernel_rfl, ?_⟩) hS ?_
      rotate_left 1
      · intro W' hb; go_simp; try exact rfl
      refine wpAnyH_take (i := 19) (v := ?_) rfl (by kernel_rfl) (by kernel_rfl) (by kernel_rfl) (fun _ _ _ h => h) (Or.inl ⟨by kernel_rfl, ?_⟩) hS ?_
      rotate_left 1
      · intro W' hb; obtain ⟨v0, v1, v2, v3, v4, v5, v6, v7⟩ := hb.2.1.box; go_simp; try exact rfl
      refine wpAnyH_take (i := 20) (v := ?_) rfl (by kernel_rfl) (by kernel_rfl) (by kernel_rfl) (fun _ _ _ h => h) (Or.inl ⟨by kernel_rfl, ?_⟩) hS ?_
      rotate_left 1
      · intro W' hb; go_simp; try exact rfl
      refine wpAnyH_take (i := 21) (v := ?_) rfl (by kernel_rfl) (by kernel_rfl) (by kernel_rfl) (fun _ _ _ h => h) (Or.inl ⟨by kernel_rfl, ?_⟩) hS ?_
      rotate_left 1
      · intro W' hb; obtain ⟨v0, v1, v2, v3, v4, v5, v6, v7⟩ := hb.2.1.box; go_simp; try exact rfl
      refine wpAnyH_take (i := 22) (v := ?_) rfl (by kernel_rfl) (by kernel_rfl) (by kernel_rfl) (fun _ _ _ h => h) (Or.inl ⟨by kernel_rfl, ?_⟩) hS ?_
      rotate_left 1
      · intro W' hb; go_simp; try exact rfl
      refine wpAnyH_take (i := 23) (v := ?_) rfl (by kernel_rfl) (by kernel_rfl) (by kernel_rfl) (fun _ _ _ h => h) (Or.inl ⟨by kernel_rfl, ?_⟩) hS ?_
      rotate_left 1
      · intro W' hb; go_simp; try exact rfl
      refine wpAnyH_take (i := 24) (v := ?_) rfl (by kernel_rfl) (by kernel_rfl) (by kernel_rfl) (fun _ _ _ h => h) (Or.inl ⟨by kernel_rfl, ?_⟩) hS ?_
      rotate_left 1
      · intro W' hb; go_simp; try exact rfl
      refine wpAnyH_take (i := 25) (v := ?_) rfl (by kernel_rfl) (by kernel_rfl) (by kernel_rfl) (fun _ _ _ h => h) (Or.inl ⟨by kernel_rfl, ?_⟩) hS ?_
      rotate_left 1
      · intro W' hb; go_simp; try exact rfl
      refine wpAnyH_take (i := 26) (v := ?_) rfl (by kernel_rfl) (by kernel_rfl) (by kernel_rfl) (fun _ _ _ h => h) (Or.inl ⟨by kernel_rfl, ?_⟩) hS ?_
      rotate_left 1
      · intro W' hb; go_simp; try exact rfl
      refine wpAnyH_take (i := 27) (v := ?_) rfl (by kernel_rfl) (by kernel_rfl) (by kernel_rfl) (fun _ _ _ h => h) (Or.inl ⟨by kernel_rfl, ?_⟩) hS ?_
      rotate_left 1
      · intro W' hb; go_simp; try exact rfl
      refine wpAnyH_take (i := 28) (v := ?_) rfl (by kernel_rfl) (by kernel_rfl) (by kernel_rfl) (fun _ _ _ h => h) (Or.inl ⟨by kernel_rfl, ?_⟩) hS ?_
      rotate_left 1
      · intro W' hb; obtain ⟨v0, v1, v2, v3, v4, v5, v6, v7⟩ := hb.2.1.box; go_simp; try exact rfl
      refine wpAnyH_all (rs := [29]) (by kernel_rfl) (by simp) ?_
      intro kk hkk
      simp only [List.mem_singleton] at hkk
      subst hkk
      go_simp
      refine wpOp_call rfl (by kernel_rfl) 42 #[.agg #[str v.scheme, .bool v.hasHost, str v.host, str v.path, .bool v.hasQuery, str v.query, .bool v.hasFrag, str v.frag]] (by go_simp) _ _ (KT.out _) ?_
      intro wT hbwT
      have hS : Below w.heap.size w wT ∧ UB wT bv v ∧ UB wT by_ v := ⟨hS.1.trans (hbwT.mono hS.1.size), hS.2.1.below hbwT, hS.2.2.below hbwT⟩
      clear hbwT
      refine ⟨hS, ?_⟩
      refine wpAnyH_take (i := 30) (v := ?_) rfl (by kernel_rfl) (by kernel_rfl) (by kernel_rfl) (fun _ _ _ h => h) (Or.inl ⟨by kernel_rfl, ?_⟩) hS ?_
      rotate_left 1
      · intro W' hb; go_simp; try exact rfl
      refine wpAnyH_take (i := 31) (v := ?_) rfl (by kernel_rfl) (by kernel_rfl) (by kernel_rfl) (fun _ _ _ h => h) (Or.inl ⟨by kernel_rfl, ?_⟩) hS ?_
      rotate_left 1
      · intro W' hb; go_simp; try exact rfl
      refine wpAnyH_take (i := 32) (v := ?_) rfl (by kernel_rfl) (by kernel_rfl) (by kernel_rfl) (fun _ _ _ h => h) (Or.inl ⟨by kernel_rfl, ?_⟩) hS ?_
      rotate_left 1
      · intro W' hb; go_simp; try exact rfl
      refine wpAnyH_all (rs := [33]) (by kernel_rfl) (by simp) ?_
      intro kk hkk
      simp only [List.mem_singleton] at hkk
      subst hkk
      go_simp
      refine wpOp_call rfl (by kernel_rfl) 41 #[str s, str (v.path.drop mn ++ s.drop (s.length - tn))] (by go_simp) _ _ (KH.out _) ?_
      intro wH hbwH
      have hS : Below w.heap.size w wH ∧ UB wH bv v ∧ UB wH by_ v := ⟨hS.1.trans (hbwH.mono hS.1.size), hS.2.1.below hbwH, hS.2.2.below hbwH⟩
      clear hbwH
      refine ⟨hS, ?_⟩
      refine wpAnyH_take (i := 34) (v := ?_) rfl (by kernel_rfl) (by kernel_rfl) (by kernel_rfl) (fun _ _ _ h => h) (Or.inl ⟨by kernel_rfl, ?_⟩) hS ?_
      rotate_left 1
      · intro W' hb; go_simp; try exact rfl
      refine wpAnyH_take (i := 35) (v := ?_) rfl (by kernel_rfl) (by kernel_rfl) (by kernel_rfl) (fun _ _ _ h => h) (Or.inl ⟨by kernel_rfl, ?_⟩) hS ?_
      rotate_left 1
      · intro W' hb; go_simp; try exact rfl
      refine wpAnyH_done (by kernel_rfl) ?_ _
      go_simp
      go_wp2_with fail
      go_ret
      exact ⟨rfl, hS.1⟩
    · have e1 : ((ev : Int) != 0) = true := by simp; omega
      clear he
      go_wp2_with fail
      refine (KA.out _ (HM.out.below hbel6)).mono ?_
      rintro e w7 ⟨rfl, hb7⟩
      have hbel7 := hbel6.trans (hb7.mono hbel6.size)
      go_wp2_with fail
      go_ret
      exact ⟨rfl, hbel7⟩
end Go.Proofs.YthnahldnepmipaaDoor

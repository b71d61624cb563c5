import Derived.Test.YtdhmmepcnladcaaDoorRU7P
import Derived.Test.YtdhmmepcnladcaaDoorRU5
namespace Go.Proofs.YtdhmmepcnladcaaDoor
open Go.RowKit

section
variable {w W W' : World} {b u r x : UrlD}
theorem LB.drew (h : LB w W b u r) : LB w W.drew b u r := ⟨h.bel.drew, h.bas, h.rel, h.res⟩
theorem LB.r0 (h : LB w W b u r) (v : List UInt8) : LB w (W.setCell ⟨w.heap.size + 1, 0, none⟩ (str v)) b { u with scheme := v } r := ⟨h.bel.setCell (by show w.heap.size ≤ w.heap.size + 1; omega) _, h.bas.other (by omega) _, h.rel.s0 v, h.res.other (by omega) _⟩
theorem LB.r1 (h : LB w W b u r) (v : Bool) : LB w (W.setCell ⟨w.heap.size + 1, 1, none⟩ (.bool v)) b { u with hasHost := v } r := ⟨h.bel.setCell (by show w.heap.size ≤ w.heap.size + 1; omega) _, h.bas.other (by omega) _, h.rel.s1 v, h.res.other (by omega) _⟩
theorem LB.r2 (h : LB w W b u r) (v : List UInt8) : LB w (W.setCell ⟨w.heap.size + 1, 2, none⟩ (str v)) b { u with host := v } r := ⟨h.bel.setCell (by show w.heap.size ≤ w.heap.size + 1; omega) _, h.bas.other (by omega) _, h.rel.s2 v, h.res.other (by omega) _⟩
theorem LB.r3 (h : LB w W b u r) (v : List UInt8) : LB w (W.setCell ⟨w.heap.size + 1, 3, none⟩ (str v)) b { u with path := v } r := ⟨h.bel.setCell (by show w.heap.size ≤ w.heap.size + 1; omega) _, h.bas.other (by omega) _, h.rel.s3 v, h.res.other (by omega) _⟩
theorem LB.r4 (h : LB w W b u r) (v : Bool) : LB w (W.setCell ⟨w.heap.size + 1, 4, none⟩ (.bool v)) b { u with hasQuery := v } r := ⟨h.bel.setCell (by show w.heap.size ≤ w.heap.size + 1; omega) _, h.bas.other (by omega) _, h.rel.s4 v, h.res.other (by omega) _⟩
theorem LB.r5 (h : LB w W b u r) (v : List UInt8) : LB w (W.setCell ⟨w.heap.size + 1, 5, none⟩ (str v)) b { u with query := v } r := ⟨h.bel.setCell (by show w.heap.size ≤ w.heap.size + 1; omega) _, h.bas.other (by omega) _, h.rel.s5 v, h.res.other (by omega) _⟩
end
theorem LastIndex_any (l : List UInt8) (w : World) (hl : l.length ≤ 1000000) : Calls Tryd.prog 117 #[str l, .string ⟨#[47]⟩] w fun e w' => e = .returned (.int .i64 (Lib.lastIndexByte ⟨l.toArray⟩ 47)) ∧ w = w' := by
  refine (Go.Proofs.Tryd.strings_LastIndex_one ⟨l.toArray⟩ ⟨#[47]⟩ rfl (by simp [ByteArray.size]; omega) w).mono ?_
  rintro e w' ⟨rfl, rfl⟩
  exact ⟨rfl, rfl⟩
set_option maxRecDepth 100000 in
theorem bad2_any (k : Nat) (w : World) : Calls Tryd.prog 116 #[.int .i64 (k : Nat)] w fun e w' => e = .returned (.tuple #[.agg #[str [], .bool false, str [], str [], .bool false, str [], .bool false, str []], .int .i64 (k : Nat)]) ∧ Below w.heap.size w w' := by
  go_enter Tryd.func116, Tryd.ntmps116
  go_wp2_with fail
  refine bodyPost_ret (v := .tuple #[.agg #[str [], .bool false, str [], str [], .bool false, str [], .bool false, str []], .int .i64 (k : Nat)]) (by simp [results, Tryd.results116, go_sem]; rfl) rfl ⟨rfl, ?_⟩
  exact (Below.refl _ w).alloc (Nat.le_refl _) _
set_option maxRecDepth 100000 in
set_option maxHeartbeats 8000000 in
theorem RLedTo_any (b u : UrlD) (w : World) (hM : MaxLenOk w) :
    Calls Tryd.prog 43 #[b.val, u.val] w fun e w' => e = .returned (.tuple #[(leadU b u).1.val, .int .i64 ((leadU b u).2 : Nat)]) ∧ Below w.heap.size w w' := by
  obtain ⟨W, hW⟩ : ∃ W, W = ((w.alloc (.cells #[str b.scheme, .bool b.hasHost, str b.host, str b.path, .bool b.hasQuery, str b.query, .bool b.hasFrag, str b.frag] 59)).alloc (.cells #[str u.scheme, .bool u.hasHost, str u.host, str u.path, .bool u.hasQuery, str u.query, .bool u.hasFrag, str u.frag] 59)).alloc (.cells #[.string ⟨#[]⟩, .bool false, .string ⟨#[]⟩, .string ⟨#[]⟩, .bool false, .string ⟨#[]⟩, .bool false, .string ⟨#[]⟩] 59) := ⟨_, rfl⟩
  have hB : LB w W b u zeroU := by rw [hW]; exact LB.start w b u
  obtain ⟨rr, hrr⟩ : ∃ rr, rr = leadU b u := ⟨_, rfl⟩
  rw [← hrr]
  have HRR := Lib.hid hrr
  clear hrr
  have hvb : b.val = .agg #[str b.scheme, .bool b.hasHost, str b.host, str b.path, .bool b.hasQuery, str b.query, .bool b.hasFrag, str b.frag] := rfl
  have hvu : u.val = .agg #[str u.scheme, .bool u.hasHost, str u.host, str u.path, .bool u.hasQuery, str u.query, .bool u.hasFrag, str u.frag] := rfl
  rw [hvb, hvu]
  clear hvb hvu
  have KE := Lib.hid (fun k X => bad2_any k X)
  have KB := Lib.hid (fun X (h : MaxLenOk X) => RCheck_any b.scheme b.host b.path b.query b.frag b.hasHost b.hasQuery b.hasFrag X h)
  have KU := Lib.hid (fun X (h : MaxLenOk X) => RCheck_any u.scheme u.host u.path u.query u.frag u.hasHost u.hasQuery u.hasFrag X h)
  have eb : (⟨b.scheme, b.hasHost, b.host, b.path, b.hasQuery, b.query, b.hasFrag, b.frag⟩ : UrlD) = b := rfl
  have eu : (⟨u.scheme, u.hasHost, u.host, u.path, u.hasQuery, u.query, u.hasFrag, u.frag⟩ : UrlD) = u := rfl
  rw [eb] at KB
  rw [eu] at KU
  clear eb eu
  have HM := Lib.hid hM
  clear hM
  go_enter Tryd.func43, Tryd.ntmps43
  go_wp2_with fail
  rw [← hW]
  clear hW
  refine (KB.out _ (HM.out.below hB.bel)).mono ?_
  rintro e w1 ⟨rfl, hb1⟩
  have hL := hB.below hb1
  clear hB hb1
  by_cases hcb : checkU b = 0
  · rw [hcb]
    have Hcb := Lib.hid hcb
    clear hcb
    obtain ⟨u0, u1, u2, u3, u4, u5, u6, u7⟩ := hL.rel.box
    go_wp2_with fail
    clear u0 u1 u2 u3 u4 u5 u6 u7
    refine (KU.out _ (HM.out.below hL.bel)).mono ?_
    rintro e w2 ⟨rfl, hb2⟩
    have hC := hL.below hb2
    clear hL hb2
    by_cases hcu : checkU u = 0
    · rw [hcu]
      have Hcu := Lib.hid hcu
      clear hcu
      have hlb := check_text Hcb.out
      have hlu := check_text Hcu.out
      have hrr1 : rr = if b.scheme = [] then (zeroU, 4) else endU (undotU (ledU b u)) := by rw [HRR.out]; unfold leadU; rw [if_neg (by rw [Hcb.out]; simp), if_neg (by rw [Hcu.out]; simp)]
      have HR1 := Lib.hid hrr1
      have HLB := Lib.hid hlb
      have HLU := Lib.hid hlu
      clear hlb hlu hrr1 HRR KB KU
      generalize w2 = w1' at hC ⊢
      by_cases hbs : b.scheme = []
      · have ebs : (b.scheme == []) = true := by rw [hbs]; rfl
        have hrr2 : rr = (zeroU, 4) := by rw [HR1.out, if_pos hbs]
        have HRR2 := Lib.hid hrr2
        have b0 := hC.bas.box.1
        clear hrr2 hbs
        go_wp2_with fail
        clear b0
        refine (KE.out 4 _).mono ?_
        rintro e wZ ⟨rfl, hbZ⟩
        have hLZ := hC.below hbZ
        obtain ⟨y0, y1, y2, y3, y4, y5, y6, y7⟩ := hLZ.res.box
        obtain ⟨f0, f1, f2, f3, f4, f5, f6, f7⟩ := hLZ.fzr
        have HF := Lib.hid (hLZ.fill zeroU)
        clear hLZ hbZ hC
        go_wp2_with fail
        clear y0 y1 y2 y3 y4 y5 y6 y7 f0 f1 f2 f3 f4 f5 f6 f7
        generalize hwz : World.setCell _ _ _ = wz
        have hPz2 := HF.out
        simp only [zeroU] at hPz2
        rw [hwz] at hPz2
        obtain ⟨c0, c1, c2, c3, c4, c5, c6, c7⟩ := hPz2.res.box
        have hrr := HRR2.out
        subst hrr
        refine bodyPost_ret (v := .tuple #[zeroU.val, .int .i64 (4 : Nat)]) (by simp [results, Tryd.results43, go_sem, c0, c1, c2, c3, c4, c5, c6, c7]; try rfl) rfl ⟨rfl, hPz2.bel⟩
      · have ebs : (b.scheme == []) = false := by simpa using hbs
        have hrr2 : rr = endU (undotU (ledU b u)) := by rw [HR1.out, if_neg hbs]
        have HR2 := Lib.hid hrr2
        have b0 := hC.bas.box.1
        clear hrr2 hbs HR1
        have u0 := hC.rel.box.1
        go_upto_if 39 with (fail)
        generalize hes : u.scheme.isEmpty = es
        have HES := Lib.hid hes
        clear b0 ebs u0 hes
        go_cut [9] (fun _ wx => LB w wx b (ledU b u) zeroU)
        case first =>
          obtain ⟨u0, u1, u2, u3, u4, u5, u6, u7⟩ := hC.rel.box
          clear u1 u2 u3 u4 u5 u6 u7
          cases es
          case' true =>
            have hus : u.scheme = [] := by simpa using HES.out
            have HU1 := Lib.hid hus
            clear hus
            have b0 := hC.bas.box.1
            have yy := hC.rel.box.1
            have ff := hC.rel.fz 0
            have HN := Lib.hid (hC.r0 b.scheme)
            clear hC
            go_upto_region 12 with fail
            clear yy ff
            generalize hgw : World.setCell w1' _ _ = wA
            have hC := HN.out
            rw [hgw] at hC
            clear hgw HN
            clear u0 b0
            have u1 : wA.cell? ⟨w.heap.size + 1, 1, none⟩ = some (.bool u.hasHost) := hC.rel.box.2.1
            obtain ⟨bh, hbh⟩ : ∃ x, x = u.hasHost := ⟨_, rfl⟩
            rw [← hbh] at u1
            have HU2 := Lib.hid hbh.symm
            clear hbh
            cases bh
            · go_wp2_with fail
              clear u1
              refine wp_region_held (S := fun W' => ∃ x, LB w W' b x zeroU) (by kernel_rfl) ?_
              change wpAnyH _ _ _ _ _ _ _ _ (World.drew wA)
              have hQ := hC.drew
              generalize hgw : World.drew wA = wAd at hQ ⊢
              have hS : ∃ x, LB w wAd b x zeroU := ⟨_, hQ⟩
              clear hgw hC
              refine wpAnyH_take (i := 0) (v := ?_) rfl (by kernel_rfl) (by kernel_rfl) (by kernel_rfl) (fun _ _ _ h => h) (Or.inl ⟨by kernel_rfl, ?_⟩) hS ?_
              rotate_left 1
              · intro W' hb; go_simp; try exact rfl
              refine wpAnyH_take (i := 1) (v := ?_) rfl (by kernel_rfl) (by kernel_rfl) (by kernel_rfl) (fun _ _ _ h => h) (Or.inl ⟨by kernel_rfl, ?_⟩) hS ?_
              rotate_left 1
              · intro W' hb; obtain ⟨xx, hxx⟩ := hb; obtain ⟨b0, b1, b2, b3, b4, b5, b6, b7⟩ := hxx.bas.box; go_simp; try exact rfl
              refine wpAnyH_take (i := 2) (v := ?_) rfl (by kernel_rfl) (by kernel_rfl) (by kernel_rfl) (fun _ _ _ h => h) (Or.inl ⟨by kernel_rfl, ?_⟩) hS ?_
              rotate_left 1
              · intro W' hb; go_simp; try exact rfl
              refine wpAnyH_take (i := 3) (v := ?_) rfl (by kernel_rfl) (by kernel_rfl) (by kernel_rfl) (fun _ _ _ h => h) (Or.inl ⟨by kernel_rfl, ?_⟩) hS ?_
              rotate_left 1
              · intro W' hb; obtain ⟨xx, hxx⟩ := hb; obtain ⟨b0, b1, b2, b3, b4, b5, b6, b7⟩ := hxx.bas.box; go_simp; try exact rfl
              refine wpAnyH_take (i := 4) (v := ?_) rfl (by kernel_rfl) (by kernel_rfl) (by kernel_rfl) (fun _ _ _ h => h) (Or.inl ⟨by kernel_rfl, ?_⟩) hS ?_
              rotate_left 1
              · intro W' hb; go_simp; try exact rfl
              refine wpAnyH_all (rs := [5]) (by kernel_rfl) (by simp) ?_
              intro kk hkk
              simp only [List.mem_singleton] at hkk
              subst hkk
              go_simp
              have yy := hQ.rel.box.2.1
              have ff := hQ.rel.fz 1
              refine wpOp_store rfl (by kernel_rfl) (World.setCell wAd ⟨w.heap.size + 1, 1, none⟩ (.bool b.hasHost)) (by go_simp) ?_
              have hQ := hQ.r1 b.hasHost
              generalize hgw : World.setCell wAd ⟨w.heap.size + 1, 1, none⟩ (.bool b.hasHost) = wAd' at hQ ⊢
              have hS : ∃ x, LB w wAd' b x zeroU := ⟨_, hQ⟩
              clear hgw yy ff
              refine ⟨hS, ?_⟩
              refine wpAnyH_take (i := 6) (v := ?_) rfl (by kernel_rfl) (by kernel_rfl) (by kernel_rfl) (fun _ _ _ h => h) (Or.inl ⟨by kernel_rfl, ?_⟩) hS ?_
              rotate_left 1
              · intro W' hb; go_simp; try exact rfl
              refine wpAnyH_all (rs := [7]) (by kernel_rfl) (by simp) ?_
              intro kk hkk
              simp only [List.mem_singleton] at hkk
              subst hkk
              go_simp
              have yy := hQ.rel.box.2.2.1
              have ff := hQ.rel.fz 2
              refine wpOp_store rfl (by kernel_rfl) (World.setCell wAd' ⟨w.heap.size + 1, 2, none⟩ (str b.host)) (by go_simp) ?_
              have hQ := hQ.r2 b.host
              generalize hgw : World.setCell wAd' ⟨w.heap.size + 1, 2, none⟩ (str b.host) = wAd'' at hQ ⊢
              have hS : ∃ x, LB w wAd'' b x zeroU := ⟨_, hQ⟩
              clear hgw yy ff
              refine ⟨hS, ?_⟩
              refine wpAnyH_done (by kernel_rfl) ?_ _
              go_simp
              have hC := hQ
              clear hQ hS
              generalize wAd'' = wA2 at hC ⊢
              have u3 : wA2.cell? ⟨w.heap.size + 1, 3, none⟩ = some (str u.path) := hC.rel.box.2.2.2.1
              by_cases hup : u.path = []
              · have eup : (u.path == []) = true := by rw [hup]; rfl
                have HU3 := Lib.hid hup
                clear hup
                have b3 := hC.bas.box.2.2.2.1
                have yy := hC.rel.box.2.2.2.1
                have ff := hC.rel.fz 3
                have HN := Lib.hid (hC.r3 b.path)
                clear hC
                go_upto_region 16 with fail
                clear yy ff
                generalize hgw : World.setCell wA2 _ _ = wE
                have hC := HN.out
                rw [hgw] at hC
                clear hgw HN
                clear b3 u3
                have u4 : wE.cell? ⟨w.heap.size + 1, 4, none⟩ = some (.bool u.hasQuery) := hC.rel.box.2.2.2.2.1
                obtain ⟨bq, hbq⟩ : ∃ x, x = u.hasQuery := ⟨_, rfl⟩
                rw [← hbq] at u4
                have HU4 := Lib.hid hbq.symm
                clear hbq
                cases bq
                · go_wp2_with fail
                  clear u4
                  refine wp_region_held (S := fun W' => ∃ x, LB w W' b x zeroU) (by kernel_rfl) ?_
                  change wpAnyH _ _ _ _ _ _ _ _ (World.drew wE)
                  have hQ := hC.drew
                  generalize hgw : World.drew wE = wEd at hQ ⊢
                  have hS : ∃ x, LB w wEd b x zeroU := ⟨_, hQ⟩
                  clear hgw hC
                  refine wpAnyH_take (i := 0) (v := ?_) rfl (by kernel_rfl) (by kernel_rfl) (by kernel_rfl) (fun _ _ _ h => h) (Or.inl ⟨by kernel_rfl, ?_⟩) hS ?_
                  rotate_left 1
                  · intro W' hb; go_simp; try exact rfl
                  refine wpAnyH_take (i := 1) (v := ?_) rfl (by kernel_rfl) (by kernel_rfl) (by kernel_rfl) (fun _ _ _ h => h) (Or.inl ⟨by kernel_rfl, ?_⟩) hS ?_
                  rotate_left 1
                  · intro W' hb; obtain ⟨xx, hxx⟩ := hb; obtain ⟨b0, b1, b2, b3, b4, b5, b6, b7⟩ := hxx.bas.box; go_simp; try exact rfl
                  refine wpAnyH_take (i := 2) (v := ?_) rfl (by kernel_rfl) (by kernel_rfl) (by kernel_rfl) (fun _ _ _ h => h) (Or.inl ⟨by kernel_rfl, ?_⟩) hS ?_
                  rotate_left 1
                  · intro W' hb; go_simp; try exact rfl
                  refine wpAnyH_take (i := 3) (v := ?_) rfl (by kernel_rfl) (by kernel_rfl) (by kernel_rfl) (fun _ _ _ h => h) (Or.inl ⟨by kernel_rfl, ?_⟩) hS ?_
                  rotate_left 1
                  · intro W' hb; obtain ⟨xx, hxx⟩ := hb; obtain ⟨b0, b1, b2, b3, b4, b5, b6, b7⟩ := hxx.bas.box; go_simp; try exact rfl
                  refine wpAnyH_take (i := 4) (v := ?_) rfl (by kernel_rfl) (by kernel_rfl) (by kernel_rfl) (fun _ _ _ h => h) (Or.inl ⟨by kernel_rfl, ?_⟩) hS ?_
                  rotate_left 1
                  · intro W' hb; go_simp; try exact rfl
                  refine wpAnyH_all (rs := [5]) (by kernel_rfl) (by simp) ?_
                  intro kk hkk
                  simp only [List.mem_singleton] at hkk
                  subst hkk
                  go_simp
                  have yy := hQ.rel.box.2.2.2.2.1
                  have ff := hQ.rel.fz 4
                  refine wpOp_store rfl (by kernel_rfl) (World.setCell wEd ⟨w.heap.size + 1, 4, none⟩ (.bool b.hasQuery)) (by go_simp) ?_
                  have hQ := hQ.r4 b.hasQuery
                  generalize hgw : World.setCell wEd ⟨w.heap.size + 1, 4, none⟩ (.bool b.hasQuery) = wEd' at hQ ⊢
                  have hS : ∃ x, LB w wEd' b x zeroU := ⟨_, hQ⟩
                  clear hgw yy ff
                  refine ⟨hS, ?_⟩
                  refine wpAnyH_take (i := 6) (v := ?_) rfl (by kernel_rfl) (by kernel_rfl) (by kernel_rfl) (fun _ _ _ h => h) (Or.inl ⟨by kernel_rfl, ?_⟩) hS ?_
                  rotate_left 1
                  · intro W' hb; go_simp; try exact rfl
                  refine wpAnyH_all (rs := [7]) (by kernel_rfl) (by simp) ?_
                  intro kk hkk
                  simp only [List.mem_singleton] at hkk
                  subst hkk
                  go_simp
                  have yy := hQ.rel.box.2.2.2.2.2.1
                  have ff := hQ.rel.fz 5
                  refine wpOp_store rfl (by kernel_rfl) (World.setCell wEd' ⟨w.heap.size + 1, 5, none⟩ (str b.query)) (by go_simp) ?_
                  have hQ := hQ.r5 b.query
                  generalize hgw : World.setCell wEd' ⟨w.heap.size + 1, 5, none⟩ (str b.query) = wEd'' at hQ ⊢
                  have hS : ∃ x, LB w wEd'' b x zeroU := ⟨_, hQ⟩
                  clear hgw yy ff
                  refine ⟨hS, ?_⟩
                  refine wpAnyH_done (by kernel_rfl) ?_ _
                  go_simp
                  have hC := hQ
                  clear hQ hS
                  generalize wEd'' = wE2 at hC ⊢
                  go_wp2_with fail
                  go_meet
                  have hled : ledU b u = { u with scheme := b.scheme, hasHost := b.hasHost, host := b.host, path := b.path, hasQuery := b.hasQuery, query := b.query } := by
                    unfold ledU
                    rw [if_neg (by rw [HU1.out]; simp), HU2.out, if_neg (by simp), if_pos HU3.out, HU4.out, if_neg (by simp)]
                  rw [hled]
                  exact hC
                · go_wp2_with fail
                  clear u4
                  go_meet
                  have hled : ledU b u = { u with scheme := b.scheme, hasHost := b.hasHost, host := b.host, path := b.path } := by
                    unfold ledU
                    rw [if_neg (by rw [HU1.out]; simp), HU2.out, if_neg (by simp), if_pos HU3.out, HU4.out, if_pos rfl]
                  rw [hled]
                  exact hC
              · have eup : (u.path == []) = false := by simpa using hup
                have kP := fun X => HasPrefix_any u.path [47] X
                have HU3 := Lib.hid hup
                by_cases h47 : nth u.path 0 = 47
                · have HU4 := Lib.hid h47
                  rw [prefix_one.2 ⟨hup, h47⟩] at kP
                  have KP := Lib.hid kP
                  clear hup kP h47
                  go_wp2_with fail
                  refine (KP.out _).mono ?_
                  rintro e wP ⟨rfl, rfl⟩
                  go_wp2_with fail
                  go_meet
                  have hled : ledU b u = { u with scheme := b.scheme, hasHost := b.hasHost, host := b.host } := by
                    unfold ledU
                    rw [if_neg (by rw [HU1.out]; simp), HU2.out, if_neg (by simp), if_neg HU3.out, if_pos HU4.out]
                  rw [hled]
                  exact hC
                · have HU4 := Lib.hid h47
                  have hpf : Lib.hasPrefix u.path [47] = false := by
                    cases hpq : Lib.hasPrefix u.path [47] with
                    | true => exact absurd (prefix_one.1 hpq).2 h47
                    | false => rfl
                  rw [hpf] at kP
                  have KP := Lib.hid kP
                  clear hup kP h47 hpf
                  go_wp2_with fail
                  refine (KP.out _).mono ?_
                  rintro e wP ⟨rfl, rfl⟩
                  have b1 := hC.bas.box.2.1
                  have b3 := hC.bas.box.2.2.2.1
                  have kI := fun X => LastIndex_any b.path X (by have := HLB.out.2.2.1; omega)
                  have hmd := merged_dir b u.path
                  have hrg := lastIdx_range b.path
                  obtain ⟨k, hk⟩ : ∃ k, k = Lib.lastIndexByte ⟨b.path.toArray⟩ 47 := ⟨_, rfl⟩
                  rw [← hk] at kI hmd hrg
                  have Hk := Lib.hid hk
                  have KI := Lib.hid kI
                  clear kI hk
                  obtain ⟨bh, hbh⟩ : ∃ x, x = b.hasHost := ⟨_, rfl⟩
                  rw [← hbh] at b1 hmd
                  clear hbh
                  by_cases hbp : b.path = []
                  · have ebp : (b.path == []) = true := by rw [hbp]; rfl
                    have hk1 : k = -1 := by rw [Hk.out, hbp]; rfl
                    have d0 : decide (0 ≤ k) = false := by rw [hk1]; rfl
                    have d1 : ¬ (0 : Int) ≤ k := by omega
                    have d2 : k < 0 := by omega
                    rw [ebp] at hmd
                    have Hk1 := Lib.hid hk1
                    have Hbp := Lib.hid hbp
                    clear hk1 hbp hrg
                    cases bh
                    · have Hd : Hid (([] : List UInt8) ++ u.path = mergedU b u.path) := by show _ = _; rw [← hmd, Hbp.out]; simp
                      clear hmd
                      have hdl : (([] : List UInt8)).length + u.path.length ≤ 9223372036854775807 := by
                        have := HLU.out.2.2.1
                        have hl2 : (([] : List UInt8)).length ≤ 1000 := by
                          first
                          | decide
                          | (have := List.length_take_le kn b.path; have := HLB.out.2.2.1; omega)
                        omega
                      have yy := hC.rel.box.2.2.2.1
                      have ff := hC.rel.fz 3
                      have HN := Lib.hid (hC.r3 (([] : List UInt8) ++ u.path))
                      clear hC
                      go_wp2_with fail
                      refine (KI.out _).mono ?_
                      rintro e wI ⟨rfl, rfl⟩
                      go_wp2_with fail
                      go_meet
                      have hled : ledU b u = { u with scheme := b.scheme, hasHost := b.hasHost, host := b.host, path := mergedU b u.path } := by
                        unfold ledU
                        rw [if_neg (by rw [HU1.out]; simp), HU2.out, if_neg (by simp), if_neg HU3.out, if_neg HU4.out]
                      rw [hled]
                      exact (by have h := HN.out; have hd := Hd.out; rw [← hd]; exact h)
                    · have Hd : Hid (([47] : List UInt8) ++ u.path = mergedU b u.path) := by show _ = _; rw [← hmd]; rfl
                      clear hmd
                      have hdl : (([47] : List UInt8)).length + u.path.length ≤ 9223372036854775807 := by
                        have := HLU.out.2.2.1
                        have hl2 : (([47] : List UInt8)).length ≤ 1000 := by
                          first
                          | decide
                          | (have := List.length_take_le kn b.path; have := HLB.out.2.2.1; omega)
                        omega
                      have yy := hC.rel.box.2.2.2.1
                      have ff := hC.rel.fz 3
                      have HN := Lib.hid (hC.r3 (([47] : List UInt8) ++ u.path))
                      clear hC
                      go_wp2_with fail
                      refine (KI.out _).mono ?_
                      rintro e wI ⟨rfl, rfl⟩
                      go_wp2_with fail
                      go_meet
                      have hled : ledU b u = { u with scheme := b.scheme, hasHost := b.hasHost, host := b.host, path := mergedU b u.path } := by
                        unfold ledU
                        rw [if_neg (by rw [HU1.out]; simp), HU2.out, if_neg (by simp), if_neg HU3.out, if_neg HU4.out]
                      rw [hled]
                      exact (by have h := HN.out; have hd := Hd.out; rw [← hd]; exact h)
                  · have ebp : (b.path == []) = false := by simpa using hbp
                    rw [ebp] at hmd
                    by_cases h0 : 0 ≤ k
                    · have d0 : decide (0 ≤ k) = true := decide_eq_true h0
                      have k3 : IntKind.i64.wrap (k + 1) = k + 1 := IntWalk.i64_in _ (by have := HLB.out.2.2.1; omega)
                      have k4 : (0 : Int) ≤ k + 1 := by omega
                      have k6 : k + 1 ≤ (b.path.length : Int) := by omega
                      obtain ⟨kn, hkn⟩ : ∃ kn, kn = (k + 1).toNat := ⟨_, rfl⟩
                      have k5 : (k + 1).toNat = kn := hkn.symm
                      have hkl : kn ≤ b.path.length := by omega
                      have Hd : Hid (b.path.take kn ++ u.path = mergedU b u.path) := by show _ = _; rw [← hmd, k5]; cases bh <;> rfl
                      clear hmd hkn hrg hbp
                      cases bh
                      · skip
                        have hdl : (b.path.take kn).length + u.path.length ≤ 9223372036854775807 := by
                          have := HLU.out.2.2.1
                          have hl2 : (b.path.take kn).length ≤ 1000 := by
                            first
                            | decide
                            | (have := List.length_take_le kn b.path; have := HLB.out.2.2.1; omega)
                          omega
                        have yy := hC.rel.box.2.2.2.1
                        have ff := hC.rel.fz 3
                        have HN := Lib.hid (hC.r3 (b.path.take kn ++ u.path))
                        clear hC
                        go_wp2_with fail
                        refine (KI.out _).mono ?_
                        rintro e wI ⟨rfl, rfl⟩
                        go_wp2_with fail
                        go_meet
                        have hled : ledU b u = { u with scheme := b.scheme, hasHost := b.hasHost, host := b.host, path := mergedU b u.path } := by
                          unfold ledU
                          rw [if_neg (by rw [HU1.out]; simp), HU2.out, if_neg (by simp), if_neg HU3.out, if_neg HU4.out]
                        rw [hled]
                        exact (by have h := HN.out; have hd := Hd.out; rw [← hd]; exact h)
                      · skip
                        have hdl : (b.path.take kn).length + u.path.length ≤ 9223372036854775807 := by
                          have := HLU.out.2.2.1
                          have hl2 : (b.path.take kn).length ≤ 1000 := by
                            first
                            | decide
                            | (have := List.length_take_le kn b.path; have := HLB.out.2.2.1; omega)
                          omega
                        have yy := hC.rel.box.2.2.2.1
                        have ff := hC.rel.fz 3
                        have HN := Lib.hid (hC.r3 (b.path.take kn ++ u.path))
                        clear hC
                        go_wp2_with fail
                        refine (KI.out _).mono ?_
                        rintro e wI ⟨rfl, rfl⟩
                        go_wp2_with fail
                        go_meet
                        have hled : ledU b u = { u with scheme := b.scheme, hasHost := b.hasHost, host := b.host, path := mergedU b u.path } := by
                          unfold ledU
                          rw [if_neg (by rw [HU1.out]; simp), HU2.out, if_neg (by simp), if_neg HU3.out, if_neg HU4.out]
                        rw [hled]
                        exact (by have h := HN.out; have hd := Hd.out; rw [← hd]; exact h)
                    · have d0 : decide (0 ≤ k) = false := decide_eq_false h0
                      have d2 : k < 0 := by omega
                      have hk1 : k = -1 := by omega
                      have Hd : Hid (([] : List UInt8) ++ u.path = mergedU b u.path) := by show _ = _; rw [← hmd, hk1]; cases bh <;> simp
                      clear hmd hrg hbp hk1
                      cases bh
                      · skip
                        have hdl : (([] : List UInt8)).length + u.path.length ≤ 9223372036854775807 := by
                          have := HLU.out.2.2.1
                          have hl2 : (([] : List UInt8)).length ≤ 1000 := by
                            first
                            | decide
                            | (have := List.length_take_le kn b.path; have := HLB.out.2.2.1; omega)
                          omega
                        have yy := hC.rel.box.2.2.2.1
                        have ff := hC.rel.fz 3
                        have HN := Lib.hid (hC.r3 (([] : List UInt8) ++ u.path))
                        clear hC
                        go_wp2_with fail
                        refine (KI.out _).mono ?_
                        rintro e wI ⟨rfl, rfl⟩
                        go_wp2_with fail
                        go_meet
                        have hled : ledU b u = { u with scheme := b.scheme, hasHost := b.hasHost, host := b.host, path := mergedU b u.path } := by
                          unfold ledU
                          rw [if_neg (by rw [HU1.out]; simp), HU2.out, if_neg (by simp), if_neg HU3.out, if_neg HU4.out]
                        rw [hled]
                        exact (by have h := HN.out; have hd := Hd.out; rw [← hd]; exact h)
                      · skip
                        have hdl : (([] : List UInt8)).length + u.path.length ≤ 9223372036854775807 := by
                          have := HLU.out.2.2.1
                          have hl2 : (([] : List UInt8)).length ≤ 1000 := by
                            first
                            | decide
                            | (have := List.length_take_le kn b.path; have := HLB.out.2.2.1; omega)
                          omega
                        have yy := hC.rel.box.2.2.2.1
                        have ff := hC.rel.fz 3
                        have HN := Lib.hid (hC.r3 (([] : List UInt8) ++ u.path))
                        clear hC
                        go_wp2_with fail
                        refine (KI.out _).mono ?_
                        rintro e wI ⟨rfl, rfl⟩
                        go_wp2_with fail
                        go_meet
                        have hled : ledU b u = { u with scheme := b.scheme, hasHost := b.hasHost, host := b.host, path := mergedU b u.path } := by
                          unfold ledU
                          rw [if_neg (by rw [HU1.out]; simp), HU2.out, if_neg (by simp), if_neg HU3.out, if_neg HU4.out]
                        rw [hled]
                        exact (by have h := HN.out; have hd := Hd.out; rw [← hd]; exact h)
            · go_wp2_with fail
              clear u1
              go_meet
              have hled : ledU b u = { u with scheme := b.scheme } := by
                unfold ledU
                rw [if_neg (by rw [HU1.out]; simp), HU2.out, if_pos rfl]
              rw [hled]
              exact hC
          case' false =>
            have hus : ¬ u.scheme = [] := by simpa using HES.out
            have HU1 := Lib.hid hus
            clear hus
            go_wp2_with fail
            go_meet
            have hled : ledU b u = u := by unfold ledU; rw [if_pos HU1.out]
            rw [hled]
            exact hC
        case rest =>
          have hlen : (ledU b u).path.length ≤ 1000 := by have := led_len b u; have := HLB.out.2.2.1; have := HLU.out.2.2.1; omega
          have hroot := led_root Hcb.out Hcu.out
          have hE := HR2.out
          have HM2 := Lib.hid (HM.out.below hcut.bel)
          have hC := hcut
          clear hcut HR2
          generalize wc = wX at hC HM2 ⊢
          generalize ledU b u = x at hC hE hlen hroot
          obtain ⟨sc, hh, ho, pa, hq, qu, hf, fr⟩ := x
          simp only at hlen hroot
          have u1 : wX.cell? ⟨w.heap.size + 1, 1, none⟩ = some (.bool hh) := hC.rel.box.2.1
          have u3 : wX.cell? ⟨w.heap.size + 1, 3, none⟩ = some (str pa) := hC.rel.box.2.2.2.1
          have kP := fun X => HasPrefix_any pa [47] X
          cases hh
          · cases hp : Lib.hasPrefix pa [47]
            · have HE : Hid (rr = endU ⟨sc, false, ho, pa, hq, qu, hf, fr⟩) := by show _ = _; rw [hE]; unfold undotU; rw [if_neg (by simp only; rw [hp]; simp)]
              rw [hp] at kP
              have KP0 := Lib.hid kP
              clear kP hp hroot hE
              go_wp2_with fail
              refine (KP0.out _).mono ?_
              rintro e wP0 ⟨rfl, rfl⟩
              go_upto_region 28 with fail
              clear u1 u3
              have hE := HE.out
              rw [end_ref] at hE
              simp only at hE
              clear HE
              have KC := Lib.hid (fun X (h : MaxLenOk X) => RCheck_any sc ho pa qu fr false hq hf X h)
              have HM3 := Lib.hid (HM.out.below hC.bel)
              obtain ⟨u0, u1, u2, u3, u4, u5, u6, u7⟩ := hC.rel.box
              go_wp2_with fail
              clear u0 u1 u2 u3 u4 u5 u6 u7
              refine (KC.out _ HM3.out).mono ?_
              rintro e wK ⟨rfl, hbK⟩
              have hCK := hC.below hbK
              clear hC hbK KC HM3
              by_cases hc : checkU ⟨sc, false, ho, pa, hq, qu, hf, fr⟩ = 0
              · rw [hc]
                rw [if_pos hc] at hE
                have HRR3 := Lib.hid hE
                clear hc hE
                obtain ⟨u0, u1, u2, u3, u4, u5, u6, u7⟩ := hCK.rel.box
                obtain ⟨y0, y1, y2, y3, y4, y5, y6, y7⟩ := hCK.res.box
                obtain ⟨f0, f1, f2, f3, f4, f5, f6, f7⟩ := hCK.fzr
                have HF := Lib.hid (hCK.fill ⟨sc, false, ho, pa, hq, qu, hf, fr⟩)
                clear hCK
                go_wp2_with fail
                clear y0 y1 y2 y3 y4 y5 y6 y7 f0 f1 f2 f3 f4 f5 f6 f7 u0 u1 u2 u3 u4 u5 u6 u7
                generalize hwz : World.setCell _ _ _ = wz
                have hPz := HF.out
                rw [hwz] at hPz
                obtain ⟨c0, c1, c2, c3, c4, c5, c6, c7⟩ := hPz.res.box
                have hrr := HRR3.out
                subst hrr
                refine bodyPost_ret (v := .tuple #[UrlD.val ⟨sc, false, ho, pa, hq, qu, hf, fr⟩, .int .i64 0]) (by simp [results, Tryd.results43, go_sem, c0, c1, c2, c3, c4, c5, c6, c7]; try rfl) rfl ⟨rfl, hPz.bel⟩
              · rw [if_neg hc] at hE
                generalize hkk : checkU ⟨sc, false, ho, pa, hq, qu, hf, fr⟩ = kk at hc hE ⊢
                clear hkk
                have ekk : ((kk : Int) != 0) = true := by simp; omega
                have u1 : wK.cell? ⟨w.heap.size + 1, 1, none⟩ = some (.bool false) := hCK.rel.box.2.1
                have u3 : wK.cell? ⟨w.heap.size + 1, 3, none⟩ = some (str pa) := hCK.rel.box.2.2.2.1
                have kP := fun X => HasPrefix_any pa [47, 47] X
                cases hp : Lib.hasPrefix pa [47, 47]
                · rw [hp] at hE kP
                  have hE2 : rr = (zeroU, kk) := hE
                  have HRR3 := Lib.hid hE2
                  have KP := Lib.hid kP
                  clear hE hE2 kP hp hc
                  go_wp2_with fail
                  refine (KP.out _).mono ?_
                  rintro e wP ⟨rfl, rfl⟩
                  go_wp2_with fail
                  clear u1 u3
                  refine (KE.out kk _).mono ?_
                  rintro e wZ ⟨rfl, hbZ⟩
                  have hLZ := hCK.below hbZ
                  obtain ⟨y0, y1, y2, y3, y4, y5, y6, y7⟩ := hLZ.res.box
                  obtain ⟨f0, f1, f2, f3, f4, f5, f6, f7⟩ := hLZ.fzr
                  have HF := Lib.hid (hLZ.fill zeroU)
                  clear hLZ hbZ hCK
                  go_wp2_with fail
                  clear y0 y1 y2 y3 y4 y5 y6 y7 f0 f1 f2 f3 f4 f5 f6 f7
                  generalize hwz : World.setCell _ _ _ = wz
                  have hPz2 := HF.out
                  simp only [zeroU] at hPz2
                  rw [hwz] at hPz2
                  obtain ⟨c0, c1, c2, c3, c4, c5, c6, c7⟩ := hPz2.res.box
                  have hrr := HRR3.out
                  subst hrr
                  refine bodyPost_ret (v := .tuple #[zeroU.val, .int .i64 (kk : Nat)]) (by simp [results, Tryd.results43, go_sem, c0, c1, c2, c3, c4, c5, c6, c7]; try rfl) rfl ⟨rfl, hPz2.bel⟩
                · rw [hp] at hE kP
                  have hE2 : rr = (zeroU, 4) := hE
                  have HRR3 := Lib.hid hE2
                  have KP := Lib.hid kP
                  clear hE hE2 kP hp hc
                  go_wp2_with fail
                  refine (KP.out _).mono ?_
                  rintro e wP ⟨rfl, rfl⟩
                  go_wp2_with fail
                  clear u1 u3
                  refine (KE.out 4 _).mono ?_
                  rintro e wZ ⟨rfl, hbZ⟩
                  have hLZ := hCK.below hbZ
                  obtain ⟨y0, y1, y2, y3, y4, y5, y6, y7⟩ := hLZ.res.box
                  obtain ⟨f0, f1, f2, f3, f4, f5, f6, f7⟩ := hLZ.fzr
                  have HF := Lib.hid (hLZ.fill zeroU)
                  clear hLZ hbZ hCK
                  go_wp2_with fail
                  clear y0 y1 y2 y3 y4 y5 y6 y7 f0 f1 f2 f3 f4 f5 f6 f7
                  generalize hwz : World.setCell _ _ _ = wz
                  have hPz2 := HF.out
                  simp only [zeroU] at hPz2
                  rw [hwz] at hPz2
                  obtain ⟨c0, c1, c2, c3, c4, c5, c6, c7⟩ := hPz2.res.box
                  have hrr := HRR3.out
                  subst hrr
                  refine bodyPost_ret (v := .tuple #[zeroU.val, .int .i64 (4 : Nat)]) (by simp [results, Tryd.results43, go_sem, c0, c1, c2, c3, c4, c5, c6, c7]; try rfl) rfl ⟨rfl, hPz2.bel⟩
            · have HE : Hid (rr = endU ⟨sc, false, ho, dotsU pa, hq, qu, hf, fr⟩) := by show _ = _; rw [hE]; unfold undotU; rw [if_pos (by simp only; rw [hp]; simp)]
              have KD := Lib.hid (fun X (hX : MaxLenOk X) => undotted_any pa X hX hlen (.inr hp))
              rw [hp] at kP
              have KP0 := Lib.hid kP
              clear kP hp hroot hE
              go_wp2_with fail
              refine (KP0.out _).mono ?_
              rintro e wP0 ⟨rfl, rfl⟩
              go_wp2_with fail
              clear u1 u3
              refine (KD.out _ (HM2.out)).mono ?_
              rintro e wD ⟨rfl, hbD⟩
              have hC2 := hC.below hbD
              clear hC hbD
              have yy := hC2.rel.box.2.2.2.1
              have ff := hC2.rel.fz 3
              have HN := Lib.hid (hC2.r3 (dotsU pa))
              clear hC2
              go_upto_region 28 with fail
              clear yy ff
              generalize hgw : World.setCell wD _ _ = wX2
              have hC := HN.out
              rw [hgw] at hC
              clear hgw HN
              generalize dotsU pa = pd at hC HE
              have hE := HE.out
              rw [end_ref] at hE
              simp only at hE
              clear HE
              have KC := Lib.hid (fun X (h : MaxLenOk X) => RCheck_any sc ho pd qu fr false hq hf X h)
              have HM3 := Lib.hid (HM.out.below hC.bel)
              obtain ⟨u0, u1, u2, u3, u4, u5, u6, u7⟩ := hC.rel.box
              go_wp2_with fail
              clear u0 u1 u2 u3 u4 u5 u6 u7
              refine (KC.out _ HM3.out).mono ?_
              rintro e wK ⟨rfl, hbK⟩
              have hCK := hC.below hbK
              clear hC hbK KC HM3
              by_cases hc : checkU ⟨sc, false, ho, pd, hq, qu, hf, fr⟩ = 0
              · rw [hc]
                rw [if_pos hc] at hE
                have HRR3 := Lib.hid hE
                clear hc hE
                obtain ⟨u0, u1, u2, u3, u4, u5, u6, u7⟩ := hCK.rel.box
                obtain ⟨y0, y1, y2, y3, y4, y5, y6, y7⟩ := hCK.res.box
                obtain ⟨f0, f1, f2, f3, f4, f5, f6, f7⟩ := hCK.fzr
                have HF := Lib.hid (hCK.fill ⟨sc, false, ho, pd, hq, qu, hf, fr⟩)
                clear hCK
                go_wp2_with fail
                clear y0 y1 y2 y3 y4 y5 y6 y7 f0 f1 f2 f3 f4 f5 f6 f7 u0 u1 u2 u3 u4 u5 u6 u7
                generalize hwz : World.setCell _ _ _ = wz
                have hPz := HF.out
                rw [hwz] at hPz
                obtain ⟨c0, c1, c2, c3, c4, c5, c6, c7⟩ := hPz.res.box
                have hrr := HRR3.out
                subst hrr
                refine bodyPost_ret (v := .tuple #[UrlD.val ⟨sc, false, ho, pd, hq, qu, hf, fr⟩, .int .i64 0]) (by simp [results, Tryd.results43, go_sem, c0, c1, c2, c3, c4, c5, c6, c7]; try rfl) rfl ⟨rfl, hPz.bel⟩
              · rw [if_neg hc] at hE
                generalize hkk : checkU ⟨sc, false, ho, pd, hq, qu, hf, fr⟩ = kk at hc hE ⊢
                clear hkk
                have ekk : ((kk : Int) != 0) = true := by simp; omega
                have u1 : wK.cell? ⟨w.heap.size + 1, 1, none⟩ = some (.bool false) := hCK.rel.box.2.1
                have u3 : wK.cell? ⟨w.heap.size + 1, 3, none⟩ = some (str pd) := hCK.rel.box.2.2.2.1
                have kP := fun X => HasPrefix_any pd [47, 47] X
                cases hp : Lib.hasPrefix pd [47, 47]
                · rw [hp] at hE kP
                  have hE2 : rr = (zeroU, kk) := hE
                  have HRR3 := Lib.hid hE2
                  have KP := Lib.hid kP
                  clear hE hE2 kP hp hc
                  go_wp2_with fail
                  refine (KP.out _).mono ?_
                  rintro e wP ⟨rfl, rfl⟩
                  go_wp2_with fail
                  clear u1 u3
                  refine (KE.out kk _).mono ?_
                  rintro e wZ ⟨rfl, hbZ⟩
                  have hLZ := hCK.below hbZ
                  obtain ⟨y0, y1, y2, y3, y4, y5, y6, y7⟩ := hLZ.res.box
                  obtain ⟨f0, f1, f2, f3, f4, f5, f6, f7⟩ := hLZ.fzr
                  have HF := Lib.hid (hLZ.fill zeroU)
                  clear hLZ hbZ hCK
                  go_wp2_with fail
                  clear y0 y1 y2 y3 y4 y5 y6 y7 f0 f1 f2 f3 f4 f5 f6 f7
                  generalize hwz : World.setCell _ _ _ = wz
                  have hPz2 := HF.out
                  simp only [zeroU] at hPz2
                  rw [hwz] at hPz2
                  obtain ⟨c0, c1, c2, c3, c4, c5, c6, c7⟩ := hPz2.res.box
                  have hrr := HRR3.out
                  subst hrr
                  refine bodyPost_ret (v := .tuple #[zeroU.val, .int .i64 (kk : Nat)]) (by simp [results, Tryd.results43, go_sem, c0, c1, c2, c3, c4, c5, c6, c7]; try rfl) rfl ⟨rfl, hPz2.bel⟩
                · rw [hp] at hE kP
                  have hE2 : rr = (zeroU, 4) := hE
                  have HRR3 := Lib.hid hE2
                  have KP := Lib.hid kP
                  clear hE hE2 kP hp hc
                  go_wp2_with fail
                  refine (KP.out _).mono ?_
                  rintro e wP ⟨rfl, rfl⟩
                  go_wp2_with fail
                  clear u1 u3
                  refine (KE.out 4 _).mono ?_
                  rintro e wZ ⟨rfl, hbZ⟩
                  have hLZ := hCK.below hbZ
                  obtain ⟨y0, y1, y2, y3, y4, y5, y6, y7⟩ := hLZ.res.box
                  obtain ⟨f0, f1, f2, f3, f4, f5, f6, f7⟩ := hLZ.fzr
                  have HF := Lib.hid (hLZ.fill zeroU)
                  clear hLZ hbZ hCK
                  go_wp2_with fail
                  clear y0 y1 y2 y3 y4 y5 y6 y7 f0 f1 f2 f3 f4 f5 f6 f7
                  generalize hwz : World.setCell _ _ _ = wz
                  have hPz2 := HF.out
                  simp only [zeroU] at hPz2
                  rw [hwz] at hPz2
                  obtain ⟨c0, c1, c2, c3, c4, c5, c6, c7⟩ := hPz2.res.box
                  have hrr := HRR3.out
                  subst hrr
                  refine bodyPost_ret (v := .tuple #[zeroU.val, .int .i64 (4 : Nat)]) (by simp [results, Tryd.results43, go_sem, c0, c1, c2, c3, c4, c5, c6, c7]; try rfl) rfl ⟨rfl, hPz2.bel⟩
          · have HE : Hid (rr = endU ⟨sc, true, ho, dotsU pa, hq, qu, hf, fr⟩) := by show _ = _; rw [hE]; unfold undotU; rw [if_pos (by simp)]
            have KD := Lib.hid (fun X (hX : MaxLenOk X) => undotted_any pa X hX hlen (hroot rfl))
            clear kP hroot hE
            go_wp2_with fail
            clear u1 u3
            refine (KD.out _ (HM2.out)).mono ?_
            rintro e wD ⟨rfl, hbD⟩
            have hC2 := hC.below hbD
            clear hC hbD
            have yy := hC2.rel.box.2.2.2.1
            have ff := hC2.rel.fz 3
            have HN := Lib.hid (hC2.r3 (dotsU pa))
            clear hC2
            go_upto_region 28 with fail
            clear yy ff
            generalize hgw : World.setCell wD _ _ = wX2
            have hC := HN.out
            rw [hgw] at hC
            clear hgw HN
            generalize dotsU pa = pd at hC HE
            have hE := HE.out
            rw [end_ref] at hE
            simp only at hE
            clear HE
            have KC := Lib.hid (fun X (h : MaxLenOk X) => RCheck_any sc ho pd qu fr true hq hf X h)
            have HM3 := Lib.hid (HM.out.below hC.bel)
            obtain ⟨u0, u1, u2, u3, u4, u5, u6, u7⟩ := hC.rel.box
            go_wp2_with fail
            clear u0 u1 u2 u3 u4 u5 u6 u7
            refine (KC.out _ HM3.out).mono ?_
            rintro e wK ⟨rfl, hbK⟩
            have hCK := hC.below hbK
            clear hC hbK KC HM3
            by_cases hc : checkU ⟨sc, true, ho, pd, hq, qu, hf, fr⟩ = 0
            · rw [hc]
              rw [if_pos hc] at hE
              have HRR3 := Lib.hid hE
              clear hc hE
              obtain ⟨u0, u1, u2, u3, u4, u5, u6, u7⟩ := hCK.rel.box
              obtain ⟨y0, y1, y2, y3, y4, y5, y6, y7⟩ := hCK.res.box
              obtain ⟨f0, f1, f2, f3, f4, f5, f6, f7⟩ := hCK.fzr
              have HF := Lib.hid (hCK.fill ⟨sc, true, ho, pd, hq, qu, hf, fr⟩)
              clear hCK
              go_wp2_with fail
              clear y0 y1 y2 y3 y4 y5 y6 y7 f0 f1 f2 f3 f4 f5 f6 f7 u0 u1 u2 u3 u4 u5 u6 u7
              generalize hwz : World.setCell _ _ _ = wz
              have hPz := HF.out
              rw [hwz] at hPz
              obtain ⟨c0, c1, c2, c3, c4, c5, c6, c7⟩ := hPz.res.box
              have hrr := HRR3.out
              subst hrr
              refine bodyPost_ret (v := .tuple #[UrlD.val ⟨sc, true, ho, pd, hq, qu, hf, fr⟩, .int .i64 0]) (by simp [results, Tryd.results43, go_sem, c0, c1, c2, c3, c4, c5, c6, c7]; try rfl) rfl ⟨rfl, hPz.bel⟩
            · rw [if_neg hc] at hE
              generalize hkk : checkU ⟨sc, true, ho, pd, hq, qu, hf, fr⟩ = kk at hc hE ⊢
              clear hkk
              have ekk : ((kk : Int) != 0) = true := by simp; omega
              have u1 : wK.cell? ⟨w.heap.size + 1, 1, none⟩ = some (.bool true) := hCK.rel.box.2.1
              have hE2 : rr = (zeroU, kk) := hE
              have HRR3 := Lib.hid hE2
              clear hE hE2 hc
              go_wp2_with fail
              clear u1
              refine (KE.out kk _).mono ?_
              rintro e wZ ⟨rfl, hbZ⟩
              have hLZ := hCK.below hbZ
              obtain ⟨y0, y1, y2, y3, y4, y5, y6, y7⟩ := hLZ.res.box
              obtain ⟨f0, f1, f2, f3, f4, f5, f6, f7⟩ := hLZ.fzr
              have HF := Lib.hid (hLZ.fill zeroU)
              clear hLZ hbZ hCK
              go_wp2_with fail
              clear y0 y1 y2 y3 y4 y5 y6 y7 f0 f1 f2 f3 f4 f5 f6 f7
              generalize hwz : World.setCell _ _ _ = wz
              have hPz2 := HF.out
              simp only [zeroU] at hPz2
              rw [hwz] at hPz2
              obtain ⟨c0, c1, c2, c3, c4, c5, c6, c7⟩ := hPz2.res.box
              have hrr := HRR3.out
              subst hrr
              refine bodyPost_ret (v := .tuple #[zeroU.val, .int .i64 (kk : Nat)]) (by simp [results, Tryd.results43, go_sem, c0, c1, c2, c3, c4, c5, c6, c7]; try rfl) rfl ⟨rfl, hPz2.bel⟩

    · have hrr2 : rr = (zeroU, checkU u) := by rw [HRR.out]; unfold leadU; rw [if_neg (by rw [Hcb.out]; simp), if_pos hcu]
      generalize checkU u = kk at hcu hrr2 ⊢
      have ekk : ((kk : Int) != 0) = true := by simp; omega
      have HRR2 := Lib.hid hrr2
      clear hrr2 hcu
      go_wp2_with fail
      refine (KE.out kk _).mono ?_
      rintro e wZ ⟨rfl, hbZ⟩
      have hLZ := hC.below hbZ
      obtain ⟨y0, y1, y2, y3, y4, y5, y6, y7⟩ := hLZ.res.box
      obtain ⟨f0, f1, f2, f3, f4, f5, f6, f7⟩ := hLZ.fzr
      have HF := Lib.hid (hLZ.fill zeroU)
      clear hLZ hbZ hC
      go_wp2_with fail
      clear y0 y1 y2 y3 y4 y5 y6 y7 f0 f1 f2 f3 f4 f5 f6 f7
      generalize hwz : World.setCell _ _ _ = wz
      have hPz2 := HF.out
      simp only [zeroU] at hPz2
      rw [hwz] at hPz2
      obtain ⟨c0, c1, c2, c3, c4, c5, c6, c7⟩ := hPz2.res.box
      have hrr := HRR2.out
      subst hrr
      refine bodyPost_ret (v := .tuple #[zeroU.val, .int .i64 (kk : Nat)]) (by simp [results, Tryd.results43, go_sem, c0, c1, c2, c3, c4, c5, c6, c7]; try rfl) rfl ⟨rfl, hPz2.bel⟩
  · have hrr2 : rr = (zeroU, checkU b) := by rw [HRR.out]; unfold leadU; rw [if_pos hcb]
    generalize checkU b = kk at hcb hrr2 ⊢
    have ekk : ((kk : Int) != 0) = true := by simp; omega
    have HRR2 := Lib.hid hrr2
    clear hrr2 hcb
    go_wp2_with fail
    refine (KE.out kk _).mono ?_
    rintro e wZ ⟨rfl, hbZ⟩
    have hLZ := hL.below hbZ
    obtain ⟨y0, y1, y2, y3, y4, y5, y6, y7⟩ := hLZ.res.box
    obtain ⟨f0, f1, f2, f3, f4, f5, f6, f7⟩ := hLZ.fzr
    have HF := Lib.hid (hLZ.fill zeroU)
    clear hLZ hbZ hL
    go_wp2_with fail
    clear y0 y1 y2 y3 y4 y5 y6 y7 f0 f1 f2 f3 f4 f5 f6 f7
    generalize hwz : World.setCell _ _ _ = wz
    have hPz2 := HF.out
    simp only [zeroU] at hPz2
    rw [hwz] at hPz2
    obtain ⟨c0, c1, c2, c3, c4, c5, c6, c7⟩ := hPz2.res.box
    have hrr := HRR2.out
    subst hrr
    refine bodyPost_ret (v := .tuple #[zeroU.val, .int .i64 (kk : Nat)]) (by simp [results, Tryd.results43, go_sem, c0, c1, c2, c3, c4, c5, c6, c7]; try rfl) rfl ⟨rfl, hPz2.bel⟩
end Go.Proofs.YtdhmmepcnladcaaDoor

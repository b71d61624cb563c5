import Derived.Test.YtlbdnohnngkapaaGreatDoorU11
import Derived.Test.YtlbdnohnngkapaaGreatDoorU4
namespace Go.Proofs.YtlbdnohnngkapaaGreatDoor
open Go.RowKit

theorem check_how {t cs id loc : List UInt8} {how : Int} {body : List UInt8} {parts : List PartD} (hc : checkD ⟨t, cs, id, loc, how, body, parts⟩ = 0) (hm : manyB t = false) {h : Int} (h0 : 0 ≤ h) (h2 : h ≤ 2) : checkD ⟨t, cs, id, loc, h, body, parts⟩ = 0 := by
  obtain ⟨g1, _, _⟩ := checkM_parts hc
  have hk : chkD ⟨t, cs, id, loc, how, body, parts⟩ = 0 := g1 _ (by rw [flatD_eq]; simp)
  obtain ⟨z1, z2, z3, z4, _, _, z7, _, z9⟩ := chkB_zero hk
  have hp : parts = [] := List.eq_nil_of_length_eq_zero (z9 hm)
  subst hp
  simp only at z1 z2 z3 z4 z7
  have k : chkD ⟨t, cs, id, loc, h, body, []⟩ = 0 := by
    unfold chkD chkB
    simp only [hm, z1, z3, z4]
    have e1 : decide (h < 0) = false := by simp; omega
    have e2 : decide (2 < h) = false := by simp; omega
    have e3 : decide (4000 < body.length) = false := by simp; omega
    rw [e1, e2, e3]
    rcases z2 with z2 | z2 <;> simp [z2]
  rw [checkD_some _ 1 rfl, flatD_eq]
  simp only [flatsD, firstErr, k, if_true]
end Go.Proofs.YtlbdnohnngkapaaGreatDoor

namespace Go.Proofs.YtlbdnohnngkapaaGreatDoor
open Go.RowKit

set_option maxHeartbeats 400000 in
theorem at_any (k n : Int) (w : World) (hk : -9223372036854775808 ≤ k ∧ k ≤ 9223372036854775807) (hn : 0 < n) (hn2 : n ≤ 9223372036854775807) :
    Calls Tryz.prog 36 #[.int .i64 k, .int .i64 n] w fun e w' => e = .returned (.int .i64 (k % n)) ∧ w = w' := by
  have h1 : -n < k.tmod n := Int.lt_tmod_of_pos k hn
  have h2 : k.tmod n < n := Int.tmod_lt_of_pos k hn
  have h3 : Hid (k % n = if k.tmod n < 0 then k.tmod n + n else k.tmod n) := by
    show k % n = _
    have e : k = k.tmod n + n * k.tdiv n := (Int.tmod_add_mul_tdiv k n).symm
    generalize k.tmod n = r at *
    generalize k.tdiv n = q at *
    subst e
    rw [Int.add_mul_emod_self_left]
    split
    · rw [← Int.add_emod_right, Int.emod_eq_of_lt (by omega) (by omega)]
    · exact Int.emod_eq_of_lt (by omega) h2
  go_enter Tryz.func36, Tryz.ntmps36
  by_cases h0 : k.tmod n < 0
  · go_wp2_with fail
    go_ret
    exact ⟨by rw [h3.out, if_pos h0]; rfl, rfl⟩
  · go_wp2_with fail
    go_ret
    exact ⟨by rw [h3.out, if_neg (by omega)]; rfl, rfl⟩

end Go.Proofs.YtlbdnohnngkapaaGreatDoor

namespace Go.Proofs.YtlbdnohnngkapaaGreatDoor
open Go.RowKit

/-- 'p.How = k', in the variable's own block. -/
theorem PartAt.how {S : Nat → Prop} {w : World} {t cs id loc : List UInt8} {how : Int} {body : List UInt8} {parts : List PartD} {A : Option Addr} {n c : Nat} {A2 : Option Addr} {n2 c2 : Nat} (h : PartAt S w ⟨t, cs, id, loc, how, body, parts⟩ [str t, str cs, str id, str loc, .int .i64 how, .slice A n c, .slice A2 n2 c2]) {k : Int} (h0 : 0 ≤ k) (h2 : k ≤ 2) :
    PartAt S w ⟨t, cs, id, loc, k, body, parts⟩ [str t, str cs, str id, str loc, .int .i64 k, .slice A n c, .slice A2 n2 c2] := by
  obtain ⟨B, m, d, B2, m2, d2, rows, hv, hbd, r⟩ := h
  injection hv with _ hv
  injection hv with _ hv
  injection hv with _ hv
  injection hv with _ hv
  injection hv with _ hv
  injection hv with e5 hv
  injection hv with e6 _
  injection e5 with e5 e5b e5c
  injection e6 with e6 e6b e6c
  subst e5; subst e5b; subst e5c; subst e6; subst e6b; subst e6c
  exact ⟨_, _, _, _, _, _, rows, rfl, ⟨hbd.1, hbd.2.1, hbd.2.2.1, hbd.2.2.2.1, by omega, by omega⟩, r⟩
/-- Its body's bytes. -/
theorem PartAt.bodyS {S : Nat → Prop} {w : World} {t cs id loc : List UInt8} {how : Int} {body : List UInt8} {parts : List PartD} {A : Option Addr} {n c : Nat} {A2 : Option Addr} {n2 c2 : Nat} (h : PartAt S w ⟨t, cs, id, loc, how, body, parts⟩ [str t, str cs, str id, str loc, .int .i64 how, .slice A n c, .slice A2 n2 c2]) :
    SlS S w 1 A n (Lib.byteCells body) ∧ n ≤ c ∧ c ≤ maxLen := by
  obtain ⟨B, m, d, B2, m2, d2, rows, hv, hbd, r⟩ := h
  injection hv with _ hv
  injection hv with _ hv
  injection hv with _ hv
  injection hv with _ hv
  injection hv with _ hv
  injection hv with e5 hv
  injection e5 with e5 e5b e5c
  subst e5; subst e5b; subst e5c
  exact ⟨r.1, r.2.1, r.2.2.1⟩
set_option maxRecDepth 100000 in
set_option maxHeartbeats 4000000 in
theorem mimeHow_walk (p : PartD) (v : List Value) (h : Int) (w : World) (hMx : MaxLenOk w) (hPw : PowOk w) (w0 : PartAt (· < w.heap.size) w p v) (hh : -9223372036854775808 ≤ h ∧ h ≤ 9223372036854775807) :
    Calls Tryz.prog 11 #[.agg v.toArray, .int .i64 h] w fun e w' => e = .returned (.bool true) ∧ Below w.heap.size w w' := by
  obtain ⟨Ap, np, cp, Bp, mp, dp, rfl, hp⟩ := w0.valsL
  obtain ⟨t, cs, id, loc, how, body, parts⟩ := p
  simp only at hp ⊢
  have HM := Lib.hid hMx
  have HP := Lib.hid hPw
  have Hp0 := Lib.hid hp
  obtain ⟨W0, hW0⟩ : ∃ X, X = w.alloc (.cells #[str t, str cs, str id, str loc, .int .i64 how, .slice Ap np cp, .slice Bp mp dp] 25) := ⟨_, rfl⟩
  obtain ⟨bx0, bl0⟩ := PBox.new hp
  simp only at bx0 bl0
  rw [← hW0] at bx0 bl0
  have HW0 := Lib.hid hW0
  have Hbx0 := Lib.hid bx0
  have Hbel0 := Lib.hid bl0
  clear hMx hPw hp w0 hW0 bx0 bl0
  go_enter Tryz.func11, Tryz.ntmps11
  go_wp2_with fail
  rw [← HW0.out]
  refine (bundled_any W0 (HM.out.below Hbel0.out) (HP.out.below Hbel0.out)).mono ?_
  rintro e w1 ⟨rfl, hb1⟩
  have Hbel1 := Lib.hid (Hbel0.out.trans (hb1.mono Hbel0.out.size))
  have Hbx1 := Lib.hid (Hbx0.out.below hb1)
  clear hb1
  have bx := Hbx1.out
  have ⟨⟨x0, x1, x2, x3, x4, x5, x6⟩, xf⟩ := bx.2.1
  clear bx
  go_wp2_with fail
  have hk := PCheck_any ⟨t, cs, id, loc, how, body, parts⟩ _ w1 Hbx1.out.2.2
  obtain ⟨K, hK⟩ : ∃ K, K = checkD ⟨t, cs, id, loc, how, body, parts⟩ := ⟨_, rfl⟩
  rw [← hK] at hk
  have HK := Lib.hid hK
  clear hK
  refine hk.mono ?_
  rintro e w2 ⟨rfl, hb2⟩
  have Hbel2 := Lib.hid (Hbel1.out.trans (hb2.mono Hbel1.out.size))
  have Hbx2 := Lib.hid (Hbx1.out.below hb2)
  clear hb2 hk
  clear x0 x1 x2 x3 x4 x5 x6 xf
  have bx := Hbx2.out
  have ⟨⟨x0, x1, x2, x3, x4, x5, x6⟩, xf⟩ := bx.2.1
  clear bx
  by_cases hK0 : K = 0
  · subst hK0
    go_wp2_with fail
    refine (Many_any t w2).mono ?_
    rintro e _ ⟨rfl, rfl⟩
    obtain ⟨mb, hmb⟩ : ∃ mb, mb = manyB t := ⟨_, rfl⟩
    rw [← hmb]
    have Hmb := Lib.hid hmb
    clear hmb
    cases mb with
    | true =>
      go_wp2_with fail
      refine (bundled_any w2 (HM.out.below Hbel2.out) (HP.out.below Hbel2.out)).mono ?_
      rintro e w3 ⟨rfl, hb3⟩
      have Hbel3 := Lib.hid (Hbel2.out.trans (hb3.mono Hbel2.out.size))
      clear hb3
      go_wp2_with fail
      go_ret
      exact ⟨rfl, Hbel3.out⟩
    | false =>
      go_wp2_with fail
      refine (at_any h 3 w2 hh (by decide) (by decide)).mono ?_
      rintro e _ ⟨rfl, rfl⟩
      obtain ⟨k, hk⟩ : ∃ k, k = h % 3 := ⟨_, rfl⟩
      have k0 : 0 ≤ k := by omega
      have k2 : k ≤ 2 := by omega
      rw [← hk]
      have Hk := Lib.hid hk
      clear hk hh
      obtain ⟨W4, hW4⟩ : ∃ X, X = w2.setCell ⟨w.heap.size, 4, none⟩ (.int .i64 k) := ⟨_, rfl⟩
      have hsb := SameBut.set w2 w.heap.size 4 (.int .i64 k)
      have hm4 := Hbx2.out.2.1.m4 (.int .i64 k)
      rw [← hW4] at hsb hm4
      have hbel4 : Below w.heap.size w W4 := ⟨hsb.os.trans Hbel2.out.os, hsb.tape.trans Hbel2.out.tape, hsb.output.trans Hbel2.out.output, by rw [hsb.size]; exact Hbel2.out.size, fun j hj => (hsb.block j (by omega)).trans (Hbel2.out.block j hj)⟩
      have hq4 := PartAt.change (S' := (· < W4.heap.size)) (w' := W4) (fun z (hz : z < w.heap.size) => Nat.lt_of_lt_of_le hz hbel4.size) (fun z hz => hbel4.cell hz) _ _ (PartAt.how Hp0.out k0 k2)
      obtain ⟨q, hq⟩ : ∃ q : PartD, q = ⟨t, cs, id, loc, k, body, parts⟩ := ⟨_, rfl⟩
      have hbox : PBox W4 w.heap.size ⟨t, cs, id, loc, k, body, parts⟩ Ap np cp Bp mp dp := ⟨by rw [hsb.size]; exact Hbx2.out.1, hm4, hq4⟩
      have hchk : checkD ⟨t, cs, id, loc, k, body, parts⟩ = 0 := check_how HK.out.symm Hmb.out.symm k0 k2
      have HW4 := Lib.hid hW4
      have Hbel4 := Lib.hid hbel4
      have Hbx4 := Lib.hid hbox
      have Hchk := Lib.hid hchk
      have ⟨⟨x0', x1', x2', x3', x4', x5', x6'⟩, xf'⟩ := Hbx2.out.2.1
      clear hW4 hsb hm4 hbel4 hq4 hq hbox hchk
      go_upto_region 4 with fail
      rw [← HW4.out]
      clear x0' x1' x2' x3' x4' x5' x6' xf'
      clear x0 x1 x2 x3 x4 x5 x6 xf
      have bx := Hbx4.out
      have ⟨⟨x0, x1, x2, x3, x4, x5, x6⟩, xf⟩ := bx.2.1
      clear bx
      go_wp2_with fail
      refine (MWrite_any ⟨t, cs, id, loc, k, body, parts⟩ _ W4 Hbx4.out.2.2 (HM.out.below Hbel4.out) (HP.out.below Hbel4.out)).mono ?_
      obtain ⟨b9, e9, hw9⟩ : ∃ b9 e9, writeM ⟨t, cs, id, loc, k, body, parts⟩ = (b9, e9) := ⟨_, _, rfl⟩
      rw [hw9]
      rintro e w9 ⟨A9, c9, rfl, hby9, hc9, hm9, hb9⟩
      have Hbel9 := Lib.hid (Hbel4.out.trans (hb9.mono Hbel4.out.size))
      have Hbx9 := Lib.hid (Hbx4.out.below hb9)
      have Hw9 := Lib.hid hw9
      simp only at hc9 hby9 ⊢
      have Hby9 := Lib.hid hby9
      clear hb9 hw9 hby9
      clear x0 x1 x2 x3 x4 x5 x6 xf
      by_cases he9 : e9 = 0
      · subst he9
        obtain ⟨r1, r2, r3, r4⟩ := write_ok Hw9.out
        have Hr1 := Lib.hid r1
        clear r1 r2 r4
        go_wp2_with fail
        refine (mread_any b9 A9 b9.length c9 w9 Hby9.out hc9 hm9).mono ?_
        rw [Hr1.out]
        intro e w10 hr10
        obtain ⟨A10, n10, c10, B10, m10, d10, rfl, hq10, hb10⟩ := hr10.open
        simp only at hq10 ⊢
        have Hbel10 := Lib.hid (Hbel9.out.trans (hb10.mono Hbel9.out.size))
        have Hbx10 := Lib.hid (Hbx9.out.below hb10)
        clear hr10 hb10
        obtain ⟨W11, hW11⟩ : ∃ X, X = w10.alloc (.cells #[str t, str cs, str id, str loc, .int .i64 k, .slice A10 n10 c10, .slice B10 m10 d10] 25) := ⟨_, rfl⟩
        obtain ⟨bx11, bl11⟩ := PBox.new hq10
        simp only at bx11 bl11
        rw [← hW11] at bx11 bl11
        have HW11 := Lib.hid hW11
        have Hbel11 := Lib.hid (Hbel10.out.trans (bl11.mono Hbel10.out.size))
        have Hbx11 := Lib.hid (Hbx10.out.below bl11)
        have Hbr11 := Lib.hid bx11
        clear hW11 hq10
        go_upto_region 8 with fail
        rw [← HW11.out]
        have ⟨⟨x0, x1, x2, x3, x4, x5, x6⟩, xf⟩ := bx11.2.1
        have by_ := Hbx11.out
        have ⟨⟨y0, y1, y2, y3, y4, y5, y6⟩, yf⟩ := by_.2.1
        clear bx11 bl11 by_
        go_wp2_with fail
        have p1 := PartAt.bodyS Hbr11.out.2.2
        have p2 := PartAt.bodyS Hbx11.out.2.2
        have heq := Equal_bytes A10 Ap n10 c10 np cp _ _ body body W11 p1.1 p2.1 (Nat.le_trans p1.2.1 p1.2.2)
        rw [show (body == body) = true by simp] at heq
        refine heq.mono ?_
        rintro e w14 ⟨rfl, k14, rfl⟩
        have Hbel14 := Lib.hid (belN Hbel11.out k14)
        clear heq p1 p2
        go_wp2_with fail
        go_ret
        exact ⟨rfl, Hbel14.out⟩
      · have h2 := write_err Hw9.out Hchk.out he9
        subst h2
        clear he9
        go_wp2_with fail
        go_ret
        exact ⟨rfl, Hbel9.out⟩
  · have d2 : ((K : Int) != 0) = true := by simp; omega
    clear hK0
    go_wp2_with fail
    refine (bundled_any w2 (HM.out.below Hbel2.out) (HP.out.below Hbel2.out)).mono ?_
    rintro e w3 ⟨rfl, hb3⟩
    have Hbel3 := Lib.hid (Hbel2.out.trans (hb3.mono Hbel2.out.size))
    clear hb3
    go_wp2_with fail
    go_ret
    exact ⟨rfl, Hbel3.out⟩
end Go.Proofs.YtlbdnohnngkapaaGreatDoor

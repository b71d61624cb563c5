import Derived.Test.YtlbdnohnngkapaaGreatDoorU13
import Derived.Test.YtlbdnohnngkapaaGreatDoorU1
import Derived.Test.YtlbdnohnngkapaaGreatDoorRows
import Derived.ProofKit
import Derived.OpenShut
import Derived.ShutString
import Derived.ChangeOld
import Derived.Below
import Derived.Test.YtlbdnohnngkapaaGreatDoorU2
import Derived.Deep.Slices
import Derived.Deep.Fields
import Derived.Lib.SmallJoins
import Derived.Test.YtlbdnohnngkapaaGreatDoorU4
import Derived.Test.YtlbdnohnngkapaaGreatDoorCards
import Derived.Test.YtlbdnohnngkapaaGreatDoorTie
import Derived.Deep.DeepHandedRow
import Derived.Lay
import Derived.Deep.DeepWitnessRowRef
namespace Go.Proofs.YtlbdnohnngkapaaGreatDoor
open Go.RowKit

def BwRel (n : Nat) (w5 : World) (iv : Value) (wr : World) : Prop := ∃ i : Nat, iv = .int .i64 i ∧ i ≤ n ∧ Below w5.heap.size w5 wr
set_option maxRecDepth 100000 in
set_option maxHeartbeats 4000000 in
theorem bundleWhere_walk (p : PartD) (v : List Value) (w : World) (hM : MaxLenOk w) (hp : PartAt (· < w.heap.size) w p v) :
    Calls Tryz.prog 6 #[.agg v.toArray] w (TruePost w) := by
  have hok := checkD_ok p
  have hat := where_at p
  have hal := fun W h => All_any p v W h
  have hwt := fun W h => Within_any p v W h
  have hwh := fun W hM h => Where_any p v W hM h
  unfold AllOut at hal
  unfold WthOut at hwt
  unfold WhereOut at hwh
  have hwl := wthD_len p 0 (-1)
  have hws := whereD_small p
  have hwn := whereD_len p
  obtain ⟨A, c, A2, c2, rfl, _⟩ := hp.open
  obtain ⟨W, hW⟩ : ∃ W, W = w.alloc (.cells #[str p.type, str p.cs, str p.id, str p.loc, .int .i64 p.how, .slice A p.body.length c, .slice A2 p.parts.length c2] 25) := ⟨_, rfl⟩
  have hbW : Below w.heap.size w W := by rw [hW]; exact (Below.refl _ w).alloc (Nat.le_refl _) _
  have hbx : Box7 W w.heap.size (str p.type) (str p.cs) (str p.id) (str p.loc) (.int .i64 p.how) (.slice A p.body.length c) (.slice A2 p.parts.length c2) := by rw [hW]; exact Box7.new w _ _ _ _ _ _ _ _
  have Hal := Lib.hid hal
  have Hwt := Lib.hid hwt
  have Hwh := Lib.hid hwh
  have Hp := Lib.hid hp
  have HM := Lib.hid hM
  clear hal hwt hwh hp hM
  generalize checkD p = K at *
  generalize whereD p = L at *
  generalize wthD p 0 (-1) = T at *
  generalize flatD p = F at *
  by_cases hK : K = 0
  · subst hK
    simp only [if_true] at Hal Hwt Hwh
    obtain ⟨h12, hch⟩ := hok rfl
    have Hat := Lib.hid (hat hch)
    have hlocs : ∀ q ∈ F, q.loc.length ≤ 120 := fun q hq => chk_loc q (hch q hq)
    have Hlocs := Lib.hid hlocs
    obtain ⟨n, hn⟩ : ∃ n, n = F.length := ⟨_, rfl⟩
    rw [← hn] at Hal Hwt Hwh h12 hwl hwn
    have Hn := Lib.hid hn
    have Hwl := Lib.hid hwl
    have Hws := Lib.hid hws
    have Hwn := Lib.hid hwn
    clear hok hch hat hlocs hn hwl hws hwn
    go_enter Tryz.func6, Tryz.ntmps6
    go_wp2_with fail
    rw [← hW]
    clear hW
    refine (Hwh.out W (HM.out.below hbW) ((Hp.out.below hbW).more hbW.size)).mono ?_
    rintro e w1 ⟨S1, c1, rfl, hs1, hc1, hm1, hb1⟩
    have hbel1 := hbW.trans (hb1.mono hbW.size)
    have hbx1 := hbx.below hb1
    have Hs1 := Lib.hid hs1
    clear hbx hb1 hbW Hwh hs1
    go_wp2_with fail
    refine (led_any w1 (HM.out.below hbel1)).mono ?_
    rintro e w2 ⟨rfl, hb2⟩
    have hbel2 := hbel1.trans (hb2.mono hbel1.size)
    have hbx2 := hbx1.below hb2
    have Hs2 := Lib.hid ((Sl.below Hs1.out hb2).more hb2.size)
    have ⟨x0, x1, x2, x3, x4, x5, x6⟩ := hbx2
    clear hbx1 hb2 Hs1
    go_wp2_with fail
    refine (Hal.out w2 ((Hp.out.below hbel2).more hbel2.size)).mono ?_
    rintro e w3 ⟨S3, c3, rfl, hs3, hc3, hm3, hb3⟩
    have hbel3 := hbel2.trans (hb3.mono hbel2.size)
    have hbx3 := hbx2.below hb3
    have Hw3 := Lib.hid ((Sl.below Hs2.out hb3).more hb3.size)
    have Ha3 := Lib.hid hs3
    clear x0 x1 x2 x3 x4 x5 x6 hbx2 hb3 Hs2 hs3 Hal
    have ⟨x0, x1, x2, x3, x4, x5, x6⟩ := hbx3
    go_wp2_with fail
    refine (Hwt.out w3 ((Hp.out.below hbel3).more hbel3.size)).mono ?_
    rintro e w4 ⟨S4, c4, rfl, hs4, hc4, hm4, hb4⟩
    have hbel4 := hbel3.trans (hb4.mono hbel3.size)
    have Hw4 := Lib.hid ((Sl.below Hw3.out hb4).more hb4.size)
    have Ha4 := Lib.hid ((Ha3.out.below hb4).more hb4.size)
    have Ht4 := Lib.hid hs4
    have Hbel4 := Lib.hid hbel4
    clear x0 x1 x2 x3 x4 x5 x6 hbx3 hb4 Hw3 Ha3 hs4 Hwt hbel4 hbel1 hbel2 hbel3
    go_wp2_with fail
    go_loopw [50] (BwRel n w4) (fun iv _ => n - (intOf iv).toNat)
    case atStart => exact ⟨0, rfl, Nat.zero_le _, Below.refl _ _⟩
    case round =>
      obtain ⟨i, rfl, hi, hbel⟩ := hrel
      by_cases hin : i < n
      · obtain ⟨x, k, s, hxF, hkT, hk1, hk2, hsW, hse⟩ := Hat.out i (by rw [← Hn.out]; exact hin)
        obtain ⟨bw, offw, hS1, hbw, hcw⟩ := Hw4.out.2 (by omega)
        subst hS1
        obtain ⟨bt, offt, hS4, hbt, hct⟩ := Ht4.out.2 (by omega)
        subst hS4
        obtain ⟨b, off, q1, A', n', c', A2', n2', c2'', hS3, hbS, hq1, hqa, y0, y1, y2, y3, y4, y5, y6⟩ := (Ha4.out.below hbel).cells7 hin
        subst hS3
        have hq1' : q1 = bareD x := by
          have h1 : (F.map bareD)[i]? = some (bareD x) := by rw [List.getElem?_map, hxF]; rfl
          have h2 := List.drop_eq_getElem?_toList_append (l := F.map bareD) (i := i)
          rw [h1] at h2
          rw [h2] at hq1
          injection hq1 with hq1 _
          exact hq1.symm
        have hql : q1.loc = x.loc := by rw [hq1']; rfl
        rw [hql] at y3
        have hloc := Hlocs.out x (List.mem_of_getElem? hxF)
        have hsl := Hws.out s (List.mem_of_getElem? hsW)
        have z0 : wr.cell? ⟨bw, offw + i, none⟩ = some (str s) := by rw [hbel.cell (by exact hbw)]; exact hcw i _ (by rw [List.getElem?_map, hsW]; rfl)
        have t0 : wr.cell? ⟨bt, offt + i, none⟩ = some (.int .i64 k) := by rw [hbel.cell (by exact hbt)]; exact hct i _ (by unfold iCells; rw [List.getElem?_map, hkT]; rfl)
        have hin1 : (i : Int) < n := by omega
        have Hhcw := Lib.hid hcw
        obtain ⟨tb, htb⟩ : ∃ tb, tb = (decide (0 ≤ k) && !(L.getD k.toNat [] == [])) := ⟨_, rfl⟩
        obtain ⟨ah, hah⟩ : ∃ ah, ah = fromW L k := ⟨_, rfl⟩
        rw [← hah] at hse
        have hahl : ah.length ≤ 605 := by rw [hah]; exact fromW_len Hws.out k
        have Htb := Lib.hid htb
        have Hah := Lib.hid hah
        have Hse := Lib.hid hse
        have Hahl := Lib.hid hahl
        clear hcw hct hq1 hq1' hqa hxF hkT hsW htb hah hse hql hahl y0 y1 y2 y4 y5 y6
        have hfk : ∀ j : Nat, k = j → j < n → wr.cell? ⟨bw, offw + j, none⟩ = some (str (L.getD j [])) := by
          intro j _ hj
          have hjl : j < L.length := by rw [Hwn.out]; exact hj
          rw [hbel.cell (by exact hbw)]
          refine Hhcw.out j _ ?_
          rw [List.getElem?_map, List.getD_eq_getElem?_getD, List.getElem?_eq_getElem hjl]
          rfl
        have Hfk := Lib.hid hfk
        clear hfk Hhcw
        go_upto_region 12 with fail
        go_cut [69] from 55 to 68 (fun s69 wx => s69 = .bool tb ∧ wr = wx)
        case first =>
          by_cases hk : 0 ≤ k
          · obtain ⟨j, rfl⟩ := Int.eq_ofNat_of_zero_le hk
            have d0 : decide ((0 : Int) ≤ (j : Int)) = true := by simp
            have d1 : (j : Int) < n := by omega
            have k0 := Hfk.out j rfl (by omega)
            have htb := Htb.out
            rw [d0, Int.toNat_natCast, Bool.true_and] at htb
            generalize L.getD j [] = s0 at htb k0
            have HT := Lib.hid htb
            clear htb
            go_wp2_with fail
            go_meet
            exact ⟨by rw [HT.out]; cases s0 <;> rfl, rfl⟩
          · obtain rfl : k = -1 := by omega
            have htb := Htb.out
            simp at htb
            have HT := Lib.hid htb
            clear htb
            go_wp2_with fail
            go_meet
            exact ⟨by rw [HT.out], rfl⟩
        case rest =>
          obtain ⟨rfl, hwc⟩ := hcut
          subst hwc
          go_upto_if 69 with (fail)
          go_cut [10] from 69 to 76 (fun s10 wx => s10 = str ah ∧ wr = wx)
          case first =>
            have htb := Htb.out
            have hah := Hah.out
            by_cases hc : 0 ≤ k ∧ L.getD k.toNat [] ≠ []
            · obtain rfl : tb = true := by
                have h1 : (L.getD k.toNat [] == []) = false := beq_eq_false_iff_ne.2 hc.2
                rw [htb, h1]
                simp [hc.1]
              unfold fromW at hah
              rw [if_pos hc] at hah
              obtain ⟨j, rfl⟩ := Int.eq_ofNat_of_zero_le hc.1
              have d0 : (0 : Int) ≤ (j : Int) := by omega
              have d1 : (j : Int) < n := by omega
              have k0 := Hfk.out j rfl (by omega)
              rw [Int.toNat_natCast] at hah
              generalize L.getD j [] = s0 at hah k0
              have HA := Lib.hid hah
              clear hah htb hc
              go_wp2_with fail
              go_meet
              exact ⟨by rw [HA.out], rfl⟩
            · obtain rfl : tb = false := by
                rw [htb]
                by_cases h0 : 0 ≤ k
                · have : L.getD k.toNat [] = [] := by
                    rcases Classical.em (L.getD k.toNat [] = []) with h | h
                    · exact h
                    · exact absurd ⟨h0, h⟩ hc
                  rw [this]; simp
                · simp [h0]
              unfold fromW at hah
              rw [if_neg hc] at hah
              have HA := Lib.hid hah
              clear hah htb hc
              go_wp2_with fail
              go_meet
              exact ⟨by rw [HA.out]; rfl, rfl⟩
          case rest =>
            obtain ⟨rfl, hwc⟩ := hcut
            subst hwc
            by_cases hl : x.loc = []
            · have hse := Hse.out
              rw [if_pos hl] at hse
              obtain rfl : s = ah := hse
              have l1 : (x.loc == []) = true := by rw [hl]; rfl
              have Hl := Lib.hid hl
              clear hl
              go_wp2_with fail
              exact ⟨⟨i + 1, by go_num, by omega, hbel⟩, by simp [intOf]; omega⟩
            · have hse := Hse.out
              rw [if_neg hl] at hse
              have l1 : (x.loc == []) = false := by simpa using hl
              have Hl := Lib.hid hl
              clear hl
              have KP := Lib.hid (fun X => Parse_any s X (by unfold maxLen; omega))
              have KL := Lib.hid (fun X (h : MaxLenOk X) => Led_any ah x.loc X h (by have := Hahl.out; unfold maxLen; omega) (by unfold maxLen; omega))
              have KA := Lib.hid (fun X (h : MaxLenOk X) => Led_any [97, 58, 98] s X h (by decide) (by unfold maxLen; omega))
              rw [← hse] at KL
              have hself := fun h : s ≠ [] => led_led (f := ah) (t := x.loc) (by rw [← hse]; exact h)
              rw [← hse] at hself
              have Hself := Lib.hid hself
              clear hse hself
              by_cases hs : s = []
              · have s1 : (s == []) = true := by rw [hs]; rfl
                have Hs := Lib.hid hs
                clear hs
                generalize readU s = U at KP
                obtain ⟨xu, xe⟩ := U
                simp only [UrlD.val] at KP
                go_wp2_with fail
                refine (KP.out _).mono ?_
                rintro e w6 ⟨rfl, hb6⟩
                have hbel6 := hbel.trans (hb6.mono hbel.size)
                have hbel7 := hbel6.alloc hbel6.size (.cells #[str xu.scheme, .bool xu.hasHost, str xu.host, str xu.path, .bool xu.hasQuery, str xu.query, .bool xu.hasFrag, str xu.frag] 66)
                have hM7 : MaxLenOk (w6.alloc (.cells #[str xu.scheme, .bool xu.hasHost, str xu.host, str xu.path, .bool xu.hasQuery, str xu.query, .bool xu.hasFrag, str xu.frag] 66)) := HM.out.below (Hbel4.out.trans (hbel7.mono Hbel4.out.size))
                have HM7 := Lib.hid hM7
                have y7 : (w6.alloc (.cells #[str xu.scheme, .bool xu.hasHost, str xu.host, str xu.path, .bool xu.hasQuery, str xu.query, .bool xu.hasFrag, str xu.frag] 66)).cell? ⟨b, off + i * 7 + 3, none⟩ = some (str x.loc) := by
                  rw [((hb6.mono (Nat.le_refl _)).alloc hb6.size _).cell (by exact Nat.lt_of_lt_of_le hbS hbel.size)]
                  exact y3
                have Hbel7 := Lib.hid hbel7
                clear hbel6 hbel7 hM7 z0 t0 hb6 y3
                go_wp2_with fail
                refine (KL.out _ HM7.out).mono ?_
                rintro e w8 ⟨rfl, hb8⟩
                have hbel8 := Hbel7.out.trans (hb8.mono Hbel7.out.size)
                clear y7
                go_wp2_with fail
                exact ⟨⟨i + 1, by go_num, by omega, hbel8⟩, by simp [intOf]; omega⟩
              · have s1 : (s == []) = false := by simpa using hs
                obtain ⟨xu, hr, hsch, hab⟩ := Hself.out hs
                rw [hr] at KP
                rw [hab] at KA
                have s2 : (xu.scheme == []) = false := by simpa using hsch
                have Hs := Lib.hid hs
                clear hs hr hsch hab
                simp only [UrlD.val] at KP
                go_wp2_with fail
                refine (KP.out _).mono ?_
                rintro e w6 ⟨rfl, hb6⟩
                have hbel6 := hbel.trans (hb6.mono hbel.size)
                obtain ⟨W7, hW7⟩ : ∃ W7, W7 = w6.alloc (.cells #[str xu.scheme, .bool xu.hasHost, str xu.host, str xu.path, .bool xu.hasQuery, str xu.query, .bool xu.hasFrag, str xu.frag] 66) := ⟨_, rfl⟩
                have hb7 : Below w6.heap.size w6 W7 := by rw [hW7]; exact (Below.refl _ _).alloc (Nat.le_refl _) _
                have hub : UB W7 w6.heap.size xu := by rw [hW7]; exact UB.new w6 xu
                have hbel7 := hbel6.trans (hb7.mono hbel6.size)
                have hM7 : MaxLenOk W7 := HM.out.below (Hbel4.out.trans (hbel7.mono Hbel4.out.size))
                have y7 : W7.cell? ⟨b, off + i * 7 + 3, none⟩ = some (str x.loc) := by
                  rw [(hb6.trans (hb7.mono hb6.size)).cell (by exact Nat.lt_of_lt_of_le hbS hbel.size)]
                  exact y3
                have HM7 := Lib.hid hM7
                have Hbel7 := Lib.hid hbel7
                clear hbel6 hbel7 hM7 z0 t0 hb6 y3 hb7
                go_upto_region 18 with fail
                rw [← hW7]
                clear hW7
                go_wp2_with fail
                refine (KL.out _ HM7.out).mono ?_
                rintro e w8 ⟨rfl, hb8⟩
                have hbel8 := Hbel7.out.trans (hb8.mono Hbel7.out.size)
                have hub8 := hub.below hb8
                have ⟨u0, _⟩ := hub8.box
                have hM8 : MaxLenOk w8 := HM.out.below (Hbel4.out.trans (hbel8.mono Hbel4.out.size))
                have HM8 := Lib.hid hM8
                clear y7 hM8 hub8 hb8 hub
                go_wp2_with fail
                refine (KA.out _ HM8.out).mono ?_
                rintro e w9 ⟨rfl, hb9⟩
                have hbel9 := hbel8.trans (hb9.mono hbel8.size)
                clear u0
                go_wp2_with fail
                exact ⟨⟨i + 1, by go_num, by omega, hbel9⟩, by simp [intOf]; omega⟩
      · obtain rfl : i = n := by omega
        have hb := Hbel4.out.trans (hbel.mono Hbel4.out.size)
        go_wp2_with fail
        go_ret
        exact ⟨rfl, hb⟩
  · have hK1 : ((K : Int) != 0) = true := by simp; omega
    simp only [if_neg hK] at Hwh
    clear hok hK hat
    go_enter Tryz.func6, Tryz.ntmps6
    go_wp2_with fail
    rw [← hW]
    clear hW
    refine (Hwh.out W (HM.out.below hbW) ((Hp.out.below hbW).more hbW.size)).mono ?_
    rintro e w1 ⟨S1, c1, rfl, hs1, hc1, hm1, hb1⟩
    have hbel1 := hbW.trans (hb1.mono hbW.size)
    clear hbx hb1 hbW Hal hs1
    go_wp2_with fail
    refine (led_any w1 (HM.out.below hbel1)).mono ?_
    rintro e w2 ⟨rfl, hb2⟩
    have hbel2 := hbel1.trans (hb2.mono hbel1.size)
    clear hb2
    go_wp2_with fail
    refine (led_any w2 (HM.out.below hbel2)).mono ?_
    rintro e w3 ⟨rfl, hb3⟩
    have hbel3 := hbel2.trans (hb3.mono hbel2.size)
    go_wp2_with fail
    go_ret
    exact ⟨rfl, hbel3⟩
end Go.Proofs.YtlbdnohnngkapaaGreatDoor

namespace Go.Proofs.YtlbdnohnngkapaaGreatDoor
open Go.ChangeShapes Go.WideShapes Go.ChangeAt Go.RowKit
open Go.ChangeMaps (open_string shut_string)

theorem own : ownKnob Tryz.prog.godebug = none := by kernel_rfl
theorem laidOut : laidOutB Tryz.prog = true := by kernel_rfl

theorem bd64 {n : Int} (h : (Lit.int .i64 n).wf = true) : -9223372036854775808 ≤ n ∧ n ≤ 9223372036854775807 := bounds_i64 h

/-- What the walk is told of a slice of integers that came in. -/
def IsRow (k : IntKind) (w : World) (a : Option Addr) (len cap : Nat) (zs : List Int) : Prop :=
  (a = none ∧ len = 0 ∧ cap = 0 ∧ zs = []) ∨
  ∃ x, a = some x ∧ len ≤ cap ∧ cap ≤ maxLen ∧ zs.length = cap ∧ (∀ i, i < zs.length → w.cell? (x.add i) = some (.int k (zs.getD i 0))) ∧ ∀ n ∈ zs, (Lit.int k n).wf = true

theorem cell_lt {w : World} {a : Addr} {v : Value} (h : w.cell? a = some v) : a.block < w.heap.size := by
  rcases Nat.lt_or_ge a.block w.heap.size with h' | h'
  · exact h'
  · simp [World.cell?, Array.getElem?_eq_none h'] at h

/-- A slice of bytes that came in, as a list of bytes. -/
theorem IsRow.toBy {w : World} {a : Option Addr} {len cap : Nat} {zs : List Int} (h : IsRow .u8 w a len cap zs) : ∃ l, By w w.heap.size a len l ∧ len ≤ cap ∧ cap ≤ maxLen := by
  rcases h with ⟨rfl, rfl, rfl, rfl⟩ | ⟨x, rfl, hl, hm, hz, hcell, hwf⟩
  · exact ⟨[], By.nil_ _ _ _, Nat.le_refl _, Nat.zero_le _⟩
  · refine ⟨(zs.take len).map fun z => UInt8.ofNat z.toNat, ⟨by simp [Lib.byteCells]; omega, fun h0 => ?_⟩, hl, hm⟩
    obtain ⟨b, off, rfl, hc⟩ := ints_at hcell (by omega)
    refine ⟨b, off, rfl, ?_, fun j u hu => ?_⟩
    · exact cell_lt (hc 0 (by omega))
    · have hj : j < len := by
        rcases Nat.lt_or_ge j len with h' | h'
        · exact h'
        · rw [List.getElem?_eq_none (by simp [Lib.byteCells]; omega)] at hu; cases hu
      have hjz : j < zs.length := by omega
      rw [hc j hjz]
      have hmem : zs[j] ∈ zs := List.getElem_mem hjz
      have hb := bounds_u8 (hwf _ hmem)
      have e : ((UInt8.ofNat zs[j].toNat).toNat : Int) = zs[j] := by rw [UInt8.toNat_ofNat']; omega
      have e2 : (Lib.byteCells ((zs.take len).map fun z => UInt8.ofNat z.toNat))[j]? = some (.int .u8 ((UInt8.ofNat zs[j].toNat).toNat : Int)) := by
        simp [Lib.byteCells, hj, hjz]
      rw [e2] at hu
      rw [← hu, e]
      simp [List.getD, hjz]
end Go.Proofs.YtlbdnohnngkapaaGreatDoor

namespace Go.Proofs.YtlbdnohnngkapaaGreatDoor
open Go.ChangeShapes Go.WideShapes Go.ChangeAt Go.RowKit Go.Deep

theorem partStruct : Tryz.prog.cellsOf 25 = 7 := by kernel_rfl
theorem cell_lt' {w : World} {b o : Nat} {v : Value} (h : w.cell? ⟨b, o, none⟩ = some v) : b < w.heap.size := cell_lt (a := ⟨b, o, none⟩) h
theorem plain_at {w : World} {a : Addr} {v : Value} (h : w.cell? (a.add 0) = some v) : ∃ b off, a = ⟨b, off, none⟩ := by
  obtain ⟨b, off, spot⟩ := a
  have hspot : spot = none := by
    simpa [Addr.add] using World.cell?_spot h
  subst hspot
  exact ⟨b, off, rfl⟩

section
variable {H : Type} {enc : TypeId × Value → H} {w : World} {base : Nat} {held : Bool}
set_option maxRecDepth 100000 in
theorem part_of_trod : ∀ (k fuel : Nat) (cs : List Value) (x : DataW H × List MemPlace), fuel ≤ k → DataW.trod enc Tryz.prog w base (fun _ => true) held fuel 25 cs = some x → ∃ p, PartAt (· < w.heap.size) w p cs := by
  intro k
  induction k with
  | zero =>
    intro fuel cs x hk h
    have : fuel = 0 := by omega
    subst this
    simp [DataW.trod] at h
  | succ k ih =>
    intro fuel cs x hk h
    obtain ⟨xs, n, hfu, _, hl, hxl, hf⟩ := DataW.trod_struct Tryz.underlying25 h
    rw [partStruct] at hl
    match cs, hl with
    | [c0, c1, c2, c3, c4, c5, c6], _ =>
      match xs, hxl with
      | [x0, x1, x2, x3, x4, x5, x6], _ =>
        have h0 : DataW.trod enc Tryz.prog w base (fun _ => true) held n 9 [c0] = some x0 := hf 0 _ rfl
        have h1 : DataW.trod enc Tryz.prog w base (fun _ => true) held n 9 [c1] = some x1 := hf 1 _ rfl
        have h2 : DataW.trod enc Tryz.prog w base (fun _ => true) held n 9 [c2] = some x2 := hf 2 _ rfl
        have h3 : DataW.trod enc Tryz.prog w base (fun _ => true) held n 9 [c3] = some x3 := hf 3 _ rfl
        have h4 : DataW.trod enc Tryz.prog w base (fun _ => true) held n 3 [c4] = some x4 := hf 4 _ rfl
        have h5 : DataW.trod enc Tryz.prog w base (fun _ => true) held n 22 [c5] = some x5 := hf 5 _ rfl
        have h6 : DataW.trod enc Tryz.prog w base (fun _ => true) held n 23 [c6] = some x6 := hf 6 _ rfl
        obtain ⟨s0, e0, _, b0⟩ := DataW.trod_string Tryz.underlying9 h0
        obtain ⟨s1, e1, _, b1⟩ := DataW.trod_string Tryz.underlying9 h1
        obtain ⟨s2, e2, _, b2⟩ := DataW.trod_string Tryz.underlying9 h2
        obtain ⟨s3, e3, _, b3⟩ := DataW.trod_string Tryz.underlying9 h3
        obtain ⟨i4, e4, _, b4⟩ := DataW.trod_int Tryz.underlying3 h4
        simp only [List.cons.injEq, and_true] at e0 e1 e2 e3 e4
        subst e0 e1 e2 e3 e4
        obtain ⟨hlo, hhi⟩ := bounds_i64 b4
        have hby : ∃ A n c l, c5 = .slice A n c ∧ By w w.heap.size A n l ∧ n ≤ c ∧ c ≤ maxLen := by
          rcases open_ints Tryz.underlying22 Tryz.underlying5 (by kernel_rfl) h5 with ⟨hcs, _⟩ | ⟨y, l, c, zs, hcs, _, hl, hm, hz, _, hcell, hwz⟩
          · simp only [List.cons.injEq, and_true] at hcs
            exact ⟨none, 0, 0, [], hcs, By.nil_ _ _ _, Nat.le_refl _, Nat.zero_le _⟩
          · simp only [List.cons.injEq, and_true] at hcs
            have hr : IsRow .u8 w (some y) l c zs := .inr ⟨y, rfl, hl, hm, by simpa using hz, hcell, hwz⟩
            obtain ⟨bl, hb, hle, hmx⟩ := hr.toBy
            exact ⟨some y, l, c, bl, hcs, hb, hle, hmx⟩
        have hps : ∃ A n c ps rows, c6 = .slice A n c ∧ SlS (· < w.heap.size) w 7 A n rows.flatten ∧ PartsAt (· < w.heap.size) w ps rows ∧ n ≤ c ∧ c ≤ maxLen := by
          rcases DataW.trod_slice Tryz.underlying23 h6 with ⟨hcs, _⟩ | ⟨a, len, cap, elems, rest, n', hfu', hcs, _, hb, hl, hm, hlen, hel, hsp, hns⟩
          · simp only [List.cons.injEq, and_true] at hcs
            exact ⟨none, 0, 0, [], [], hcs, ⟨rfl, fun h => absurd h (by omega)⟩, rfl, Nat.le_refl _, Nat.zero_le _⟩
          · simp only [List.cons.injEq, and_true] at hcs
            have hone : ∀ i, i < len → ∃ (q : PartD × List Value), w.cells? base (a.add (i * 7)) 7 = some q.2 ∧ PartAt (· < w.heap.size) w q.1 q.2 := by
              intro i hi
              have h1 := hel i hi
              rw [partStruct, List.getElem?_eq_getElem (by omega)] at h1
              obtain ⟨cs', hc', ht'⟩ := Option.bind_eq_some_iff.1 h1
              obtain ⟨p, hp⟩ := ih n' cs' _ (by omega) ht'
              exact ⟨(p, cs'), hc', hp⟩
            haveI : Inhabited (PartD × List Value) := ⟨(⟨[], [], [], [], 0, [], []⟩, [])⟩
            obtain ⟨f, hfp⟩ := choose_lt hone
            refine ⟨some a, len, cap, (List.range len).map (fun i => (f i).1), (List.range len).map (fun i => (f i).2), hcs, ?_, ?_, hl, hm⟩
            · have h7 : ∀ r ∈ (List.range len).map (fun i => (f i).2), r.length = 7 := by
                intro r hr
                obtain ⟨i, hi, rfl⟩ := List.mem_map.1 hr
                exact (hfp i (List.mem_range.1 hi)).2.row
              refine ⟨by rw [flat7_len _ h7]; simp, fun h0 => ?_⟩
              obtain ⟨_, hl0, hat0⟩ := World.cells?_some (hfp 0 h0).1
              have hx0 := hat0 0 (by omega)
              rw [List.getElem?_eq_getElem (by omega)] at hx0
              obtain ⟨b, off, hab⟩ : ∃ b off, a = ⟨b, off, none⟩ := by
                have e : (a.add (0 * 7)).add 0 = a.add 0 := by rw [Go.Deep.add_add]
                rw [e] at hx0
                exact plain_at hx0
              subst hab
              refine ⟨b, off, rfl, ?_, fun j u hu => ?_⟩
              · have e : ((⟨b, off, none⟩ : Addr).add (0 * 7)).add 0 = ⟨b, off, none⟩ := by rw [Go.Deep.add_add]; simp [Addr.add]
                rw [e] at hx0
                exact cell_lt' hx0
              · have hj : j < len * 7 := by
                  rcases Nat.lt_or_ge j (len * 7) with h | h
                  · exact h
                  · rw [List.getElem?_eq_none (by rw [flat7_len _ h7]; simp; omega)] at hu; cases hu
                have hi : j / 7 < len := by omega
                have hjj : j = j / 7 * 7 + j % 7 := by omega
                obtain ⟨_, hli, hati⟩ := World.cells?_some (hfp (j / 7) hi).1
                have hx := hati (j % 7) (by omega)
                rw [Go.Deep.add_add, ← hjj] at hx
                rw [hjj, flat7_at _ h7 (j / 7) (j % 7) (f (j / 7)).2 (by simp [hi]) (by omega)] at hu
                rw [hu] at hx
                have e : (⟨b, off, none⟩ : Addr).add j = ⟨b, off + j, none⟩ := Go.WideShapes.add_plain ..
                rw [e] at hx
                exact hx
            · refine PartsAt.mk _ _ (by simp) fun i hi => ?_
              have hi' : i < len := by simpa using hi
              refine ⟨(f i).2, by simp [hi'], ?_⟩
              simpa using (hfp i hi').2
        obtain ⟨A, n1, c1', l, rfl, hb1, hb2, hb3⟩ := hby
        obtain ⟨A2, n2, c2', ps, rows, rfl, hp1, hp2, hp3, hp4⟩ := hps
        exact ⟨⟨s0.data.toList, s1.data.toList, s2.data.toList, s3.data.toList, i4, l, ps⟩, A, n1, c1', A2, n2, c2', rows, rfl, ⟨b0, b1, b2, b3, hlo, hhi⟩, hb1, hb2, hb3, hp1, hp3, hp4, hp2⟩
set_option maxRecDepth 100000 in
theorem open_part {r : Reach} {b0 : Nat} {v : Value} {d : DataW H} {pl : List MemPlace} (hv : Value.okWide Tryz.prog w r b0 25 v) (h : DataW.Trod enc Tryz.prog w base (fun _ => true) held 25 v d pl) : ∃ p cs, v = .agg cs.toArray ∧ PartAt (· < w.heap.size) w p cs := by
  obtain ⟨cs, rfl, hsz⟩ := okWide_struct Tryz.underlying25 hv
  obtain ⟨l⟩ := cs
  obtain ⟨fuel, hf⟩ := h
  obtain ⟨p, hp⟩ := part_of_trod fuel fuel _ _ (Nat.le_refl _) hf
  exact ⟨p, l, rfl, hp⟩
end
end Go.Proofs.YtlbdnohnngkapaaGreatDoor

namespace Go.Proofs.YtlbdnohnngkapaaGreatDoor
open Go.ChangeShapes Go.WideShapes Go.ChangeAt Go.RowKit

theorem maxLen_of_shaped {W : World} (h : W.ShapedOpen Tryz.prog) : MaxLenOk W := Go.Proofs.Tryz.laysM219.s1_3 W h
end Go.Proofs.YtlbdnohnngkapaaGreatDoor



import Derived.Test.YtlbdnohnngkapaaGreatDoorU4
import Derived.Test.YtlbdnohnngkapaaGreatDoorU6
import Derived.Deep.RegionLaw
import Derived.Deep.AppendLies
import Derived.Test.YtlbdnohnngkapaaGreatDoorU2
namespace Go.Proofs.YtlbdnohnngkapaaGreatDoor
open Go.RowKit
attribute [local go_sem high] cut_bytes upto_bytes

theorem IndexByte_digits (x : Nat) (hx : x < 256) (w : World) :
    Calls Tryz.prog 110 #[.string ⟨#[48, 49, 50, 51, 52, 53, 54, 55, 56, 57, 65, 66, 67, 68, 69, 70]⟩, .int .u8 (x : Int)] w fun e w' => e = .returned (.int .i64 (idxI digits x)) ∧ w' = w :=
  (IndexByteR_any digits x hx w).mono fun _e _w' h => ⟨h.1, h.2.symm⟩
set_option maxHeartbeats 400000 in
theorem hex_any (x : Nat) (hx : x < 256) (w : World) :
    Calls Tryz.prog 282 #[.int .u8 (x : Int)] w fun e w' => e = .returned (.int .i64 (hexQ x)) ∧ w' = w := by
  by_cases h : 97 ≤ x ∧ x ≤ 102
  · obtain ⟨h1, h2⟩ := h
    have e : hexQ x = idxI digits (x - 32) := by unfold hexQ; rw [if_pos (by simp; omega)]
    rw [e]
    clear e
    go_enter Tryz.func282, Tryz.ntmps282
    go_wp2_with fail
    rw [show (x : Int) - 32 = ((x - 32 : Nat) : Int) from by omega]
    refine (IndexByte_digits (x - 32) (by omega) _).mono ?_
    rintro e w1 ⟨rfl, rfl⟩
    go_wp2_with fail
    go_ret
    exact ⟨rfl, rfl⟩
  · have e : hexQ x = idxI digits x := by unfold hexQ; rw [if_neg (by simp; omega)]
    rw [e]
    clear e
    by_cases h1 : 97 ≤ x
    · have h2 : 102 < x := by omega
      clear h
      go_enter Tryz.func282, Tryz.ntmps282
      go_wp2_with fail
      refine (IndexByte_digits x hx _).mono ?_
      rintro e w1 ⟨rfl, rfl⟩
      go_wp2_with fail
      go_ret
      exact ⟨rfl, rfl⟩
    · have h2 : x < 97 := by omega
      clear h h1
      go_enter Tryz.func282, Tryz.ntmps282
      go_wp2_with fail
      refine (IndexByte_digits x hx _).mono ?_
      rintro e w1 ⟨rfl, rfl⟩
      go_wp2_with fail
      go_ret
      exact ⟨rfl, rfl⟩

def strLen : Value → Nat | .string s => s.size | _ => 0
theorem strLen_str (l : List UInt8) : strLen (str l) = l.length := by simp [strLen, str, ByteArray.size]

def QRel1 (r : List UInt8 × Nat) (w0 : World) (sv ov : Value) (wr : World) : Prop :=
  ∃ k s out O ol oc, sv = str s ∧ ov = .slice O ol oc ∧ Hid (linesQ k s out = r ∧ s.length ≤ k ∧ out.length = ol) ∧ s.length ≤ 16000 ∧ ol ≤ 4000 ∧ ol ≤ oc ∧
    wr.ownsRow w0.heap.size 5 1 (.slice O ol oc) ol (Lib.byteCells out) ∧ Below w0.heap.size w0 wr
def QRel2 (b : List UInt8) (m : Nat) (R : Option (List UInt8)) (w0 : World) (ov iv : Value) (wr : World) : Prop :=
  ∃ i out O ol oc, ov = .slice O ol oc ∧ iv = .int .i64 (i : Nat) ∧ i ≤ m ∧ Hid ((decQ (b.drop i)).map (out ++ ·) = R ∧ out.length = ol) ∧ ol ≤ 4000 + i ∧ ol ≤ oc ∧
    wr.ownsRow w0.heap.size 5 1 (.slice O ol oc) ol (Lib.byteCells out) ∧ Below w0.heap.size w0 wr

set_option maxRecDepth 100000 in
set_option maxHeartbeats 2000000 in
theorem quoteRead_anyF (s : List UInt8) (w : World) (hs : s.length ≤ 9223372036854775807) :
    Calls Tryz.prog 242 #[str s] w (BytesResF w (readQ s)) := by
  obtain ⟨j0, hj0, hjz0, hjz1, hjz2⟩ := info_parts infoByte
  by_cases h16 : 16000 < s.length
  · have hr : readQ s = ([], 2) := by unfold readQ; rw [if_pos h16]
    rw [hr]
    go_enter Tryz.func242, Tryz.ntmps242
    go_wp2_with fail
    go_ret2
    exact BytesResF.fail 2 (Below.refl _ _)
  · obtain ⟨r, hr⟩ : ∃ r, r = readQ s := ⟨_, rfl⟩
    have hr2 : Hid (linesQ s.length s [] = r) := by
      show _ = r
      rw [hr]; unfold readQ; rw [if_neg h16]
    rw [← hr]
    clear hr
    have hlen : s.length ≤ 16000 := by omega
    clear h16 hs
    go_enter Tryz.func242, Tryz.ntmps242
    go_wp2_with fail
    go_loopw [0, 4] (QRel1 r w) (fun sv _ _ => strLen sv)
    case atStart => exact ⟨_, s, [], none, 0, 0, rfl, rfl, ⟨hr2.out, Nat.le_refl _, rfl⟩, hlen, by omega, by omega, World.ownsRow_nil _ _ _ _, Below.refl _ _⟩
    case round =>
      obtain ⟨k, s, out, O, ol, oc, rfl, rfl, hE, hsl, hol, hoc, hown, hbel⟩ := hrel
      clear hr2 hlen
      by_cases hs0 : s = []
      · subst hs0
        have hr : Hid (r = (out, 0)) := by show r = _; rw [← hE.out.1, linesQ_end]
        have HO := Lib.hid hE.out.2.2
        clear hE
        go_wp2_with fail
        go_ret2
        rw [hr.out]
        refine ⟨O, oc, ?_, ?_, ?_, own_capR hown, hbel⟩
        · show _ = Ending.returned (.tuple #[.slice O out.length oc, .int .i64 ((0 : Nat) : Int)])
          rw [HO.out]; rfl
        · show SlS _ _ 1 _ out.length (Lib.byteCells out)
          rw [HO.out]; exact own_slsR hown
        · show out.length ≤ oc
          rw [HO.out]; exact hoc
      · have hs1 : (s == ([] : List UInt8)) = false := by simpa using hs0
        obtain ⟨k, rfl⟩ : ∃ k', k = k' + 1 := ⟨k - 1, by have := hE.out.2.1; have := List.length_pos_iff.2 hs0; omega⟩
        have hst := linesQ_step k s out hs0
        rw [hE.out.1] at hst
        have hcl := cut10_len s hs0
        have hcut := Cut_one s 10 wr (by unfold maxLen; omega)
        have hend : endQ s = if (Lib.cut s [10]).2.2 && !softQ (trimQ (Lib.cut s [10]).1) then [13, 10] else [] := rfl
        unfold behindQ at hst
        generalize endQ s = E at hst hend
        generalize Lib.cut s [10] = x at hst hcl hcut hend
        obtain ⟨line, rest, whole⟩ := x
        simp only at hst hcl hcut hend
        obtain ⟨hl1, hl2⟩ := hcl
        have HK := Lib.hid hE.out.2.1
        have HOl := Lib.hid hE.out.2.2
        have Hcut := Lib.hid hcut
        have htl := trimQ_len line
        have hsf := soft_pos (trimQ line)
        have hlm : line.length ≤ maxLen := by unfold maxLen; omega
        have htr := fun W => TrimRight_any line [32, 9, 13] W hlm (by decide) (by decide)
        rw [show Lib.trimRightS line [32, 9, 13] = trimQ line from rfl] at htr
        have hbq : bareQ (trimQ line) = if softQ (trimQ line) then (trimQ line).take ((trimQ line).length - 1) else trimQ line := rfl
        generalize bareQ (trimQ line) = b at hst hbq
        have hsuf := fun W => HasSuffix_any (trimQ line) [61] W (by unfold maxLen; omega)
        rw [show Lib.hasSuffix (trimQ line) [61] = softQ (trimQ line) from rfl] at hsuf
        generalize softQ (trimQ line) = soft at hsf hbq hend hsuf
        generalize trimQ line = t at htl hsf hbq htr hsuf
        have Htr := Lib.hid htr
        have Hsuf := Lib.hid hsuf
        obtain ⟨R, hR⟩ : ∃ R, (decQ b).map (out ++ ·) = R := ⟨_, rfl⟩
        rw [hR] at hst
        have HR := Lib.hid hR
        have Hst := Lib.hid hst
        have Hend := Lib.hid hend
        have Hbq := Lib.hid hbq
        have Hsf := Lib.hid hsf
        clear hst hR hend hcut hE htr hsuf hbq hsf hs0
        go_wp2_with fail
        refine Hcut.out.mono ?_
        rintro e w1 ⟨rfl, q1, rfl⟩
        have hb1 : Below w.heap.size w (wr.drewN q1) := belN hbel q1
        have hown1 : (wr.drewN q1).ownsRow w.heap.size 5 1 (.slice O ol oc) ol (Lib.byteCells out) := hown
        generalize wr.drewN q1 = w1 at hb1 hown1 ⊢
        clear hown hbel Hcut
        go_wp2_with fail
        refine (Htr.out _).mono ?_
        rintro e w2 ⟨rfl, hb2⟩
        have hown2 := own_below hown1 hb2
        have hbel2 := hb1.trans (hb2.mono hb1.size)
        clear hown1 hb1 Htr
        go_wp2_with fail
        refine (Hsuf.out _).mono ?_
        rintro e w3 ⟨rfl, rfl⟩
        clear Hsuf
        cases soft
        case' true =>
          have h1 : 1 ≤ t.length := Hsf.out rfl
          go_wp2_with fail
          have hbq2 : List.take (t.length - 1) t = b := Hbq.out.symm
          have hbl : b.length ≤ 16000 := by rw [← hbq2]; simp; omega
          rw [hbq2]
          clear hbq2 h1
          have Hend2 : Hid (E = []) := by show E = _; rw [Hend.out]; simp
          have Hr2 : Hid (2 = 2) := rfl
        case' false =>
          go_wp2_with fail
          obtain rfl : b = t := Hbq.out
          have hbl : b.length ≤ 16000 := by omega
          have Hend2 : Hid (E = if whole then [13, 10] else []) := by show E = _; rw [Hend.out]; simp
        all_goals
          clear Hbq Hsf Hend
          go_loopw [4, 9] (QRel2 b b.length R w) (fun _ iv _ => b.length - (intOf iv).toNat)
          case atStart => exact ⟨0, out, O, ol, oc, rfl, rfl, by omega, ⟨HR.out, HOl.out⟩, by omega, hoc, hown2, hbel2⟩
          case round =>
            clear hown2 hbel2 hol hoc hb2 HOl HR
            obtain ⟨i, out2, O2, ol2, oc2, rfl, rfl, him, hE, hol2, hoc2, hown, hbel⟩ := hrel
            by_cases hib : i < b.length
            · have hx8 := nth_lt b i
              by_cases h61 : nth b i = 61
              · have hx1 : ((nth b i : Int) != 61) = false := by simp [h61]
                have H61 := Lib.hid h61; clear h61
                by_cases h2 : i + 2 < b.length
                · have ha := nth_lt b (i + 1)
                  have hd := nth_lt b (i + 2)
                  have hbad := decQ_bad b i H61.out h2
                  have hok := decQ_ok b i H61.out h2
                  have hba := hexQ_bd (nth b (i + 1))
                  have hbd := hexQ_bd (nth b (i + 2))
                  have hca := fun W => hex_any (nth b (i + 1)) ha W
                  have hcd := fun W => hex_any (nth b (i + 2)) hd W
                  generalize hexQ (nth b (i + 1)) = u at hbad hok hba hca
                  generalize hexQ (nth b (i + 2)) = v at hbad hok hbd hcd
                  obtain ⟨hu1, hu2⟩ := hba
                  obtain ⟨hv1, hv2⟩ := hbd
                  have Hca := Lib.hid hca
                  have Hcd := Lib.hid hcd
                  have Hbad := Lib.hid hbad
                  have Hok := Lib.hid hok
                  have hi2 : (i : Int) + 2 < b.length := by omega
                  have hi1 : (i : Int) + 1 < b.length := by omega
                  have j1 : ((i : Int) + 1).toNat = i + 1 := by omega
                  have j2 : ((i : Int) + 2).toNat = i + 2 := by omega
                  clear hbad hok hca hcd
                  by_cases hu : u < 0
                  · have hR0 : R = none := by rw [← hE.out.1, Hbad.out (.inl hu)]; rfl
                    have hr : Hid (r = ([], 1)) := by show r = _; rw [Hst.out, hR0]
                    clear hR0
                    go_wp2_with fail
                    refine (Hca.out _).mono ?_
                    rintro e w4 ⟨rfl, rfl⟩
                    go_wp2_with fail
                    go_ret2
                    rw [hr.out]
                    exact BytesResF.fail 1 hbel
                  · by_cases hv : v < 0
                    · have hR0 : R = none := by rw [← hE.out.1, Hbad.out (.inr hv)]; rfl
                      have hr : Hid (r = ([], 1)) := by show r = _; rw [Hst.out, hR0]
                      clear hR0
                      go_wp2_with fail
                      refine (Hca.out _).mono ?_
                      rintro e w4 ⟨rfl, rfl⟩
                      go_wp2_with fail
                      refine (Hcd.out _).mono ?_
                      rintro e w5 ⟨rfl, rfl⟩
                      go_wp2_with fail
                      go_ret2
                      rw [hr.out]
                      exact BytesResF.fail 1 hbel
                    · obtain ⟨x, rfl⟩ := Int.eq_ofNat_of_zero_le (by omega : 0 ≤ u)
                      obtain ⟨y, rfl⟩ := Int.eq_ofNat_of_zero_le (by omega : 0 ≤ v)
                      have hE2 : Hid ((decQ (b.drop (i + 3))).map ((out2 ++ [UInt8.ofNat (x * 16 + y)]) ++ ·) = R) := by
                        show _ = R
                        rw [← hE.out.1, Hok.out (by omega) (by omega), map_app]
                        rfl
                      have Hol := Lib.hid hE.out.2
                      clear hE
                      go_wp2_with fail
                      refine (Hca.out _).mono ?_
                      rintro e w4 ⟨rfl, rfl⟩
                      go_wp2_with fail
                      refine (Hcd.out _).mono ?_
                      rintro e w5 ⟨rfl, rfl⟩
                      go_wp2_with fail
                      have i1 : IntKind.i64.wrap ((i : Int) + 1) = (i : Int) + 1 := IntWalk.i64_in _ (by omega)
                      have i2 : IntKind.i64.wrap ((i : Int) + 2) = (i : Int) + 2 := IntWalk.i64_in _ (by omega)
                      have k1 : 0 ≤ (i : Int) + 1 := by omega
                      have k2 : 0 ≤ (i : Int) + 2 := by omega
                      have o1 : bits .or .i64 ((x : Int) * 16) (y : Int) = ((x * 16 + y : Nat) : Int) := by
                        have h := i64_or (x * 16) y (by omega) (by omega)
                        rw [or_low x y 4 (by omega)] at h
                        simpa using h
                      have i3 : IntKind.i64.wrap ((x : Int) * 16) = (x : Int) * 16 := IntWalk.i64_in _ (by omega)
                      have hxy : x * 16 + y < 256 := by omega
                      have i4 : IntKind.u8.wrap ((x * 16 + y : Nat) : Int) = ((x * 16 + y : Nat) : Int) := wrap_u8N _ hxy
                      generalize hz : x * 16 + y = z at o1 i4 hE2 hxy
                      clear hz
                      have h63 : ol2 + 1 ≤ maxLen := by unfold maxLen; omega
                      have h47 : (ol2 + 1) * 1 ≤ 140737488355328 := by omega
                      go_region_law (first
                        | (go_simp; go_at_call 282; (with_reducible refine (Hca.out _).mono ?_); rintro e w4 ⟨rfl, rfl⟩)
                        | (go_simp; go_at_call 282; (with_reducible refine (Hcd.out _).mono ?_); rintro e w4 ⟨rfl, rfl⟩)
                        | (refine step_append_lies (w := (w5.alloc (.cells #[.int .u8 (z : Nat)] 5)).drew) (by rfl) (.tmp 69) (.tmp 83) 22 (by rfl) w.heap.size 5 j0 (.int .u8 0) 1 1 Tryz.underlying22 hj0 hjz0 hjz1 hjz2 rfl (by decide) (.slice O2 ol2 oc2) ol2 (Lib.byteCells out2) (by simp [Act.eval]) (hown.alloc _).drew ⟨w5.heap.size, 0, none⟩ 1 1 [.int .u8 (z : Nat)] (by simp [Act.eval]) rfl (news_one w5 _ _) (one_u8 _) (by decide) h63 h47 (by have := hbel.size; simp; omega) _ rfl ?_; intro g cap w6 hown6 hgrow6 hat6 hlt6))
                      all_goals
                        have hc' := own_cap hown6
                        have hb6 := (hbel.alloc hbel.size _).drew.grown hgrow6 (by have := hbel.size; simp; omega) (fun k hk => (hown.lt k hk).1)
                        clear hgrow6 hat6 hlt6 i1 i2 i3 i4 o1 j1 j2
                        go_wp2_with fail
                        refine ⟨⟨i + 3, out2 ++ [UInt8.ofNat z], some ⟨g, 0, none⟩, ol2 + 1, cap, rfl, by go_num, by omega, ⟨hE2.out, by simp [Hol.out]⟩, by omega, hc', ?_, hb6⟩, by simp [intOf]; omega⟩
                        rw [byteCells_append, byte_cell _ hxy]
                        exact hown6
                · have hR0 : R = none := by rw [← hE.out.1, decQ_short b i hib H61.out (by omega)]; rfl
                  have hr : Hid (r = ([], 1)) := by show r = _; rw [Hst.out, hR0]
                  clear hR0
                  go_wp2_with fail
                  go_ret2
                  rw [hr.out]
                  exact BytesResF.fail 1 hbel
              · have hx1 : ((nth b i : Int) != 61) = true := by simp; omega
                have hE1 := decQ_plain b i hib h61
                have hE2 : Hid ((decQ (b.drop (i + 1))).map ((out2 ++ [UInt8.ofNat (nth b i)]) ++ ·) = R) := by
                  show _ = R
                  rw [← hE.out.1, hE1, map_app]
                have Hol := Lib.hid hE.out.2
                clear hE1 hE h61
                have h63 : ol2 + 1 ≤ maxLen := by unfold maxLen; omega
                have h47 : (ol2 + 1) * 1 ≤ 140737488355328 := by omega
                go_wp2_with (at_builtin; refine wpList_app rfl _ _ 22 rfl w.heap.size 5 j0 (.int .u8 0) 1 1 Tryz.underlying22 hj0 hjz0 hjz1 hjz2 rfl (by decide) O2 ol2 oc2 (Lib.byteCells out2) rfl (hown.alloc _) _ _ 1 1 [.int .u8 (nth b i : Nat)] rfl (Sl.one _ _ _) (one_u8 _) h63 h47 ?c2 ?_)
                case c2 => have := hbel.size; simp; omega
                intro S' c' w4 hown4 hb4 _
                have hc' := own_cap hown4
                go_wp2_with fail
                refine ⟨⟨i + 1, out2 ++ [UInt8.ofNat (nth b i)], S', ol2 + 1, c', rfl, by go_num, by omega, ⟨hE2.out, by simp [Hol.out]⟩, by omega, hc', ?_, (hbel.alloc hbel.size _).trans hb4⟩, by simp [intOf]; omega⟩
                rw [byteCells_append, byte_cell _ hx8]
                exact hown4
            · obtain rfl : i = b.length := by omega
              have hR0 : R = some out2 := by rw [← hE.out.1, List.drop_of_length_le (Nat.le_refl _)]; simp [decQ]
              have hr1 : Hid (r = if 4000 < (out2 ++ E).length then ([], 2) else linesQ k rest (out2 ++ E)) := by
                show r = _; rw [Hst.out, hR0]
              have Hol := Lib.hid hE.out.2
              clear hR0 hE
              cases whole
              all_goals
                first
                | obtain rfl : E = [] := by have := Hend2.out; simpa using this
                  by_cases h4 : 4000 < ol2
                  · have hr : Hid (r = ([], 2)) := by show r = _; rw [hr1.out, List.append_nil, Hol.out, if_pos h4]
                    go_wp2_with fail
                    go_ret2
                    rw [hr.out]
                    exact BytesResF.fail 2 hbel
                  · have hr : Hid (r = linesQ k rest out2) := by show r = _; rw [hr1.out, List.append_nil, Hol.out, if_neg h4]
                    go_wp2_with fail
                    exact ⟨⟨k, rest, out2, O2, ol2, oc2, rfl, rfl, ⟨hr.out.symm, by have := HK.out; omega, Hol.out⟩, by omega, by omega, hoc2, hown, hbel⟩, by rw [strLen_str, strLen_str]; exact hl2⟩
                | obtain rfl : E = [13, 10] := by have := Hend2.out; simpa using this
                  have hL : Hid ((out2 ++ [13, 10]).length = ol2 + 2) := by show _ = _; simp [Hol.out]
                  have h63 : ol2 + 2 ≤ maxLen := by unfold maxLen; omega
                  have h47 : (ol2 + 2) * 1 ≤ 140737488355328 := by omega
                  go_wp2_with (at_builtin; refine wpList_app rfl _ _ 22 rfl w.heap.size 5 j0 (.int .u8 0) 1 1 Tryz.underlying22 hj0 hjz0 hjz1 hjz2 rfl (by decide) O2 ol2 oc2 (Lib.byteCells out2) rfl (hown.alloc _) _ _ 2 2 [.int .u8 13, .int .u8 10] rfl (Sl.row _ _ 1 2 _ rfl) (two_u8 _ _) h63 h47 ?c4 ?_)
                  case c4 => have := hbel.size; simp; omega
                  intro S' c' w4 hown4 hb4 _
                  have hc' := own_cap hown4
                  have hbel4 := (hbel.alloc hbel.size _).trans hb4
                  by_cases h4 : 4000 < ol2 + 2
                  · have hr : Hid (r = ([], 2)) := by show r = _; rw [hr1.out, hL.out, if_pos h4]
                    go_wp2_with fail
                    go_ret2
                    rw [hr.out]
                    exact BytesResF.fail 2 hbel4
                  · have hr : Hid (r = linesQ k rest (out2 ++ [13, 10])) := by show r = _; rw [hr1.out, hL.out, if_neg h4]
                    go_wp2_with fail
                    exact ⟨⟨k, rest, out2 ++ [13, 10], S', ol2 + 2, c', rfl, rfl, ⟨hr.out.symm, by have := HK.out; omega, hL.out⟩, by omega, by omega, hc', by rw [byteCells_append]; exact hown4, hbel4⟩, by rw [strLen_str, strLen_str]; exact hl2⟩
theorem quoteRead_any (s : List UInt8) (w : World) (hs : s.length ≤ 9223372036854775807) :
    Calls Tryz.prog 242 #[str s] w (BytesRes w (readQ s)) := (quoteRead_anyF s w hs).mono fun _ _ h => h.res
end Go.Proofs.YtlbdnohnngkapaaGreatDoor

namespace Go.Proofs.YtlbdnohnngkapaaGreatDoor
open Go.RowKit

set_option maxRecDepth 100000 in
set_option maxHeartbeats 4000000 in
theorem Parse_fields (b : List UInt8) (A : Option Addr) (n c : Nat) (w : World) (hb : By w w.heap.size A n b) (_hn : n ≤ c) (_hm : n ≤ maxLen) :
    Calls Tryz.prog 159 #[.slice A n c] w (ParseRes (parseF b) w) := by
  obtain ⟨i0, hi0, hz0, hz1, hz2⟩ := info_parts infoField
  have hl := hb.len
  by_cases h4 : 40000 < n
  · rw [show parseF b = ([], 0, 2) from parse_many (by omega)]
    have d : decide ((40000 : Int) < n) = true := by simp; omega
    clear hb hl
    go_enter Tryz.func159, Tryz.ntmps159
    go_wp2_with fail
    go_ret3
    exact ParseRes.fail 2 (Below.refl _ _)
  · have d : decide ((40000 : Int) < n) = false := by simp; omega
    rw [parseF_fin (by omega), hl]
    obtain ⟨R, hR⟩ : ∃ R, linesF (n + 1) b [] = R := ⟨_, rfl⟩
    rw [hR]
    have hts := run_toStr (P := Tryz.prog) w 22 9 5 _ A n c b hb Tryz.underlying22 Tryz.underlying5 Tryz.underlying9
    have HR := Lib.hid hR
    have Hl := Lib.hid hl
    obtain ⟨r, hr⟩ : ∃ r, r = finF n R := ⟨_, rfl⟩
    rw [← hr]
    have Hr := Lib.hid hr
    have hn4 : n ≤ 40000 := by omega
    clear hR hl hb hr
    go_enter Tryz.func159, Tryz.ntmps159
    go_wp2_with fail
    go_loopw [2, 6] (PLRel n R w) (fun _ sv _ => strLn sv)
    case atStart => exact ⟨n + 1, b, [], none, 0, 0, rfl, rfl, ⟨HR.out, by rw [Hl.out]; omega, rfl, by simp [wtF, Hl.out]⟩, by rw [Hl.out]; exact Nat.le_refl _, Nat.zero_le _, Nat.le_refl _, World.ownsRow_nil _ _ _ _, Below.refl _ _⟩
    case round =>
      clear HR
      obtain ⟨k, s, out, S, m, cS, rfl, rfl, hE, hsn, hm20, hmc, hown, hbel⟩ := hrel
      obtain ⟨k, rfl⟩ : ∃ k', k = k' + 1 := ⟨k - 1, by have := hE.out.2.1; omega⟩
      have hcut := Cut_one s 10 wr (by unfold maxLen; omega)
      have hsum := @cut_sum s 10
      have l1 := @lines_no k s out
      have l2 := @lines_end k s out
      have l3 := @lines_bad k s out
      have l4 := fun m' => @lines_go k s out m'
      generalize Lib.cut s [10] = x at hcut hsum l1 l2 l3 l4
      obtain ⟨line0, rest, whole⟩ := x
      simp only at hcut hsum l1 l2 l3 l4
      have Hcut := Lib.hid hcut
      cases whole
      case false =>
        have hr1 : Hid (r = ([], 0, 1)) := by show r = _; rw [Hr.out, ← hE.out.1, l1 rfl]; rfl
        clear hcut hsum l1 l2 l3 l4 hE hown
        go_wp2_with fail
        refine Hcut.out.mono ?_
        rintro e w1 ⟨rfl, q, rfl⟩
        go_wp2_with fail
        refine (pfail_any 1 _).mono ?_
        rintro e w2 ⟨rfl, rfl⟩
        go_wp2_with fail
        go_ret3
        rw [hr1.out]
        exact ParseRes.fail 1 (belN hbel q)
      case true =>
        have hsl := hsum rfl
        have hcl := chop_len line0
        have hTs := fun W => TrimSuffix13 line0 W (by unfold maxLen; omega)
        generalize hline : chopF line0 = line at hTs hcl l2 l3 l4
        have HTs := Lib.hid hTs
        have hline4 : line.length ≤ 40000 := by omega
        have hrest : rest.length ≤ n ∧ rest.length < s.length := by omega
        obtain ⟨hrest1, hrest2⟩ := hrest
        by_cases hl0 : line = []
        · -- the empty line
          have hRv : R = if chkF out = 0 then (out, rest, 0) else ([], [], chkF out) := by rw [← hE.out.1]; exact l2 rfl hl0
          have hol := hE.out.2.2.1
          have hwt := hE.out.2.2.2
          have hsm : smallF out := wtF_small (N := 40000) (by omega) (by unfold maxLen; omega)
          have d0 : (line == []) = true := by simpa using hl0
          have hck := fun W (hW : Below wr.heap.size wr W) => FCheck_any out S m cS wr.heap.size W ((Sl.of_own hown).below hW) hW.size hsm (by unfold maxLen; omega)
          have hslw := Sl.of_own hown
          have hcm := own_capF hown
          have hrS : r = if chkF out = 0 then (out, n - rest.length, 0) else ([], 0, chkF out) := by
            rw [Hr.out, hRv]
            unfold finF
            by_cases h0 : chkF out = 0
            · rw [if_pos h0, if_pos h0, if_pos rfl]
            · rw [if_neg h0, if_neg h0, if_neg (by simpa using h0)]
          generalize chkF out = e0 at hck hrS
          have Hck := Lib.hid hck
          have Hslw := Lib.hid hslw
          have Hsm := Lib.hid hsm
          have Hol := Lib.hid hol
          have hnr : ((n : Int) - (rest.length : Int)) = ((n - rest.length : Nat) : Int) := by omega
          clear hcut hsum l1 l2 l3 l4 hE hown hRv hck hslw hsm hol hwt hTs hline hl0
          by_cases he0 : e0 = 0
          · subst he0
            have hr1 : Hid (r = (out, n - rest.length, 0)) := by show r = _; rw [hrS, if_pos rfl]
            clear hrS
            go_wp2_with fail
            refine Hcut.out.mono ?_
            rintro e w1 ⟨rfl, q, rfl⟩
            have hb1 := belN (Below.refl wr.heap.size wr) q
            have hbel1 := belN hbel q
            go_wp2_with fail
            refine (HTs.out _).mono ?_
            rintro e w2 ⟨rfl, rfl⟩
            go_wp2_with fail
            refine (Hck.out _ hb1).mono ?_
            rintro e w3 ⟨rfl, hb3⟩
            go_wp2_with fail
            go_ret3
            rw [hr1.out]
            have hbw := hb1.trans (hb3.mono hb1.size)
            exact ⟨S, cS, by rw [← Hol.out]; rfl, by rw [show (out, n - rest.length, 0).1.length = m from Hol.out]; exact (Hslw.out.below hbw).more hbw.size, Hsm.out, by show out.length ≤ cS; rw [Hol.out]; exact hmc, hcm, hbel1.trans (hb3.mono hbel1.size)⟩
          · have hr1 : Hid (r = ([], 0, e0)) := by show r = _; rw [hrS, if_neg he0]
            have de : ((e0 : Int) != 0) = true := by simp; omega
            clear hrS he0
            go_wp2_with fail
            refine Hcut.out.mono ?_
            rintro e w1 ⟨rfl, q, rfl⟩
            have hb1 := belN (Below.refl wr.heap.size wr) q
            have hbel1 := belN hbel q
            go_wp2_with fail
            refine (HTs.out _).mono ?_
            rintro e w2 ⟨rfl, rfl⟩
            go_wp2_with fail
            refine (Hck.out _ hb1).mono ?_
            rintro e w3 ⟨rfl, hb3⟩
            go_wp2_with fail
            refine (pfail_any e0 _).mono ?_
            rintro e w2 ⟨rfl, rfl⟩
            go_wp2_with fail
            go_ret3
            rw [hr1.out]
            exact ParseRes.fail e0 (hbel1.trans (hb3.mono hbel1.size))
        · have d0 : (line == []) = false := by simpa using hl0
          have hll : 0 < line.length := List.length_pos_iff.2 hl0
          have hi0' : (0 : Int) ≤ 0 := by omega
          have hi1' : (0 : Int) < line.length := by omega
          have l3 := l3 rfl hl0
          have l4 := fun m' => l4 m' rfl hl0
          clear hsum l1 l2 hcut
          by_cases h32 : nth line 0 = 32
          · have t1 : ((nth line 0 : Int) == 32) = true := by simp [h32]
            have hbl : blankF (nth line 0) = true := blank_32 h32
            by_cases hm0 : m = 0
            · have hout : out = [] := List.eq_nil_of_length_eq_zero (by rw [hE.out.2.2.1]; exact hm0)
              have hr1 : Hid (r = ([], 0, 1)) := by show r = _; rw [Hr.out, ← hE.out.1, l3 (goF_blank0 hbl hout)]; rfl
              subst hm0
              clear l3 l4 hE hown hbl
              go_wp2_with fail
              refine Hcut.out.mono ?_
              rintro e w1 ⟨rfl, q, rfl⟩
              go_wp2_with fail
              refine (HTs.out _).mono ?_
              rintro e w2 ⟨rfl, rfl⟩
              go_wp2_with fail
              refine (pfail_any 1 _).mono ?_
              rintro e w3 ⟨rfl, rfl⟩
              go_wp2_with fail
              go_ret3
              rw [hr1.out]
              exact ParseRes.fail 1 (belN hbel q)
            · have hout : out ≠ [] := fun e => hm0 (by rw [← hE.out.2.2.1, e]; rfl)
              obtain ⟨init, f, rfl⟩ : ∃ init f, out = init ++ [f] := ⟨out.dropLast, out.getLast hout, (List.dropLast_concat_getLast hout).symm⟩
              have hmi : m = init.length + 1 := by rw [← hE.out.2.2.1]; simp
              have hgo := l4 _ (goF_blank hbl hout)
              have hwt := more_wt init f line
              have hms := more_snoc init f line
              obtain ⟨g, cap, hv, hgb, hgl⟩ := hown.form (by omega)
              injection hv with hS2 _ hcap
              subst hS2
              subst hcap
              have hj : m - 1 = init.length := by omega
              have q1 : wr.cell? ⟨g, (m - 1) * 2 + 1, none⟩ = some (str f.value) := by
                rw [hown.cellAt _ (by omega), fieldC_app, List.getElem?_append_right (by rw [fieldC_len]; omega), fieldC_len, hj, show init.length * 2 + 1 - init.length * 2 = 1 from by omega]
                rfl
              have f1 : wr.frozen? ⟨g, (m - 1) * 2 + 1, none⟩ = false := hown.frozenAt _
              have htl := trim_len line [32, 9]
              have hT1 := fun W => Trim_any line [32, 9] W (by unfold maxLen; omega) (by decide) (by decide)
              have hfv : f.value.length ≤ 40000 := by
                have h1 := hE.out.2.2.2
                have h2 := @wtF_mem (init ++ [f]) f (by simp)
                omega
              generalize hT1d : Lib.trimS line [32, 9] = t1 at hT1 htl hms
              have hT2 := fun W => Trim_any (f.value ++ 32 :: t1) [32] W (by unfold maxLen; simp only [List.length_append, List.length_cons]; omega) (by decide) (by decide)
              generalize hT2d : Lib.trimS (f.value ++ 32 :: t1) [32] = t2 at hT2 hms
              have HT1 := Lib.hid hT1
              have HT2 := Lib.hid hT2
              have hownS := fun (u : Value) => (hown.stored ((m - 1) * 2 + 1) u).1
              have hput : (fieldC (init ++ [f])).set ((m - 1) * 2 + 1) (str t2) = fieldC (moreF (init ++ [f]) line) := by rw [hj, fieldC_put, hms]
              have hml : (moreF (init ++ [f]) line).length = m := by rw [hms, hmi]; simp
              have hR2 : Hid (R = if 20 < m then ([], [], 2) else linesF k rest (moreF (init ++ [f]) line)) := by show R = _; rw [← hE.out.1, hgo, hml]
              have hwt2 : Hid (wtF (moreF (init ++ [f]) line) + rest.length ≤ n) := by
                show _ ≤ _
                have := hE.out.2.2.2
                omega
              have hk2 : Hid (rest.length < k) := by show _ < _; have := hE.out.2.1; omega
              generalize moreF (init ++ [f]) line = out2 at hput hml hR2 hwt2
              have Hown := Lib.hid hown
              have Hput := Lib.hid hput
              have Hml := Lib.hid hml
              have Hmi := Lib.hid hmi
              have hm1 : 0 < m := by omega
              clear l3 l4 hE hown hbl hgo hwt hms hT1 hT2 hput hml hT1d hT2d hownS hm0 hmi hj
              go_wp2_with fail
              refine Hcut.out.mono ?_
              rintro e w1 ⟨rfl, q, rfl⟩
              go_wp2_with fail
              refine (HTs.out _).mono ?_
              rintro e w2 ⟨rfl, rfl⟩
              have q1d : (wr.drewN q).cell? ⟨g, (m - 1) * 2 + 1, none⟩ = some (str f.value) := q1
              have f1d : (wr.drewN q).frozen? ⟨g, (m - 1) * 2 + 1, none⟩ = false := f1
              have hb1 := belN (Below.refl wr.heap.size wr) (q + 1)
              have hszd : g < (wr.drewN q).drew.heap.size := hgl
              go_wp2_with fail
              go_region_with (first
                | (go_at_call 76; (with_reducible refine (HT1.out _).mono ?_); rintro e w4 ⟨rfl, hb4⟩; have q4 := (hb4.cell (p := ⟨g, (m - 1) * 2 + 1, none⟩) hszd).trans q1d; have f4 := (hb4.frozen (p := ⟨g, (m - 1) * 2 + 1, none⟩) hszd).trans f1d; have hsz4 := Nat.lt_of_lt_of_le hszd hb4.size)
                | (go_at_call 76; (with_reducible refine (HT2.out _).mono ?_); rintro e w5 ⟨rfl, hb5⟩; have q5 := (hb5.cell (p := ⟨g, (m - 1) * 2 + 1, none⟩) hsz4).trans q4; have f5 := (hb5.frozen (p := ⟨g, (m - 1) * 2 + 1, none⟩) hsz4).trans f4))
              all_goals
                have hbw := hb1.trans ((hb4.trans (hb5.mono hb4.size)).mono (show wr.heap.size ≤ (wr.drewN q).drew.heap.size from Nat.le_refl _))
                have hown5 := (own_below Hown.out hbw).stored ((m - 1) * 2 + 1) (str t2) |>.1
                rw [Hput.out] at hown5
                have hbel5 := (hbel.trans (hbw.mono hbel.size)).setCell (p := ⟨g, (m - 1) * 2 + 1, none⟩) hgb (str t2)
                have d20 : decide ((20 : Int) < (m : Int)) = false := by simp; omega
                have hR3 : Hid (linesF k rest out2 = R) := by show _ = R; rw [hR2.out, if_neg (by omega)]
                have Hown5 := Lib.hid hown5
                clear hown5 q1 f1 q1d f1d q4 f4 q5 f5 hb1 hb4 hb5 hbw
                go_wp2_with fail
                exact ⟨⟨k, rest, out2, some ⟨g, 0, none⟩, m, cS, rfl, rfl, ⟨hR3.out, hk2.out, Hml.out, hwt2.out⟩, hrest1, hm20, hmc, Hown5.out, hbel5⟩, by rw [strLn_str, strLn_str]; exact hrest2⟩
          · have t1 : ((nth line 0 : Int) == 32) = false := by simp; omega
            by_cases h9 : nth line 0 = 9
            · have t2 : ((nth line 0 : Int) == 9) = true := by simp [h9]
              have hbl : blankF (nth line 0) = true := blank_9 h9
              by_cases hm0 : m = 0
              · have hout : out = [] := List.eq_nil_of_length_eq_zero (by rw [hE.out.2.2.1]; exact hm0)
                have hr1 : Hid (r = ([], 0, 1)) := by show r = _; rw [Hr.out, ← hE.out.1, l3 (goF_blank0 hbl hout)]; rfl
                subst hm0
                clear l3 l4 hE hown hbl
                go_wp2_with fail
                refine Hcut.out.mono ?_
                rintro e w1 ⟨rfl, q, rfl⟩
                go_wp2_with fail
                refine (HTs.out _).mono ?_
                rintro e w2 ⟨rfl, rfl⟩
                go_wp2_with fail
                refine (pfail_any 1 _).mono ?_
                rintro e w3 ⟨rfl, rfl⟩
                go_wp2_with fail
                go_ret3
                rw [hr1.out]
                exact ParseRes.fail 1 (belN hbel q)
              · have hout : out ≠ [] := fun e => hm0 (by rw [← hE.out.2.2.1, e]; rfl)
                obtain ⟨init, f, rfl⟩ : ∃ init f, out = init ++ [f] := ⟨out.dropLast, out.getLast hout, (List.dropLast_concat_getLast hout).symm⟩
                have hmi : m = init.length + 1 := by rw [← hE.out.2.2.1]; simp
                have hgo := l4 _ (goF_blank hbl hout)
                have hwt := more_wt init f line
                have hms := more_snoc init f line
                obtain ⟨g, cap, hv, hgb, hgl⟩ := hown.form (by omega)
                injection hv with hS2 _ hcap
                subst hS2
                subst hcap
                have hj : m - 1 = init.length := by omega
                have q1 : wr.cell? ⟨g, (m - 1) * 2 + 1, none⟩ = some (str f.value) := by
                  rw [hown.cellAt _ (by omega), fieldC_app, List.getElem?_append_right (by rw [fieldC_len]; omega), fieldC_len, hj, show init.length * 2 + 1 - init.length * 2 = 1 from by omega]
                  rfl
                have f1 : wr.frozen? ⟨g, (m - 1) * 2 + 1, none⟩ = false := hown.frozenAt _
                have htl := trim_len line [32, 9]
                have hT1 := fun W => Trim_any line [32, 9] W (by unfold maxLen; omega) (by decide) (by decide)
                have hfv : f.value.length ≤ 40000 := by
                  have h1 := hE.out.2.2.2
                  have h2 := @wtF_mem (init ++ [f]) f (by simp)
                  omega
                generalize hT1d : Lib.trimS line [32, 9] = t1 at hT1 htl hms
                have hT2 := fun W => Trim_any (f.value ++ 32 :: t1) [32] W (by unfold maxLen; simp only [List.length_append, List.length_cons]; omega) (by decide) (by decide)
                generalize hT2d : Lib.trimS (f.value ++ 32 :: t1) [32] = t2 at hT2 hms
                have HT1 := Lib.hid hT1
                have HT2 := Lib.hid hT2
                have hownS := fun (u : Value) => (hown.stored ((m - 1) * 2 + 1) u).1
                have hput : (fieldC (init ++ [f])).set ((m - 1) * 2 + 1) (str t2) = fieldC (moreF (init ++ [f]) line) := by rw [hj, fieldC_put, hms]
                have hml : (moreF (init ++ [f]) line).length = m := by rw [hms, hmi]; simp
                have hR2 : Hid (R = if 20 < m then ([], [], 2) else linesF k rest (moreF (init ++ [f]) line)) := by show R = _; rw [← hE.out.1, hgo, hml]
                have hwt2 : Hid (wtF (moreF (init ++ [f]) line) + rest.length ≤ n) := by
                  show _ ≤ _
                  have := hE.out.2.2.2
                  omega
                have hk2 : Hid (rest.length < k) := by show _ < _; have := hE.out.2.1; omega
                generalize moreF (init ++ [f]) line = out2 at hput hml hR2 hwt2
                have Hown := Lib.hid hown
                have Hput := Lib.hid hput
                have Hml := Lib.hid hml
                have Hmi := Lib.hid hmi
                have hm1 : 0 < m := by omega
                clear l3 l4 hE hown hbl hgo hwt hms hT1 hT2 hput hml hT1d hT2d hownS hm0 hmi hj
                go_wp2_with fail
                refine Hcut.out.mono ?_
                rintro e w1 ⟨rfl, q, rfl⟩
                go_wp2_with fail
                refine (HTs.out _).mono ?_
                rintro e w2 ⟨rfl, rfl⟩
                have q1d : (wr.drewN q).cell? ⟨g, (m - 1) * 2 + 1, none⟩ = some (str f.value) := q1
                have f1d : (wr.drewN q).frozen? ⟨g, (m - 1) * 2 + 1, none⟩ = false := f1
                have hb1 := belN (Below.refl wr.heap.size wr) (q + 1)
                have hszd : g < (wr.drewN q).drew.heap.size := hgl
                go_wp2_with fail
                go_region_with (first
                  | (go_at_call 76; (with_reducible refine (HT1.out _).mono ?_); rintro e w4 ⟨rfl, hb4⟩; have q4 := (hb4.cell (p := ⟨g, (m - 1) * 2 + 1, none⟩) hszd).trans q1d; have f4 := (hb4.frozen (p := ⟨g, (m - 1) * 2 + 1, none⟩) hszd).trans f1d; have hsz4 := Nat.lt_of_lt_of_le hszd hb4.size)
                  | (go_at_call 76; (with_reducible refine (HT2.out _).mono ?_); rintro e w5 ⟨rfl, hb5⟩; have q5 := (hb5.cell (p := ⟨g, (m - 1) * 2 + 1, none⟩) hsz4).trans q4; have f5 := (hb5.frozen (p := ⟨g, (m - 1) * 2 + 1, none⟩) hsz4).trans f4))
                all_goals
                  have hbw := hb1.trans ((hb4.trans (hb5.mono hb4.size)).mono (show wr.heap.size ≤ (wr.drewN q).drew.heap.size from Nat.le_refl _))
                  have hown5 := (own_below Hown.out hbw).stored ((m - 1) * 2 + 1) (str t2) |>.1
                  rw [Hput.out] at hown5
                  have hbel5 := (hbel.trans (hbw.mono hbel.size)).setCell (p := ⟨g, (m - 1) * 2 + 1, none⟩) hgb (str t2)
                  have d20 : decide ((20 : Int) < (m : Int)) = false := by simp; omega
                  have hR3 : Hid (linesF k rest out2 = R) := by show _ = R; rw [hR2.out, if_neg (by omega)]
                  have Hown5 := Lib.hid hown5
                  clear hown5 q1 f1 q1d f1d q4 f4 q5 f5 hb1 hb4 hb5 hbw
                  go_wp2_with fail
                  exact ⟨⟨k, rest, out2, some ⟨g, 0, none⟩, m, cS, rfl, rfl, ⟨hR3.out, hk2.out, Hml.out, hwt2.out⟩, hrest1, hm20, hmc, Hown5.out, hbel5⟩, by rw [strLn_str, strLn_str]; exact hrest2⟩
            · have t2 : ((nth line 0 : Int) == 9) = false := by simp; omega
              have hbl : blankF (nth line 0) = false := blank_no h32 h9
              have hcut2 := fun W => Cut_one line 58 W (by unfold maxLen; omega)
              have hc1 := @goF_none out line hbl
              have hc2 := @goF_new out line hbl
              have hc3 := new_wt out line
              have hcs := @cut_sum line 58
              generalize Lib.cut line [58] = y at hcut2 hc1 hc2 hc3 hcs
              obtain ⟨name, value, ok⟩ := y
              simp only at hcut2 hc1 hc2 hc3 hcs
              have Hcut2 := Lib.hid hcut2
              cases ok
              case false =>
                have hr1 : Hid (r = ([], 0, 1)) := by show r = _; rw [Hr.out, ← hE.out.1, l3 (hc1 rfl)]; rfl
                clear l3 l4 hE hown hbl hcut2 hc1 hc2 hc3 hcs
                go_wp2_with fail
                refine Hcut.out.mono ?_
                rintro e w1 ⟨rfl, q, rfl⟩
                go_wp2_with fail
                refine (HTs.out _).mono ?_
                rintro e w2 ⟨rfl, rfl⟩
                go_wp2_with fail
                refine (Hcut2.out _).mono ?_
                rintro e w3 ⟨rfl, q3, rfl⟩
                go_wp2_with fail
                refine (pfail_any 1 _).mono ?_
                rintro e w4 ⟨rfl, rfl⟩
                go_wp2_with fail
                go_ret3
                rw [hr1.out]
                exact ParseRes.fail 1 (belN hbel (q + q3))
              case true =>
                have hgo := l4 _ (hc2 rfl)
                have hwt := hc3 rfl
                have hls := hcs rfl
                have hT1 := fun W => Trim_any value [32, 9] W (by unfold maxLen; omega) (by decide) (by decide)
                have hR2 : Hid (R = if 20 < m + 1 then ([], [], 2) else linesF k rest (out ++ [⟨name, Lib.trimS value [32, 9]⟩])) := by
                  show R = _
                  rw [← hE.out.1, hgo]
                  simp only [List.length_append, List.length_cons, List.length_nil, hE.out.2.2.1, Nat.zero_add]
                have hwt2 : Hid (wtF (out ++ [⟨name, Lib.trimS value [32, 9]⟩]) + rest.length ≤ n) := by
                  show _ ≤ _
                  have := hE.out.2.2.2
                  omega
                generalize Lib.trimS value [32, 9] = t at hT1 hR2 hwt2
                have hml : Hid ((out ++ [FieldD.mk name t]).length = m + 1) := by show _ = _; simp [hE.out.2.2.1]
                have hk2 : Hid (rest.length < k) := by show _ < _; have := hE.out.2.1; omega
                have HT1 := Lib.hid hT1
                have Hown := Lib.hid hown
                have h63 : m + 1 ≤ maxLen := by unfold maxLen; omega
                have h47 : (m + 1) * 32 ≤ 140737488355328 := by omega
                have hone : ∀ u ∈ [str name, str t], u.oneCell' = true := by intro u hu; simp at hu; rcases hu with rfl | rfl <;> rfl
                have Hone := Lib.hid hone
                clear l3 l4 hE hown hbl hcut2 hc1 hc2 hc3 hcs hgo hwt hT1 hone
                go_wp2_with fail
                refine Hcut.out.mono ?_
                rintro e w1 ⟨rfl, q, rfl⟩
                go_wp2_with fail
                refine (HTs.out _).mono ?_
                rintro e w2 ⟨rfl, rfl⟩
                go_wp2_with fail
                refine (Hcut2.out _).mono ?_
                rintro e w3 ⟨rfl, q3, rfl⟩
                have hb1 := belN (Below.refl wr.heap.size wr) (q + q3)
                go_wp2_with fail
                refine (HT1.out _).mono ?_
                rintro e w4 ⟨rfl, hb4⟩
                have hbw := hb1.trans (hb4.mono hb1.size)
                have hbel4 := hbel.trans (hbw.mono hbel.size)
                have hown4 := own_below Hown.out hbw
                have hsz4 := hbel4.size
                clear hb1 hb4 hbw
                go_wp2_with (at_builtin; refine wpList_app rfl _ _ 116 rfl w.heap.size 186 i0 (.agg #[.string ⟨#[]⟩, .string ⟨#[]⟩]) 2 32 Tryz.underlying116 hi0 hz0 hz1 hz2 rfl (by decide) S m cS (fieldC out) rfl (hown4.alloc _) _ _ 1 1 [str name, str t] rfl (Sl.row _ _ 2 1 _ rfl) Hone.out h63 h47 ?c2 ?_)
                case c2 => simp; omega
                intro S' c' w5 hown5 hb5 _
                have hc' := own_cap hown5
                have hbel5 := (hbel4.alloc hsz4 (.cells #[str name, str t] 186)).trans hb5
                rw [show fieldC out ++ [str name, str t] = fieldC (out ++ [⟨name, t⟩]) from by rw [fieldC_app]; rfl] at hown5
                have Hown5 := Lib.hid hown5
                clear hown4 hown5 hb5
                by_cases h20 : 20 < m + 1
                · have d20 : decide ((20 : Int) < (m : Int) + 1) = true := by simp; omega
                  have hr1 : Hid (r = ([], 0, 2)) := by show r = _; rw [Hr.out, hR2.out, if_pos h20]; rfl
                  go_wp2_with fail
                  refine (pfail_any 2 _).mono ?_
                  rintro e w6 ⟨rfl, rfl⟩
                  go_wp2_with fail
                  go_ret3
                  rw [hr1.out]
                  exact ParseRes.fail 2 hbel5
                · have d20 : decide ((20 : Int) < (m : Int) + 1) = false := by simp; omega
                  have hR3 : Hid (linesF k rest (out ++ [⟨name, t⟩]) = R) := by show _ = R; rw [hR2.out, if_neg h20]
                  go_wp2_with fail
                  exact ⟨⟨k, rest, _, S', m + 1, c', rfl, rfl, ⟨hR3.out, hk2.out, hml.out, hwt2.out⟩, hrest1, by omega, hc', Hown5.out, hbel5⟩, by rw [strLn_str, strLn_str]; exact hrest2⟩
end Go.Proofs.YtlbdnohnngkapaaGreatDoor

namespace Go.Proofs.YtlbdnohnngkapaaGreatDoor
open Go.RowKit

/-! ### header.Params: the plain steps -/
theorem TrimLeft_any (l cs : List UInt8) (w : World) (hc : cs.length < 4294967281) (ha : cs.all (fun b => decide (b.toNat < 128)) = true) :
    Calls Tryz.prog 240 #[str l, .string ⟨cs.toArray⟩] w fun e w' => e = .returned (str (Lib.trimLeftS l cs)) ∧ Below w.heap.size w w' :=
  Any.strings_TrimLeft_laid Go.Proofs.Tryz.lays161 (by kernel_rfl) ⟨l.toArray⟩ ⟨cs.toArray⟩ w (by simpa [ByteArray.size] using hc) (ascii_of_all ha)
theorem trimL_len (l cs : List UInt8) : (Lib.trimLeftS l cs).length ≤ l.length := (List.dropWhile_suffix _).length_le
theorem trimR_len (l cs : List UInt8) : (Lib.trimRightS l cs).length ≤ l.length := by
  unfold Lib.trimRightS
  have := (List.dropWhile_suffix (cs.contains ·) (l := l.reverse)).length_le
  rw [List.length_reverse] at this ⊢
  exact this
theorem cut_lenF (l : List UInt8) (c : UInt8) : (Lib.cut l [c]).1.length ≤ l.length ∧ (Lib.cut l [c]).2.1.length ≤ l.length := by
  unfold Lib.cut
  split
  · simp; omega
  · simp
theorem loopP_end (k : Nat) (rest : List UInt8) (l : List FieldD) : loopP (k + 1) rest false l = (l, 0) := by rw [loopP, if_pos rfl]
section
variable {k : Nat} {rest : List UInt8} {l : List FieldD} {a name b v : List UInt8} {ok : Bool}
theorem loopP_bad (hc : Lib.cut (Lib.trimLeftS rest [32]) [61] = (a, b, ok)) (hn : Lib.trimS a [32] = name) (h : (!ok || !tokB name) = true) : loopP (k + 1) rest true l = ([], 1) := by
  rw [loopP, if_neg (by simp), hc]
  simp only
  rw [hn, if_pos h]
theorem loopP_quo {p t gap r2 : List UInt8} {ok2 more2 : Bool} (hc : Lib.cut (Lib.trimLeftS rest [32]) [61] = (a, b, true)) (hn : Lib.trimS a [32] = name) (ht : tokB name = true) (hv : Lib.trimLeftS b [32] = v) (hq : Lib.hasPrefix v [34] = true)
    (hd : Lib.cut (v.drop 1) [34] = (p, t, ok2)) (hg : Lib.cut t [59] = (gap, r2, more2)) :
    loopP (k + 1) rest true l = if ok2 = false then ([], 1) else if Lib.trimS gap [32] ≠ [] then ([], 1) else if 20 < (l ++ [FieldD.mk (lowL name) p]).length then ([], 2) else loopP k r2 more2 (l ++ [FieldD.mk (lowL name) p]) := by
  rw [loopP, if_neg (by simp), hc]
  simp only
  rw [hn, ht, if_neg (by simp), hv, if_pos hq, hd]
  simp only
  rw [hg]
theorem loopP_tok {p0 p r2 : List UInt8} {more2 : Bool} (hc : Lib.cut (Lib.trimLeftS rest [32]) [61] = (a, b, true)) (hn : Lib.trimS a [32] = name) (ht : tokB name = true) (hv : Lib.trimLeftS b [32] = v) (hq : Lib.hasPrefix v [34] = false)
    (hd : Lib.cut v [59] = (p0, r2, more2)) (hp : Lib.trimRightS p0 [32] = p) :
    loopP (k + 1) rest true l = if tokB p = false then ([], 1) else if 20 < (l ++ [FieldD.mk (lowL name) p]).length then ([], 2) else loopP k r2 more2 (l ++ [FieldD.mk (lowL name) p]) := by
  rw [loopP, if_neg (by simp), hc]
  simp only
  rw [hn, ht, if_neg (by simp), hv, if_neg (by rw [hq]; simp), hd]
  simp only
  rw [hp]
end
/-- What header.Params leaves. -/
def ParamsRes (r : List UInt8 × List FieldD × Nat) (w : World) (e : Ending) (w' : World) : Prop :=
  ∃ S c, e = .returned (.tuple #[str r.1, .slice S r.2.1.length c, .int .i64 (r.2.2 : Nat)]) ∧ Sl w' w'.heap.size 2 S r.2.1.length (fieldC r.2.1) ∧ smallF r.2.1 ∧ r.2.1.length ≤ c ∧ c ≤ maxLen ∧ Below w.heap.size w w'
theorem ParamsRes.fail (e : Nat) {w w' : World} (hb : Below w.heap.size w w') : ParamsRes ([], [], e) w (.returned (.tuple #[.string ⟨#[]⟩, .slice none 0 0, .int .i64 (e : Nat)])) w' :=
  ⟨none, 0, rfl, Sl.nil_ _ _ _ _, fun f h => (by cases h), Nat.le_refl _, Nat.zero_le _, hb⟩
def PmRel (main : List UInt8) (R : List FieldD × Nat) (w : World) (xv lv rv mv : Value) (wr : World) : Prop :=
  ∃ (k : Nat) (rest : List UInt8) (more : Bool) (out : List FieldD) (S : Option Addr) (m c : Nat), xv = str main ∧ lv = .slice S m c ∧ rv = str rest ∧ mv = .bool more ∧ Hid (loopP k rest more out = R ∧ rest.length + 2 ≤ k ∧ out.length = m ∧ (∀ f ∈ out, f.name.length ≤ 900 ∧ f.value.length ≤ 900)) ∧ rest.length ≤ 900 ∧ m ≤ 20 ∧ m ≤ c ∧
    wr.ownsRow w.heap.size 186 2 (.slice S m c) m (fieldC out) ∧ Below w.heap.size w wr
set_option maxRecDepth 100000 in
set_option maxHeartbeats 4000000 in
theorem Params_any (s : List UInt8) (w : World) (hs : s.length ≤ maxLen) :
    Calls Tryz.prog 161 #[str s] w (ParamsRes (paramsF s) w) := by
  obtain ⟨i0, hi0, hz0, hz1, hz2⟩ := info_parts infoField
  have hval := Value_any s w hs
  have hv9 : valB s = true → s.length ≤ 900 := fun h => (val_mem h).1
  unfold paramsF
  generalize valB s = vb at hval hv9
  cases vb
  case false =>
    simp only [if_true]
    have Hval := Lib.hid hval
    clear hval hv9
    go_enter Tryz.func161, Tryz.ntmps161
    go_wp2_with fail
    refine Hval.out.mono ?_
    rintro e w1 ⟨rfl, hb1⟩
    go_wp2_with fail
    go_ret3
    exact ParamsRes.fail 1 hb1
  case true =>
    have hs9 := hv9 rfl
    rw [if_neg (by simp)]
    have hcut := fun W => Cut_one s 59 W hs
    have hcl := cut_lenF s 59
    generalize Lib.cut s [59] = x at hcut hcl
    obtain ⟨head, rest0, more0⟩ := x
    simp only at hcut hcl ⊢
    have htr := fun W => Trim_any head [32] W (by unfold maxLen; omega) (by decide) (by decide)
    have htl := trim_len head [32]
    generalize Lib.trimS head [32] = hd at htr htl
    have hlow := fun W => lowerH_any hd W (by unfold maxLen; omega)
    generalize lowL hd = main at hlow
    obtain ⟨R, hR⟩ : ∃ R, loopP (s.length + 2) rest0 more0 [] = R := ⟨_, rfl⟩
    rw [hR]
    obtain ⟨r, hr⟩ : ∃ r, r = (if R.2 = 0 then (main, R.1, 0) else ([], [], R.2)) := ⟨_, rfl⟩
    rw [← hr]
    have hrest0 : rest0.length ≤ 900 := by omega
    have Hr0 := Lib.hid (show rest0.length + 2 ≤ s.length + 2 by omega)
    have HR := Lib.hid hR
    have Hr := Lib.hid hr
    have Hval := Lib.hid hval
    have Hcut := Lib.hid hcut
    have Htr := Lib.hid htr
    have Hlow := Lib.hid hlow
    clear hval hcut hcl htr htl hlow hR hr hv9
    go_enter Tryz.func161, Tryz.ntmps161
    go_wp2_with fail
    refine Hval.out.mono ?_
    rintro e w1 ⟨rfl, hb1⟩
    go_wp2_with fail
    refine (Hcut.out _).mono ?_
    rintro e w2 ⟨rfl, q, rfl⟩
    have hb2 := belN hb1 q
    go_wp2_with fail
    refine (Htr.out _).mono ?_
    rintro e w3 ⟨rfl, hb3⟩
    have hb4 := hb2.trans (hb3.mono hb2.size)
    clear hb2 hb3 hb1
    go_wp2_with fail
    refine (Hlow.out _).mono ?_
    rintro e w5 ⟨rfl, hb5⟩
    have hb6 := hb4.trans (hb5.mono hb4.size)
    clear hb4 hb5 Hval Hcut Htr Hlow
    go_wp2_with fail
    go_loopw [2, 3, 6, 7] (PmRel main R w) (fun _ _ rv _ _ => strLn rv)
    case atStart => exact ⟨s.length + 2, rest0, more0, [], none, 0, 0, rfl, rfl, rfl, rfl, ⟨HR.out, Hr0.out, rfl, fun f h => (by cases h)⟩, hrest0, Nat.zero_le _, Nat.le_refl _, World.ownsRow_nil _ _ _ _, hb6⟩
    case round =>
      clear HR Hr0 hb6
      obtain ⟨k, rest, more, out, S, m, cS, rfl, rfl, rfl, rfl, hE, hrl, hm20, hmc, hown, hbel⟩ := hrel
      obtain ⟨k, rfl⟩ : ∃ k', k = k' + 1 := ⟨k - 1, by have := hE.out.2.1; omega⟩
      cases more
      case false =>
        have hRv : R = (out, 0) := by rw [← hE.out.1, loopP_end]
        have hr1 : Hid (r = (main, out, 0)) := by show r = _; rw [Hr.out, hRv]; rfl
        have hsl := Sl.of_own hown
        have hcm := own_capF hown
        have Hol := Lib.hid hE.out.2.2.1
        have hsm : smallF out := fun f hf => by have := hE.out.2.2.2 f hf; unfold maxLen; omega
        have Hsl := Lib.hid hsl
        have Hsm := Lib.hid hsm
        clear hE hRv hsl hsm hown
        go_wp2_with fail
        go_ret3
        rw [hr1.out]
        exact ⟨S, cS, by rw [← Hol.out]; rfl, by rw [show (main, out, 0).2.1.length = m from Hol.out]; exact Hsl.out, Hsm.out, by show out.length ≤ cS; rw [Hol.out]; exact hmc, hcm, hbel⟩
      case true =>
        have hTL := fun W => TrimLeft_any rest [32] W (by decide) (by decide)
        have htl := trimL_len rest [32]
        generalize hT0 : Lib.trimLeftS rest [32] = t0 at hTL htl
        have hcut := fun W => Cut_one t0 61 W (by unfold maxLen; omega)
        have hcl := cut_lenF t0 61
        have hcs := @cut_sum t0 61
        generalize hcutd : Lib.cut t0 [61] = x at hcut hcl hcs
        obtain ⟨a, b, ok⟩ := x
        simp only at hcut hcl hcs
        have hTn := fun W => Trim_any a [32] W (by unfold maxLen; omega) (by decide) (by decide)
        have hnl := trim_len a [32]
        generalize hnd : Lib.trimS a [32] = name at hTn hnl
        have hTk := fun W => Token_any name W (by unfold maxLen; omega)
        have hc0 : Lib.cut (Lib.trimLeftS rest [32]) [61] = (a, b, ok) := by rw [hT0]; exact hcutd
        have HTL := Lib.hid hTL
        have Hcut := Lib.hid hcut
        have HTn := Lib.hid hTn
        clear hTL hcut hTn hT0 hcutd
        have hb3 : ∀ (w1 : World) (q : Nat) (w3 : World), Below wr.heap.size wr w1 → Below (w1.drewN q).heap.size (w1.drewN q) w3 → Below wr.heap.size wr w3 := fun w1 q w3 h1 h3 => (belN h1 q).trans (h3.mono h1.size)
        by_cases hok : ok = true ∧ tokB name = true
        · obtain ⟨rfl, htk⟩ := hok
          rw [htk] at hTk
          have HTk := Lib.hid hTk
          have hbs : b.length + 1 ≤ t0.length := by have := hcs rfl; omega
          have hTv := fun W => TrimLeft_any b [32] W (by decide) (by decide)
          have hvl := trimL_len b [32]
          generalize hvd : Lib.trimLeftS b [32] = v at hTv hvl
          have hpf := fun W => HasPrefix_any v [34] W
          have hlow := fun W => lowerH_any name W (by unfold maxLen; omega)
          have HTv := Lib.hid hTv
          have Hlow := Lib.hid hlow
          have lq := fun p t gap r2 ok2 more2 (hq : Lib.hasPrefix v [34] = true) => @loopP_quo k rest out a name b v p t gap r2 ok2 more2 hc0 hnd htk hvd hq
          have lt := fun p0 p r2 more2 (hq : Lib.hasPrefix v [34] = false) => @loopP_tok k rest out a name b v p0 p r2 more2 hc0 hnd htk hvd hq
          have hv1 : Lib.hasPrefix v [34] = true → 1 ≤ v.length := by
            intro h
            have := (List.isPrefixOf_iff_prefix.1 h).length_le
            simpa using this
          generalize Lib.hasPrefix v [34] = pf at hpf lq lt hv1
          have Hpf := Lib.hid hpf
          have hln : (lowL name).length ≤ 900 := by rw [show (lowL name).length = name.length from by simp [lowL]]; omega
          generalize lowL name = ln at Hlow lq lt hln
          clear hTk hcs hnd hc0 hTv hvd hpf hlow htk hcl
          go_wp2_with fail
          refine (HTL.out _).mono ?_
          rintro e w1 ⟨rfl, hb1⟩
          go_wp2_with fail
          refine (Hcut.out _).mono ?_
          rintro e w2 ⟨rfl, q, rfl⟩
          go_wp2_with fail
          refine (HTn.out _).mono ?_
          rintro e w3 ⟨rfl, hbx⟩
          have hbw := hb3 w1 q w3 hb1 hbx
          clear hb1 hbx hb3
          go_wp2_with fail
          refine (HTk.out _).mono ?_
          rintro e w4 ⟨rfl, hb4⟩
          have hbw := hbw.trans (hb4.mono hbw.size)
          clear hb4
          go_wp2_with fail
          refine (HTv.out _).mono ?_
          rintro e w5 ⟨rfl, hb5⟩
          have hbw := hbw.trans (hb5.mono hbw.size)
          clear hb5
          go_wp2_with fail
          refine (Hpf.out _).mono ?_
          rintro e w6 ⟨rfl, rfl⟩
          clear HTL Hcut HTn HTk HTv Hpf
          cases pf
          case true =>
            have hv1 := hv1 rfl
            have hvi : (1 : Int) ≤ v.length := by omega
            have hcd := fun W => Cut_one v.tail 34 W (by unfold maxLen; simp; omega)
            have hcdl := cut_lenF v.tail 34
            rw [List.length_tail] at hcdl
            generalize hcde : Lib.cut v.tail [34] = y at hcd hcdl
            obtain ⟨p, t, ok2⟩ := y
            simp only at hcd hcdl
            have Hcd := Lib.hid hcd
            have hcg := fun W => Cut_one t 59 W (by unfold maxLen; omega)
            have hcgl := cut_lenF t 59
            generalize hcge : Lib.cut t [59] = y at hcg hcgl
            obtain ⟨gap, r2, more2⟩ := y
            simp only at hcg hcgl
            have Hcg := Lib.hid hcg
            have hlaw := lq p t gap r2 ok2 more2 rfl (by rw [List.drop_one]; exact hcde) hcge
            have htg := fun W => Trim_any gap [32] W (by unfold maxLen; omega) (by decide) (by decide)
            generalize Lib.trimS gap [32] = tg at htg hlaw
            have Htg := Lib.hid htg
            have hpl : p.length ≤ 900 := by omega
            clear hcd hcg htg hcde hcge lq lt
            cases ok2
            case false =>
              have hr1 : Hid (r = ([], [], 1)) := by show r = _; rw [Hr.out, ← hE.out.1, hlaw, if_pos rfl]; rfl
              clear hE hlaw hown
              go_wp2_with fail
              refine (Hcd.out _).mono ?_
              rintro e w7 ⟨rfl, q7, rfl⟩
              go_wp2_with fail
              go_ret3
              rw [hr1.out]
              exact ParamsRes.fail 1 (belN (hbel.trans (hbw.mono hbel.size)) q7)
            case true =>
              rw [if_neg (by simp)] at hlaw
              by_cases htg0 : tg = []
              · subst htg0
                rw [if_neg (by simp)] at hlaw
                have hR2 : Hid (R = if 20 < m + 1 then ([], 2) else loopP k r2 more2 (out ++ [⟨ln, p⟩])) := by
                  show R = _
                  rw [← hE.out.1, hlaw]
                  simp only [List.length_append, List.length_cons, List.length_nil, hE.out.2.2.1, Nat.zero_add]
                clear hlaw
                have hml : Hid ((out ++ [FieldD.mk ln p]).length = m + 1) := by show _ = _; simp [hE.out.2.2.1]
                have hk2 : Hid (r2.length + 2 ≤ k) := by show _ ≤ _; have := hE.out.2.1; omega
                have hall : Hid (∀ f ∈ out ++ [FieldD.mk ln p], f.name.length ≤ 900 ∧ f.value.length ≤ 900) := by
                  intro f hf
                  rcases List.mem_append.1 hf with h | h
                  · exact hE.out.2.2.2 f h
                  · simp only [List.mem_cons, List.not_mem_nil, or_false] at h
                    subst h
                    exact ⟨hln, hpl⟩
                have Hown := Lib.hid hown
                have h63 : m + 1 ≤ maxLen := by unfold maxLen; omega
                have h47 : (m + 1) * 32 ≤ 140737488355328 := by omega
                have hone : ∀ u ∈ [str ln, str p], u.oneCell' = true := by intro u hu; simp at hu; rcases hu with rfl | rfl <;> rfl
                have Hone := Lib.hid hone
                have hr2l : r2.length ≤ 900 ∧ r2.length < rest.length := by omega
                obtain ⟨hr2a, hr2b⟩ := hr2l
                have d20 : decide ((20 : Int) < (m : Int) + 1) = decide (20 < m + 1) := by rw [Bool.eq_iff_iff, decide_eq_true_eq, decide_eq_true_eq]; omega
                clear hE hown hone
                go_wp2_with fail
                refine (Hcd.out _).mono ?_
                rintro e w7 ⟨rfl, q7, rfl⟩
                go_wp2_with fail
                refine (Hcg.out _).mono ?_
                rintro e w7 ⟨rfl, q8, rfl⟩
                have hbw := belN hbw (q7 + q8)
                go_wp2_with fail
                refine (Htg.out _).mono ?_
                rintro e w7 ⟨rfl, hb7⟩
                have hbw := hbw.trans (hb7.mono hbw.size)
                clear hb7
                go_wp2_with fail
                refine (Hlow.out _).mono ?_
                rintro e w8 ⟨rfl, hb8⟩
                have hbw := hbw.trans (hb8.mono hbw.size)
                have hbel8 := hbel.trans (hbw.mono hbel.size)
                have hown8 := own_below Hown.out hbw
                have hsz8 := hbel8.size
                clear hb8
                go_wp2_with (at_builtin; refine wpList_app rfl _ _ 116 rfl w.heap.size 186 i0 (.agg #[.string ⟨#[]⟩, .string ⟨#[]⟩]) 2 32 Tryz.underlying116 hi0 hz0 hz1 hz2 rfl (by decide) S m cS (fieldC out) rfl (hown8.alloc _) _ _ 1 1 [str ln, str p] rfl (Sl.row _ _ 2 1 _ rfl) Hone.out h63 h47 ?c2 ?_)
                case c2 => simp; omega
                intro S' c' w9 hown9 hb9 _
                have hc' := own_cap hown9
                have hbel9 := (hbel8.alloc hsz8 (.cells #[str ln, str p] 186)).trans hb9
                rw [show fieldC out ++ [str ln, str p] = fieldC (out ++ [⟨ln, p⟩]) from by rw [fieldC_app]; rfl] at hown9
                have Hown9 := Lib.hid hown9
                clear hown8 hown9 hb9
                by_cases h20 : 20 < m + 1
                · have d21 : decide (20 < m + 1) = true := by simpa using h20
                  have hr1 : Hid (r = ([], [], 2)) := by show r = _; rw [Hr.out, hR2.out, if_pos h20]; rfl
                  go_wp2_with fail
                  go_ret3
                  rw [hr1.out]
                  exact ParamsRes.fail 2 hbel9
                · have d21 : decide (20 < m + 1) = false := by simpa using h20
                  have hR3 : Hid (loopP k r2 more2 (out ++ [⟨ln, p⟩]) = R) := by show _ = R; rw [hR2.out, if_neg h20]
                  go_wp2_with fail
                  exact ⟨⟨k, r2, more2, _, S', m + 1, c', rfl, rfl, rfl, rfl, ⟨hR3.out, hk2.out, hml.out, hall.out⟩, hr2a, by omega, hc', Hown9.out, hbel9⟩, by rw [strLn_str, strLn_str]; exact hr2b⟩
              · have hr1 : Hid (r = ([], [], 1)) := by show r = _; rw [Hr.out, ← hE.out.1, hlaw, if_pos htg0]; rfl
                have htb : (tg == []) = false := by simpa using htg0
                clear hE hlaw hown
                go_wp2_with fail
                refine (Hcd.out _).mono ?_
                rintro e w7 ⟨rfl, q7, rfl⟩
                go_wp2_with fail
                refine (Hcg.out _).mono ?_
                rintro e w7 ⟨rfl, q8, rfl⟩
                have hbw := belN hbw (q7 + q8)
                go_wp2_with fail
                refine (Htg.out _).mono ?_
                rintro e w8 ⟨rfl, hb8⟩
                have hbw := hbw.trans (hb8.mono hbw.size)
                go_wp2_with fail
                go_ret3
                rw [hr1.out]
                exact ParamsRes.fail 1 (hbel.trans (hbw.mono hbel.size))
          case false =>
            have hcd := fun W => Cut_one v 59 W (by unfold maxLen; omega)
            have hcdl := cut_lenF v 59
            generalize hcde : Lib.cut v [59] = y at hcd hcdl
            obtain ⟨p0, r2, more2⟩ := y
            simp only at hcd hcdl
            have Hcd := Lib.hid hcd
            have htr := fun W => TrimRight_any p0 [32] W (by unfold maxLen; omega) (by decide) (by decide)
            have htrl := trimR_len p0 [32]
            generalize htre : Lib.trimRightS p0 [32] = p at htr htrl
            have Htr2 := Lib.hid htr
            have hlaw := lt p0 p r2 more2 rfl hcde htre
            have htk2 := fun W => Token_any p W (by unfold maxLen; omega)
            have hpl : p.length ≤ 900 := by omega
            clear hcd htr hcde htre lq lt
            cases htp : tokB p
            case false =>
              rw [htp] at htk2
              have Htk2 := Lib.hid htk2
              have hr1 : Hid (r = ([], [], 1)) := by show r = _; rw [Hr.out, ← hE.out.1, hlaw, if_pos htp]; rfl
              clear hE hlaw hown htk2 htp
              go_wp2_with fail
              refine (Hcd.out _).mono ?_
              rintro e w7 ⟨rfl, q7, rfl⟩
              have hbw := belN hbw q7
              go_wp2_with fail
              refine (Htr2.out _).mono ?_
              rintro e w8 ⟨rfl, hb8⟩
              have hbw := hbw.trans (hb8.mono hbw.size)
              go_wp2_with fail
              refine (Htk2.out _).mono ?_
              rintro e w9 ⟨rfl, hb9⟩
              have hbw := hbw.trans (hb9.mono hbw.size)
              go_wp2_with fail
              go_ret3
              rw [hr1.out]
              exact ParamsRes.fail 1 (hbel.trans (hbw.mono hbel.size))
            case true =>
              rw [htp] at htk2
              have Htk2 := Lib.hid htk2
              rw [if_neg (by rw [htp]; simp)] at hlaw
              have hR2 : Hid (R = if 20 < m + 1 then ([], 2) else loopP k r2 more2 (out ++ [⟨ln, p⟩])) := by
                show R = _
                rw [← hE.out.1, hlaw]
                simp only [List.length_append, List.length_cons, List.length_nil, hE.out.2.2.1, Nat.zero_add]
              clear hlaw htk2 htp
              have hml : Hid ((out ++ [FieldD.mk ln p]).length = m + 1) := by show _ = _; simp [hE.out.2.2.1]
              have hk2 : Hid (r2.length + 2 ≤ k) := by show _ ≤ _; have := hE.out.2.1; omega
              have hall : Hid (∀ f ∈ out ++ [FieldD.mk ln p], f.name.length ≤ 900 ∧ f.value.length ≤ 900) := by
                intro f hf
                rcases List.mem_append.1 hf with h | h
                · exact hE.out.2.2.2 f h
                · simp only [List.mem_cons, List.not_mem_nil, or_false] at h
                  subst h
                  exact ⟨hln, hpl⟩
              have Hown := Lib.hid hown
              have h63 : m + 1 ≤ maxLen := by unfold maxLen; omega
              have h47 : (m + 1) * 32 ≤ 140737488355328 := by omega
              have hone : ∀ u ∈ [str ln, str p], u.oneCell' = true := by intro u hu; simp at hu; rcases hu with rfl | rfl <;> rfl
              have Hone := Lib.hid hone
              have hr2l : r2.length ≤ 900 ∧ r2.length < rest.length := by omega
              obtain ⟨hr2a, hr2b⟩ := hr2l
              have d20 : decide ((20 : Int) < (m : Int) + 1) = decide (20 < m + 1) := by rw [Bool.eq_iff_iff, decide_eq_true_eq, decide_eq_true_eq]; omega
              clear hE hown hone
              go_wp2_with fail
              refine (Hcd.out _).mono ?_
              rintro e w7 ⟨rfl, q7, rfl⟩
              have hbw := belN hbw q7
              go_wp2_with fail
              refine (Htr2.out _).mono ?_
              rintro e w7 ⟨rfl, hb7⟩
              have hbw := hbw.trans (hb7.mono hbw.size)
              clear hb7
              go_wp2_with fail
              refine (Htk2.out _).mono ?_
              rintro e w7 ⟨rfl, hb7⟩
              have hbw := hbw.trans (hb7.mono hbw.size)
              clear hb7
              go_wp2_with fail
              refine (Hlow.out _).mono ?_
              rintro e w8 ⟨rfl, hb8⟩
              have hbw := hbw.trans (hb8.mono hbw.size)
              have hbel8 := hbel.trans (hbw.mono hbel.size)
              have hown8 := own_below Hown.out hbw
              have hsz8 := hbel8.size
              clear hb8
              go_wp2_with (at_builtin; refine wpList_app rfl _ _ 116 rfl w.heap.size 186 i0 (.agg #[.string ⟨#[]⟩, .string ⟨#[]⟩]) 2 32 Tryz.underlying116 hi0 hz0 hz1 hz2 rfl (by decide) S m cS (fieldC out) rfl (hown8.alloc _) _ _ 1 1 [str ln, str p] rfl (Sl.row _ _ 2 1 _ rfl) Hone.out h63 h47 ?c2 ?_)
              case c2 => simp; omega
              intro S' c' w9 hown9 hb9 _
              have hc' := own_cap hown9
              have hbel9 := (hbel8.alloc hsz8 (.cells #[str ln, str p] 186)).trans hb9
              rw [show fieldC out ++ [str ln, str p] = fieldC (out ++ [⟨ln, p⟩]) from by rw [fieldC_app]; rfl] at hown9
              have Hown9 := Lib.hid hown9
              clear hown8 hown9 hb9
              by_cases h20 : 20 < m + 1
              · have d21 : decide (20 < m + 1) = true := by simpa using h20
                have hr1 : Hid (r = ([], [], 2)) := by show r = _; rw [Hr.out, hR2.out, if_pos h20]; rfl
                go_wp2_with fail
                go_ret3
                rw [hr1.out]
                exact ParamsRes.fail 2 hbel9
              · have d21 : decide (20 < m + 1) = false := by simpa using h20
                have hR3 : Hid (loopP k r2 more2 (out ++ [⟨ln, p⟩]) = R) := by show _ = R; rw [hR2.out, if_neg h20]
                go_wp2_with fail
                exact ⟨⟨k, r2, more2, _, S', m + 1, c', rfl, rfl, rfl, rfl, ⟨hR3.out, hk2.out, hml.out, hall.out⟩, hr2a, by omega, hc', Hown9.out, hbel9⟩, by rw [strLn_str, strLn_str]; exact hr2b⟩
        · have hRv : R = ([], 1) := by
            rw [← hE.out.1]
            exact loopP_bad hc0 hnd (by
              cases ok
              · simp
              · have : tokB name = false := by
                  cases h : tokB name
                  · rfl
                  · exact absurd ⟨rfl, h⟩ hok
                simp [this])
          have hr1 : Hid (r = ([], [], 1)) := by show r = _; rw [Hr.out, hRv]; rfl
          clear hE hRv hcs hnd hc0 hown
          cases ok
          case false =>
            clear hTk hok
            go_wp2_with fail
            refine (HTL.out _).mono ?_
            rintro e w1 ⟨rfl, hb1⟩
            go_wp2_with fail
            refine (Hcut.out _).mono ?_
            rintro e w2 ⟨rfl, q, rfl⟩
            go_wp2_with fail
            refine (HTn.out _).mono ?_
            rintro e w3 ⟨rfl, hbx⟩
            have hbw := hb3 w1 q w3 hb1 hbx
            go_wp2_with fail
            go_ret3
            rw [hr1.out]
            exact ParamsRes.fail 1 (hbel.trans (hbw.mono hbel.size))
          case true =>
            have htk : tokB name = false := by
              cases h : tokB name
              · rfl
              · exact absurd ⟨rfl, h⟩ hok
            rw [htk] at hTk
            have HTk := Lib.hid hTk
            clear hTk hok htk
            go_wp2_with fail
            refine (HTL.out _).mono ?_
            rintro e w1 ⟨rfl, hb1⟩
            go_wp2_with fail
            refine (Hcut.out _).mono ?_
            rintro e w2 ⟨rfl, q, rfl⟩
            go_wp2_with fail
            refine (HTn.out _).mono ?_
            rintro e w3 ⟨rfl, hbx⟩
            have hbw := hb3 w1 q w3 hb1 hbx
            go_wp2_with fail
            refine (HTk.out _).mono ?_
            rintro e w4 ⟨rfl, hb4⟩
            have hbw := hbw.trans (hb4.mono hbw.size)
            go_wp2_with fail
            go_ret3
            rw [hr1.out]
            exact ParamsRes.fail 1 (hbel.trans (hbw.mono hbel.size))
end Go.Proofs.YtlbdnohnngkapaaGreatDoor

namespace Go.Proofs.YtlbdnohnngkapaaGreatDoor
open Go.RowKit

/-! ### header.Get, of ASCII names -/
def asciiL (l : List UInt8) : Prop := l.length ≤ 1000 ∧ ∀ b ∈ l, b.toNat < 128
theorem EqualFold_ascii (a b : List UInt8) (w : World) (ha : asciiL a) (hb : asciiL b) :
    Calls Tryz.prog 174 #[str a, str b] w fun e w' => e = .returned (.bool (Lib.equalFold a b)) ∧ w' = w :=
  Go.Proofs.Tryz.strings_EqualFold ⟨a.toArray⟩ ⟨b.toArray⟩ w (by have := ha.1; simp [ByteArray.size]; omega) (fun j x hx => ha.2 x (List.mem_of_getElem? hx)) (fun j x hx => hb.2 x (List.mem_of_getElem? hx))
theorem tok_asciiL {l : List UInt8} (h : tokB l = true) : asciiL l := ⟨by have := (tok_mem h).2.1; omega, tok_ascii l h⟩
theorem chk_asciiL {l : List FieldD} (h : chkF l = 0) : ∀ f ∈ l, asciiL f.name := fun f hf => tok_asciiL (ok_field ((chk_len h).2 f hf)).1
def GetRel (l : List FieldD) (name R : List UInt8) (n : Nat) (w : World) (iv : Value) (wr : World) : Prop :=
  ∃ i : Nat, iv = .int .i64 (i : Nat) ∧ i ≤ n ∧ Hid (getF (l.drop i) name = R) ∧ Below w.heap.size w wr
theorem getF_cons (f : FieldD) (l : List FieldD) (name : List UInt8) : getF (f :: l) name = if Lib.equalFold f.name name then f.value else getF l name := rfl
set_option maxRecDepth 100000 in
set_option maxHeartbeats 1000000 in
theorem Get_ascii (l : List FieldD) (name : List UInt8) (A : Option Addr) (n c B : Nat) (w : World) (h : Sl w B 2 A n (fieldC l)) (hB : B ≤ w.heap.size) (hn : n ≤ maxLen) (ha : ∀ f ∈ l, asciiL f.name) (hna : asciiL name) :
    Calls Tryz.prog 160 #[.slice A n c, str name] w fun e w' => e = .returned (str (getF l name)) ∧ Below w.heap.size w w' := by
  have hl : l.length = n := by have := h.1; rw [fieldC_len] at this; omega
  obtain ⟨R, hR⟩ : ∃ R, getF l name = R := ⟨_, rfl⟩
  rw [hR]
  unfold maxLen at hn
  have HR := Lib.hid hR
  have Hl := Lib.hid hl
  have Ha := Lib.hid ha
  have Hna := Lib.hid hna
  have HS := Lib.hid h
  clear hR hl ha hna h
  go_enter Tryz.func160, Tryz.ntmps160
  go_wp2_with fail
  go_loopw [9] (GetRel l name R n w) (fun iv _ => n - (intOf iv).toNat)
  case atStart => exact ⟨0, rfl, Nat.zero_le _, HR.out, Below.refl _ _⟩
  case round =>
    clear HR
    obtain ⟨i, rfl, hi, hE, hbel⟩ := hrel
    by_cases hin : i < n
    · obtain ⟨b, off, x, rfl, hbB, hx, x0, x1⟩ := (HS.out.below (hbel.mono hB)).field i hin
      have hxa := Ha.out x (List.mem_of_mem_drop (i := i) (by rw [hx]; simp))
      have hef := fun W => EqualFold_ascii x.name name W hxa Hna.out
      have hE2 : Hid (R = if Lib.equalFold x.name name then x.value else getF (l.drop (i + 1)) name) := by show R = _; rw [← hE.out, hx, getF_cons]
      generalize Lib.equalFold x.name name = r at hef hE2
      have Hef := Lib.hid hef
      have hbA := hbel.alloc hbel.size (.cells #[str x.name, str x.value] 186)
      have y1 := (box2_new wr 186 (str x.name) (str x.value)).2
      clear hx hE hef hxa
      go_wp2_with fail
      refine (Hef.out _).mono ?_
      rintro e w1 ⟨rfl, rfl⟩
      clear x0 x1
      cases r
      · have hE3 : Hid (getF (l.drop (i + 1)) name = R) := by show _ = R; rw [hE2.out]; simp
        clear hE2
        go_wp2_with fail
        exact ⟨⟨i + 1, by go_num, by omega, hE3, hbA⟩, by simp [intOf]; omega⟩
      · have hE3 : Hid (x.value = R) := by show _ = R; rw [hE2.out]; simp
        clear hE2
        go_wp2_with fail
        go_ret
        exact ⟨by rw [← hE3.out]; rfl, hbA⟩
    · have hE3 : Hid ([] = R) := by show [] = R; rw [← hE.out, List.drop_of_length_le (by rw [Hl.out]; omega)]; rfl
      clear hE
      go_wp2_with fail
      go_ret
      exact ⟨by rw [← hE3.out]; rfl, hbel⟩
end Go.Proofs.YtlbdnohnngkapaaGreatDoor

namespace Go.Proofs.YtlbdnohnngkapaaGreatDoor
open Go.RowKit

theorem low_eq : ∀ x : Fin 256, Lib.lowerB (UInt8.ofNat x.val) = lowB (UInt8.ofNat x.val) := by decide +kernel
theorem lowerA_lowL (l : List UInt8) : Lib.toLowerA l = lowL l := by
  unfold Lib.toLowerA lowL
  refine List.map_congr_left fun b _ => ?_
  have := low_eq ⟨b.toNat, b.toNat_lt⟩
  rw [ofNat_toNat8] at this
  exact this
theorem ToLower_any (l : List UInt8) (w : World) (hl : l.length ≤ 1000000) (ha : ∀ b ∈ l, b.toNat < 128) : Calls Tryz.prog 97 #[str l] w fun e w' => e = .returned (str (lowL l)) ∧ Below w.heap.size w w' := by
  refine (Go.Proofs.Tryz.strings_ToLower_ascii ⟨l.toArray⟩ w (by simp [ByteArray.size]; omega) (fun j b hb => ha b (List.mem_of_getElem? hb))).mono ?_
  rintro e w' ⟨rfl, hb⟩
  refine ⟨?_, hb⟩
  rw [lowerA_lowL]
  rfl
/-- What body leaves. -/
def BodyResM (r : Int × List UInt8 × Nat) (w : World) (e : Ending) (w' : World) : Prop :=
  ∃ A c, e = .returned (.tuple #[.int .i64 r.1, .slice A r.2.1.length c, .int .i64 (r.2.2 : Nat)]) ∧ SlS (fun b => w.heap.size ≤ b ∧ b < w'.heap.size) w' 1 A r.2.1.length (Lib.byteCells r.2.1) ∧ r.2.1.length ≤ c ∧ c ≤ maxLen ∧ Below w.heap.size w w'
theorem BodyResM.fail {w w' : World} (k : Nat) (h : Below w.heap.size w w') : BodyResM (0, [], k) w (.returned (.tuple #[.int .i64 0, .slice none 0 0, .int .i64 (k : Int)])) w' :=
  ⟨none, 0, rfl, ⟨rfl, fun h => absurd h (by simp)⟩, Nat.le_refl _, Nat.zero_le _, h⟩
theorem bodyM_plain {how b : List UInt8} (h : lowL how = [] ∨ lowL how = [55, 98, 105, 116] ∨ lowL how = [56, 98, 105, 116] ∨ lowL how = [98, 105, 110, 97, 114, 121]) : bodyM how b = if 4000 < b.length then (0, [], 2) else (0, b, 0) := by
  unfold bodyM
  rw [if_pos h]
set_option maxRecDepth 100000 in
set_option maxHeartbeats 4000000 in
theorem body_any (how b : List UInt8) (A : Option Addr) (n c : Nat) (w : World) (hb : By w w.heap.size A n b) (_hn : n ≤ c) (hm : n ≤ 40000) (hh : how.length ≤ 1000) (ha : ∀ x ∈ how, x.toNat < 128) :
    Calls Tryz.prog 163 #[str how, .slice A n c] w (BodyResM (bodyM how b) w) := by
  have hl := hb.len
  have htl := fun W => ToLower_any how W (by omega) ha
  have hpl := @bodyM_plain how b
  have hbm : bodyM how b = if lowL how = [] ∨ lowL how = [55, 98, 105, 116] ∨ lowL how = [56, 98, 105, 116] ∨ lowL how = [98, 105, 110, 97, 114, 121] then (if 4000 < b.length then (0, [], 2) else (0, b, 0))
    else if lowL how = [98, 97, 115, 101, 54, 52] then (1, readB b) else if lowL how = [113, 117, 111, 116, 101, 100, 45, 112, 114, 105, 110, 116, 97, 98, 108, 101] then (2, readQ b) else (0, [], 4) := rfl
  obtain ⟨R, hR⟩ : ∃ R, R = bodyM how b := ⟨_, rfl⟩
  rw [← hR] at hpl hbm ⊢
  generalize lowL how = L at htl hpl hbm
  have Htl := Lib.hid htl
  have HB := Lib.hid hb
  have Hl := Lib.hid hl
  have Hpl := Lib.hid hpl
  have Hbm := Lib.hid hbm
  clear hR htl hb hl hpl hbm
  by_cases k0 : L = []
  · have d0 : (L == []) = true := by rw [k0]; rfl
    have dz : L.isEmpty = true := by rw [k0]; rfl
    have hR := Hpl.out (.inl k0)
    rw [Hl.out] at hR
    have Hk := Lib.hid k0
    clear k0 
    by_cases h4 : 4000 < n
    · have d9 : decide ((4000 : Int) < n) = true := by simp; omega
      rw [if_pos h4] at hR
      have HR := Lib.hid hR
      clear hR
      go_enter Tryz.func163, Tryz.ntmps163
      go_wp2_with fail
      refine (Htl.out _).mono ?_
      rintro e w1 ⟨rfl, hb1⟩
      go_wp2_with fail
      go_ret3
      rw [HR.out]
      exact BodyResM.fail 2 hb1
    · have d9 : decide ((4000 : Int) < n) = false := by simp; omega
      rw [if_neg h4] at hR
      have HR := Lib.hid hR
      clear hR
      go_enter Tryz.func163, Tryz.ntmps163
      go_wp2_with fail
      refine (Htl.out _).mono ?_
      rintro e w1 ⟨rfl, hb1⟩
      have hcl := Clone_bytes b A n c w.heap.size w1 (HB.out.below hb1) (by omega)
      have Hcl := Lib.hid hcl
      clear hcl
      go_wp2_with fail
      refine Hcl.out.mono ?_
      rintro e w2 ⟨A5, c5, rfl, hs5, hc5, hm5, hb5⟩
      go_wp2_with fail
      go_ret3
      rw [HR.out]
      exact ⟨A5, c5, rfl, SlS.change hs5 (fun x hx => ⟨Nat.le_trans hb1.size hx.1, hx.2⟩) (fun _ _ => rfl), hc5, hm5, hb1.trans (hb5.mono hb1.size)⟩
  · have d0 : (L == []) = false := beq_eq_false_iff_ne.2 k0
    have dz : L.isEmpty = false := by cases L with | nil => exact absurd rfl k0 | cons _ _ => rfl
    by_cases k1 : L = [55, 98, 105, 116]
    · have d1 : (L == [55, 98, 105, 116]) = true := by rw [k1]; rfl
      have hR := Hpl.out (.inr (.inl k1))
      rw [Hl.out] at hR
      have Hk := Lib.hid k1
      clear k1 k0
      by_cases h4 : 4000 < n
      · have d9 : decide ((4000 : Int) < n) = true := by simp; omega
        rw [if_pos h4] at hR
        have HR := Lib.hid hR
        clear hR
        go_enter Tryz.func163, Tryz.ntmps163
        go_wp2_with fail
        refine (Htl.out _).mono ?_
        rintro e w1 ⟨rfl, hb1⟩
        go_wp2_with fail
        go_ret3
        rw [HR.out]
        exact BodyResM.fail 2 hb1
      · have d9 : decide ((4000 : Int) < n) = false := by simp; omega
        rw [if_neg h4] at hR
        have HR := Lib.hid hR
        clear hR
        go_enter Tryz.func163, Tryz.ntmps163
        go_wp2_with fail
        refine (Htl.out _).mono ?_
        rintro e w1 ⟨rfl, hb1⟩
        have hcl := Clone_bytes b A n c w.heap.size w1 (HB.out.below hb1) (by omega)
        have Hcl := Lib.hid hcl
        clear hcl
        go_wp2_with fail
        refine Hcl.out.mono ?_
        rintro e w2 ⟨A5, c5, rfl, hs5, hc5, hm5, hb5⟩
        go_wp2_with fail
        go_ret3
        rw [HR.out]
        exact ⟨A5, c5, rfl, SlS.change hs5 (fun x hx => ⟨Nat.le_trans hb1.size hx.1, hx.2⟩) (fun _ _ => rfl), hc5, hm5, hb1.trans (hb5.mono hb1.size)⟩
    · have d1 : (L == [55, 98, 105, 116]) = false := beq_eq_false_iff_ne.2 k1
      by_cases k2 : L = [56, 98, 105, 116]
      · have d2 : (L == [56, 98, 105, 116]) = true := by rw [k2]; rfl
        have hR := Hpl.out (.inr (.inr (.inl k2)))
        rw [Hl.out] at hR
        have Hk := Lib.hid k2
        clear k2 k0 k1
        by_cases h4 : 4000 < n
        · have d9 : decide ((4000 : Int) < n) = true := by simp; omega
          rw [if_pos h4] at hR
          have HR := Lib.hid hR
          clear hR
          go_enter Tryz.func163, Tryz.ntmps163
          go_wp2_with fail
          refine (Htl.out _).mono ?_
          rintro e w1 ⟨rfl, hb1⟩
          go_wp2_with fail
          go_ret3
          rw [HR.out]
          exact BodyResM.fail 2 hb1
        · have d9 : decide ((4000 : Int) < n) = false := by simp; omega
          rw [if_neg h4] at hR
          have HR := Lib.hid hR
          clear hR
          go_enter Tryz.func163, Tryz.ntmps163
          go_wp2_with fail
          refine (Htl.out _).mono ?_
          rintro e w1 ⟨rfl, hb1⟩
          have hcl := Clone_bytes b A n c w.heap.size w1 (HB.out.below hb1) (by omega)
          have Hcl := Lib.hid hcl
          clear hcl
          go_wp2_with fail
          refine Hcl.out.mono ?_
          rintro e w2 ⟨A5, c5, rfl, hs5, hc5, hm5, hb5⟩
          go_wp2_with fail
          go_ret3
          rw [HR.out]
          exact ⟨A5, c5, rfl, SlS.change hs5 (fun x hx => ⟨Nat.le_trans hb1.size hx.1, hx.2⟩) (fun _ _ => rfl), hc5, hm5, hb1.trans (hb5.mono hb1.size)⟩
      · have d2 : (L == [56, 98, 105, 116]) = false := beq_eq_false_iff_ne.2 k2
        by_cases k3 : L = [98, 105, 110, 97, 114, 121]
        · have d3 : (L == [98, 105, 110, 97, 114, 121]) = true := by rw [k3]; rfl
          have hR := Hpl.out (.inr (.inr (.inr k3)))
          rw [Hl.out] at hR
          have Hk := Lib.hid k3
          clear k3 k0 k1 k2
          by_cases h4 : 4000 < n
          · have d9 : decide ((4000 : Int) < n) = true := by simp; omega
            rw [if_pos h4] at hR
            have HR := Lib.hid hR
            clear hR
            go_enter Tryz.func163, Tryz.ntmps163
            go_wp2_with fail
            refine (Htl.out _).mono ?_
            rintro e w1 ⟨rfl, hb1⟩
            go_wp2_with fail
            go_ret3
            rw [HR.out]
            exact BodyResM.fail 2 hb1
          · have d9 : decide ((4000 : Int) < n) = false := by simp; omega
            rw [if_neg h4] at hR
            have HR := Lib.hid hR
            clear hR
            go_enter Tryz.func163, Tryz.ntmps163
            go_wp2_with fail
            refine (Htl.out _).mono ?_
            rintro e w1 ⟨rfl, hb1⟩
            have hcl := Clone_bytes b A n c w.heap.size w1 (HB.out.below hb1) (by omega)
            have Hcl := Lib.hid hcl
            clear hcl
            go_wp2_with fail
            refine Hcl.out.mono ?_
            rintro e w2 ⟨A5, c5, rfl, hs5, hc5, hm5, hb5⟩
            go_wp2_with fail
            go_ret3
            rw [HR.out]
            exact ⟨A5, c5, rfl, SlS.change hs5 (fun x hx => ⟨Nat.le_trans hb1.size hx.1, hx.2⟩) (fun _ _ => rfl), hc5, hm5, hb1.trans (hb5.mono hb1.size)⟩
        · have d3 : (L == [98, 105, 110, 97, 114, 121]) = false := beq_eq_false_iff_ne.2 k3
          by_cases k4 : L = [98, 97, 115, 101, 54, 52]
          · have d4 : (L == [98, 97, 115, 101, 54, 52]) = true := by rw [k4]; rfl
            have hR : R = (1, readB b) := by
              rw [Hbm.out, if_neg (by rintro (h | h | h | h); exact k0 h; exact k1 h; exact k2 h; exact k3 h), if_pos k4]
            have HR := Lib.hid hR
            have Hk := Lib.hid k4
            have hts := fun W (hW : Below w.heap.size w W) => run_toStr (P := Tryz.prog) W 22 9 5 _ A n c b (HB.out.below hW) Tryz.underlying22 Tryz.underlying5 Tryz.underlying9
            have hrd := fun W => Read_anyF b W (by rw [Hl.out]; omega)
            have Hrd := Lib.hid hrd
            have Hts := Lib.hid hts
            clear hR k4 k0 k1 k2 k3 hts hrd
            go_enter Tryz.func163, Tryz.ntmps163
            go_wp2_with fail
            refine (Htl.out _).mono ?_
            rintro e w1 ⟨rfl, hb1⟩
            have hts1 := Hts.out w1 hb1
            go_wp2_with fail
            refine (Hrd.out _).mono ?_
            rintro e w2 ⟨A5, c5, rfl, hs5, hc5, hm5, hb5⟩
            go_wp2_with fail
            go_ret3
            rw [HR.out]
            exact ⟨A5, c5, rfl, SlS.change hs5 (fun x hx => ⟨Nat.le_trans hb1.size hx.1, hx.2⟩) (fun _ _ => rfl), hc5, hm5, hb1.trans (hb5.mono hb1.size)⟩
          · have d4 : (L == [98, 97, 115, 101, 54, 52]) = false := beq_eq_false_iff_ne.2 k4
            by_cases k5 : L = [113, 117, 111, 116, 101, 100, 45, 112, 114, 105, 110, 116, 97, 98, 108, 101]
            · have d5 : (L == [113, 117, 111, 116, 101, 100, 45, 112, 114, 105, 110, 116, 97, 98, 108, 101]) = true := by rw [k5]; rfl
              have hR : R = (2, readQ b) := by
                rw [Hbm.out, if_neg (by rintro (h | h | h | h); exact k0 h; exact k1 h; exact k2 h; exact k3 h), if_neg k4, if_pos k5]
              have HR := Lib.hid hR
              have Hk := Lib.hid k5
              have hts := fun W (hW : Below w.heap.size w W) => run_toStr (P := Tryz.prog) W 22 9 5 _ A n c b (HB.out.below hW) Tryz.underlying22 Tryz.underlying5 Tryz.underlying9
              have hrd := fun W => quoteRead_anyF b W (by rw [Hl.out]; omega)
              have Hrd := Lib.hid hrd
              have Hts := Lib.hid hts
              clear hR k5 k0 k1 k2 k3 k4 hts hrd
              go_enter Tryz.func163, Tryz.ntmps163
              go_wp2_with fail
              refine (Htl.out _).mono ?_
              rintro e w1 ⟨rfl, hb1⟩
              have hts1 := Hts.out w1 hb1
              go_wp2_with fail
              refine (Hrd.out _).mono ?_
              rintro e w2 ⟨A5, c5, rfl, hs5, hc5, hm5, hb5⟩
              go_wp2_with fail
              go_ret3
              rw [HR.out]
              exact ⟨A5, c5, rfl, SlS.change hs5 (fun x hx => ⟨Nat.le_trans hb1.size hx.1, hx.2⟩) (fun _ _ => rfl), hc5, hm5, hb1.trans (hb5.mono hb1.size)⟩
            · have d5 : (L == [113, 117, 111, 116, 101, 100, 45, 112, 114, 105, 110, 116, 97, 98, 108, 101]) = false := beq_eq_false_iff_ne.2 k5
              have hR : R = (0, [], 4) := by
                rw [Hbm.out, if_neg (by rintro (h | h | h | h); exact k0 h; exact k1 h; exact k2 h; exact k3 h), if_neg k4, if_neg k5]
              have HR := Lib.hid hR
              clear hR k0 k1 k2 k3 k4 k5
              go_enter Tryz.func163, Tryz.ntmps163
              go_wp2_with fail
              refine (Htl.out _).mono ?_
              rintro e w1 ⟨rfl, hb1⟩
              go_wp2_with fail
              go_ret3
              rw [HR.out]
              exact BodyResM.fail 4 hb1
end Go.Proofs.YtlbdnohnngkapaaGreatDoor

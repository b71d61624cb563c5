import Derived.Test.YtdhmmepcnladcaaDoorQuote
import Derived.Test.YtdhmmepcnladcaaDoorQuoteS
import Derived.Test.YtdhmmepcnladcaaDoorTrim
import Derived.Test.YtdhmmepcnladcaaDoorRead
import Derived.Deep.RegionLaw
import Derived.Deep.AppendLies

namespace Go.Proofs.YtdhmmepcnladcaaDoor
open Go.RowKit
attribute [local go_sem high] cut_bytes upto_bytes

set_option maxHeartbeats 400000 in
theorem quoteWrite_ok (A : Option Addr) (n c : Nat) (l : List UInt8) (w : World) (hb : By w w.heap.size A n l) (hn : n ≤ c) (hc : n ≤ 4000) :
    Calls Tryd.prog 70 #[.slice A n c] w fun e w' => e = .returned (.tuple #[str (encQ 0 l), .int .i64 0]) ∧ Below w.heap.size w w' := by
  go_enter Tryd.func70, Tryd.ntmps70
  go_wp2_with fail
  refine (QText_any A n c l w hb hn hc).mono ?_
  rintro e w1 ⟨rfl, hb1⟩
  go_wp2_with fail
  go_ret2
  exact ⟨rfl, hb1⟩
set_option maxHeartbeats 400000 in
theorem quoteWrite_many (A : Option Addr) (n c : Nat) (w : World) (hc : ¬ n ≤ 4000) (hm : n ≤ maxLen) :
    Calls Tryd.prog 70 #[.slice A n c] w fun e w' => e = .returned (.tuple #[str [], .int .i64 2]) ∧ w = w' := by
  unfold maxLen at hm
  go_enter Tryd.func70, Tryd.ntmps70
  go_wp2_with fail
  go_ret2
  exact ⟨rfl, rfl⟩

theorem IndexByte_digits (x : Nat) (hx : x < 256) (w : World) :
    Calls Tryd.prog 93 #[.string ⟨#[48, 49, 50, 51, 52, 53, 54, 55, 56, 57, 65, 66, 67, 68, 69, 70]⟩, .int .u8 (x : Int)] w fun e w' => e = .returned (.int .i64 (idxI digits x)) ∧ w' = w :=
  (IndexByte_any digits x hx w).mono fun e w' h => ⟨h.1, h.2.symm⟩
set_option maxHeartbeats 400000 in
theorem hex_any (x : Nat) (hx : x < 256) (w : World) :
    Calls Tryd.prog 152 #[.int .u8 (x : Int)] w fun e w' => e = .returned (.int .i64 (hexQ x)) ∧ w' = w := by
  by_cases h : 97 ≤ x ∧ x ≤ 102
  · obtain ⟨h1, h2⟩ := h
    have e : hexQ x = idxI digits (x - 32) := by unfold hexQ; rw [if_pos (by simp; omega)]
    rw [e]
    clear e
    go_enter Tryd.func152, Tryd.ntmps152
    go_wp2_with fail
    rw [show (x : Int) - 32 = ((x - 32 : Nat) : Int) from by omega]
    refine (IndexByte_digits (x - 32) (by omega) _).mono ?_
    rintro e w1 ⟨rfl, rfl⟩
    go_wp2_with fail
    go_ret
    exact ⟨rfl, rfl⟩
  · have e : hexQ x = idxI digits x := by unfold hexQ; rw [if_neg (by simp; omega)]
    rw [e]
    clear e
    by_cases h1 : 97 ≤ x
    · have h2 : 102 < x := by omega
      clear h
      go_enter Tryd.func152, Tryd.ntmps152
      go_wp2_with fail
      refine (IndexByte_digits x hx _).mono ?_
      rintro e w1 ⟨rfl, rfl⟩
      go_wp2_with fail
      go_ret
      exact ⟨rfl, rfl⟩
    · have h2 : x < 97 := by omega
      clear h h1
      go_enter Tryd.func152, Tryd.ntmps152
      go_wp2_with fail
      refine (IndexByte_digits x hx _).mono ?_
      rintro e w1 ⟨rfl, rfl⟩
      go_wp2_with fail
      go_ret
      exact ⟨rfl, rfl⟩

def strLen : Value → Nat | .string s => s.size | _ => 0
theorem strLen_str (l : List UInt8) : strLen (str l) = l.length := by simp [strLen, str, ByteArray.size]

def QRel1 (r : List UInt8 × Nat) (w0 : World) (sv ov : Value) (wr : World) : Prop :=
  ∃ k s out O ol oc, sv = str s ∧ ov = .slice O ol oc ∧ Hid (linesQ k s out = r ∧ s.length ≤ k ∧ out.length = ol) ∧ s.length ≤ 16000 ∧ ol ≤ 4000 ∧ ol ≤ oc ∧
    wr.ownsRow w0.heap.size 5 1 (.slice O ol oc) ol (Lib.byteCells out) ∧ Below w0.heap.size w0 wr
def QRel2 (b : List UInt8) (m : Nat) (R : Option (List UInt8)) (w0 : World) (ov iv : Value) (wr : World) : Prop :=
  ∃ i out O ol oc, ov = .slice O ol oc ∧ iv = .int .i64 (i : Nat) ∧ i ≤ m ∧ Hid ((decQ (b.drop i)).map (out ++ ·) = R ∧ out.length = ol) ∧ ol ≤ 4000 + i ∧ ol ≤ oc ∧
    wr.ownsRow w0.heap.size 5 1 (.slice O ol oc) ol (Lib.byteCells out) ∧ Below w0.heap.size w0 wr

set_option maxRecDepth 100000 in
set_option maxHeartbeats 2000000 in
theorem quoteRead_any (s : List UInt8) (w : World) (hs : s.length ≤ 9223372036854775807) :
    Calls Tryd.prog 71 #[str s] w (BytesRes w (readQ s)) := by
  obtain ⟨j0, hj0, hjz0, hjz1, hjz2⟩ := info_parts infoByte
  by_cases h16 : 16000 < s.length
  · have hr : readQ s = ([], 2) := by unfold readQ; rw [if_pos h16]
    rw [hr]
    go_enter Tryd.func71, Tryd.ntmps71
    go_wp2_with fail
    go_ret2
    exact BytesRes.fail 2 (Below.refl _ _)
  · obtain ⟨r, hr⟩ : ∃ r, r = readQ s := ⟨_, rfl⟩
    have hr2 : Hid (linesQ s.length s [] = r) := by
      show _ = r
      rw [hr]; unfold readQ; rw [if_neg h16]
    rw [← hr]
    clear hr
    have hlen : s.length ≤ 16000 := by omega
    clear h16 hs
    go_enter Tryd.func71, Tryd.ntmps71
    go_wp2_with fail
    go_loopw [0, 4] (QRel1 r w) (fun sv _ _ => strLen sv)
    case atStart => exact ⟨_, s, [], none, 0, 0, rfl, rfl, ⟨hr2.out, Nat.le_refl _, rfl⟩, hlen, by omega, by omega, World.ownsRow_nil _ _ _ _, Below.refl _ _⟩
    case round =>
      obtain ⟨k, s, out, O, ol, oc, rfl, rfl, hE, hsl, hol, hoc, hown, hbel⟩ := hrel
      clear hr2 hlen
      by_cases hs0 : s = []
      · subst hs0
        have hr : Hid (r = (out, 0)) := by show r = _; rw [← hE.out.1, linesQ_end]
        have HO := Lib.hid hE.out.2.2
        clear hE
        go_wp2_with fail
        go_ret2
        rw [hr.out]
        refine ⟨O, oc, ?_, ?_, ?_, hbel⟩
        · show _ = Ending.returned (.tuple #[.slice O out.length oc, .int .i64 ((0 : Nat) : Int)])
          rw [HO.out]; rfl
        · show By _ _ _ out.length out
          rw [HO.out]; exact By.of_own hown
        · show out.length ≤ oc
          rw [HO.out]; exact hoc
      · have hs1 : (s == ([] : List UInt8)) = false := by simpa using hs0
        obtain ⟨k, rfl⟩ : ∃ k', k = k' + 1 := ⟨k - 1, by have := hE.out.2.1; have := List.length_pos_iff.2 hs0; omega⟩
        have hst := linesQ_step k s out hs0
        rw [hE.out.1] at hst
        have hcl := cut10_len s hs0
        have hcut := Cut_one s 10 wr (by unfold maxLen; omega)
        have hend : endQ s = if (Lib.cut s [10]).2.2 && !softQ (trimQ (Lib.cut s [10]).1) then [13, 10] else [] := rfl
        unfold behindQ at hst
        generalize endQ s = E at hst hend
        generalize Lib.cut s [10] = x at hst hcl hcut hend
        obtain ⟨line, rest, whole⟩ := x
        simp only at hst hcl hcut hend
        obtain ⟨hl1, hl2⟩ := hcl
        have HK := Lib.hid hE.out.2.1
        have HOl := Lib.hid hE.out.2.2
        have Hcut := Lib.hid hcut
        have htl := trimQ_len line
        have hsf := soft_pos (trimQ line)
        have hlm : line.length ≤ maxLen := by unfold maxLen; omega
        have htr := fun W => TrimRight_any line [32, 9, 13] W hlm (by decide) (by decide)
        rw [show Lib.trimRightS line [32, 9, 13] = trimQ line from rfl] at htr
        have hbq : bareQ (trimQ line) = if softQ (trimQ line) then (trimQ line).take ((trimQ line).length - 1) else trimQ line := rfl
        generalize bareQ (trimQ line) = b at hst hbq
        have hsuf := fun W => HasSuffix_any (trimQ line) [61] W (by unfold maxLen; omega)
        rw [show Lib.hasSuffix (trimQ line) [61] = softQ (trimQ line) from rfl] at hsuf
        generalize softQ (trimQ line) = soft at hsf hbq hend hsuf
        generalize trimQ line = t at htl hsf hbq htr hsuf
        have Htr := Lib.hid htr
        have Hsuf := Lib.hid hsuf
        obtain ⟨R, hR⟩ : ∃ R, (decQ b).map (out ++ ·) = R := ⟨_, rfl⟩
        rw [hR] at hst
        have HR := Lib.hid hR
        have Hst := Lib.hid hst
        have Hend := Lib.hid hend
        have Hbq := Lib.hid hbq
        have Hsf := Lib.hid hsf
        clear hst hR hend hcut hE htr hsuf hbq hsf hs0
        go_wp2_with fail
        refine Hcut.out.mono ?_
        rintro e w1 ⟨rfl, q1, rfl⟩
        have hb1 : Below w.heap.size w (wr.drewN q1) := belN hbel q1
        have hown1 : (wr.drewN q1).ownsRow w.heap.size 5 1 (.slice O ol oc) ol (Lib.byteCells out) := hown
        generalize wr.drewN q1 = w1 at hb1 hown1 ⊢
        clear hown hbel Hcut
        go_wp2_with fail
        refine (Htr.out _).mono ?_
        rintro e w2 ⟨rfl, hb2⟩
        have hown2 := own_below hown1 hb2
        have hbel2 := hb1.trans (hb2.mono hb1.size)
        clear hown1 hb1 Htr
        go_wp2_with fail
        refine (Hsuf.out _).mono ?_
        rintro e w3 ⟨rfl, rfl⟩
        clear Hsuf
        cases soft
        case' true =>
          have h1 : 1 ≤ t.length := Hsf.out rfl
          go_wp2_with fail
          have hbq2 : List.take (t.length - 1) t = b := Hbq.out.symm
          have hbl : b.length ≤ 16000 := by rw [← hbq2]; simp; omega
          rw [hbq2]
          clear hbq2 h1
          have Hend2 : Hid (E = []) := by show E = _; rw [Hend.out]; simp
          have Hr2 : Hid (2 = 2) := rfl
        case' false =>
          go_wp2_with fail
          obtain rfl : b = t := Hbq.out
          have hbl : b.length ≤ 16000 := by omega
          have Hend2 : Hid (E = if whole then [13, 10] else []) := by show E = _; rw [Hend.out]; simp
        all_goals
          clear Hbq Hsf Hend
          go_loopw [4, 9] (QRel2 b b.length R w) (fun _ iv _ => b.length - (intOf iv).toNat)
          case atStart => exact ⟨0, out, O, ol, oc, rfl, rfl, by omega, ⟨HR.out, HOl.out⟩, by omega, hoc, hown2, hbel2⟩
          case round =>
            clear hown2 hbel2 hol hoc hb2 HOl HR
            obtain ⟨i, out2, O2, ol2, oc2, rfl, rfl, him, hE, hol2, hoc2, hown, hbel⟩ := hrel
            by_cases hib : i < b.length
            · have hx8 := nth_lt b i
              by_cases h61 : nth b i = 61
              · have hx1 : ((nth b i : Int) != 61) = false := by simp [h61]
                have H61 := Lib.hid h61; clear h61
                by_cases h2 : i + 2 < b.length
                · have ha := nth_lt b (i + 1)
                  have hd := nth_lt b (i + 2)
                  have hbad := decQ_bad b i H61.out h2
                  have hok := decQ_ok b i H61.out h2
                  have hba := hexQ_bd (nth b (i + 1))
                  have hbd := hexQ_bd (nth b (i + 2))
                  have hca := fun W => hex_any (nth b (i + 1)) ha W
                  have hcd := fun W => hex_any (nth b (i + 2)) hd W
                  generalize hexQ (nth b (i + 1)) = u at hbad hok hba hca
                  generalize hexQ (nth b (i + 2)) = v at hbad hok hbd hcd
                  obtain ⟨hu1, hu2⟩ := hba
                  obtain ⟨hv1, hv2⟩ := hbd
                  have Hca := Lib.hid hca
                  have Hcd := Lib.hid hcd
                  have Hbad := Lib.hid hbad
                  have Hok := Lib.hid hok
                  have hi2 : (i : Int) + 2 < b.length := by omega
                  have hi1 : (i : Int) + 1 < b.length := by omega
                  have j1 : ((i : Int) + 1).toNat = i + 1 := by omega
                  have j2 : ((i : Int) + 2).toNat = i + 2 := by omega
                  clear hbad hok hca hcd
                  by_cases hu : u < 0
                  · have hR0 : R = none := by rw [← hE.out.1, Hbad.out (.inl hu)]; rfl
                    have hr : Hid (r = ([], 1)) := by show r = _; rw [Hst.out, hR0]
                    clear hR0
                    go_wp2_with fail
                    refine (Hca.out _).mono ?_
                    rintro e w4 ⟨rfl, rfl⟩
                    go_wp2_with fail
                    go_ret2
                    rw [hr.out]
                    exact BytesRes.fail 1 hbel
                  · by_cases hv : v < 0
                    · have hR0 : R = none := by rw [← hE.out.1, Hbad.out (.inr hv)]; rfl
                      have hr : Hid (r = ([], 1)) := by show r = _; rw [Hst.out, hR0]
                      clear hR0
                      go_wp2_with fail
                      refine (Hca.out _).mono ?_
                      rintro e w4 ⟨rfl, rfl⟩
                      go_wp2_with fail
                      refine (Hcd.out _).mono ?_
                      rintro e w5 ⟨rfl, rfl⟩
                      go_wp2_with fail
                      go_ret2
                      rw [hr.out]
                      exact BytesRes.fail 1 hbel
                    · obtain ⟨x, rfl⟩ := Int.eq_ofNat_of_zero_le (by omega : 0 ≤ u)
                      obtain ⟨y, rfl⟩ := Int.eq_ofNat_of_zero_le (by omega : 0 ≤ v)
                      have hE2 : Hid ((decQ (b.drop (i + 3))).map ((out2 ++ [UInt8.ofNat (x * 16 + y)]) ++ ·) = R) := by
                        show _ = R
                        rw [← hE.out.1, Hok.out (by omega) (by omega), map_app]
                        rfl
                      have Hol := Lib.hid hE.out.2
                      clear hE
                      go_wp2_with fail
                      refine (Hca.out _).mono ?_
                      rintro e w4 ⟨rfl, rfl⟩
                      go_wp2_with fail
                      refine (Hcd.out _).mono ?_
                      rintro e w5 ⟨rfl, rfl⟩
                      go_wp2_with fail
                      have i1 : IntKind.i64.wrap ((i : Int) + 1) = (i : Int) + 1 := IntWalk.i64_in _ (by omega)
                      have i2 : IntKind.i64.wrap ((i : Int) + 2) = (i : Int) + 2 := IntWalk.i64_in _ (by omega)
                      have k1 : 0 ≤ (i : Int) + 1 := by omega
                      have k2 : 0 ≤ (i : Int) + 2 := by omega
                      have o1 : bits .or .i64 ((x : Int) * 16) (y : Int) = ((x * 16 + y : Nat) : Int) := by
                        have h := i64_or (x * 16) y (by omega) (by omega)
                        rw [or_low x y 4 (by omega)] at h
                        simpa using h
                      have i3 : IntKind.i64.wrap ((x : Int) * 16) = (x : Int) * 16 := IntWalk.i64_in _ (by omega)
                      have hxy : x * 16 + y < 256 := by omega
                      have i4 : IntKind.u8.wrap ((x * 16 + y : Nat) : Int) = ((x * 16 + y : Nat) : Int) := wrap_u8N _ hxy
                      generalize hz : x * 16 + y = z at o1 i4 hE2 hxy
                      clear hz
                      have h63 : ol2 + 1 ≤ maxLen := by unfold maxLen; omega
                      have h47 : (ol2 + 1) * 1 ≤ 140737488355328 := by omega
                      go_region_law (first
                        | (go_simp; go_at_call 152; (with_reducible refine (Hca.out _).mono ?_); rintro e w4 ⟨rfl, rfl⟩)
                        | (go_simp; go_at_call 152; (with_reducible refine (Hcd.out _).mono ?_); rintro e w4 ⟨rfl, rfl⟩)
                        | (refine step_append_lies (w := (w5.alloc (.cells #[.int .u8 (z : Nat)] 5)).drew) (by rfl) (.tmp 69) (.tmp 83) 22 (by rfl) w.heap.size 5 j0 (.int .u8 0) 1 1 Tryd.underlying22 hj0 hjz0 hjz1 hjz2 rfl (by decide) (.slice O2 ol2 oc2) ol2 (Lib.byteCells out2) (by simp [Act.eval, Act.put]) (hown.alloc _).drew ⟨w5.heap.size, 0, none⟩ 1 1 [.int .u8 (z : Nat)] (by simp [Act.eval, Act.put]) rfl (news_one w5 _ _) (one_u8 _) (by decide) h63 h47 (by have := hbel.size; simp; omega) _ rfl ?_; intro g cap w6 hown6 hgrow6 hat6 hlt6))
                      all_goals
                        have hc' := own_cap hown6
                        have hb6 := (hbel.alloc hbel.size _).drew.grown hgrow6 (by have := hbel.size; simp; omega) (fun k hk => (hown.lt k hk).1)
                        clear hgrow6 hat6 hlt6 i1 i2 i3 i4 o1 j1 j2
                        go_wp2_with fail
                        refine ⟨⟨i + 3, out2 ++ [UInt8.ofNat z], some ⟨g, 0, none⟩, ol2 + 1, cap, rfl, by go_num, by omega, ⟨hE2.out, by simp [Hol.out]⟩, by omega, hc', ?_, hb6⟩, by simp [intOf]; omega⟩
                        rw [byteCells_append, byte_cell _ hxy]
                        exact hown6
                · have hR0 : R = none := by rw [← hE.out.1, decQ_short b i hib H61.out (by omega)]; rfl
                  have hr : Hid (r = ([], 1)) := by show r = _; rw [Hst.out, hR0]
                  clear hR0
                  go_wp2_with fail
                  go_ret2
                  rw [hr.out]
                  exact BytesRes.fail 1 hbel
              · have hx1 : ((nth b i : Int) != 61) = true := by simp; omega
                have hE1 := decQ_plain b i hib h61
                have hE2 : Hid ((decQ (b.drop (i + 1))).map ((out2 ++ [UInt8.ofNat (nth b i)]) ++ ·) = R) := by
                  show _ = R
                  rw [← hE.out.1, hE1, map_app]
                have Hol := Lib.hid hE.out.2
                clear hE1 hE h61
                have h63 : ol2 + 1 ≤ maxLen := by unfold maxLen; omega
                have h47 : (ol2 + 1) * 1 ≤ 140737488355328 := by omega
                go_wp2_with (at_builtin; refine wpList_app rfl _ _ 22 rfl w.heap.size 5 j0 (.int .u8 0) 1 1 Tryd.underlying22 hj0 hjz0 hjz1 hjz2 rfl (by decide) O2 ol2 oc2 (Lib.byteCells out2) rfl (hown.alloc _) _ _ 1 1 [.int .u8 (nth b i : Nat)] rfl (Sl.one _ _ _) (one_u8 _) h63 h47 ?c2 ?_)
                case c2 => have := hbel.size; simp; omega
                intro S' c' w4 hown4 hb4 _
                have hc' := own_cap hown4
                go_wp2_with fail
                refine ⟨⟨i + 1, out2 ++ [UInt8.ofNat (nth b i)], S', ol2 + 1, c', rfl, by go_num, by omega, ⟨hE2.out, by simp [Hol.out]⟩, by omega, hc', ?_, (hbel.alloc hbel.size _).trans hb4⟩, by simp [intOf]; omega⟩
                rw [byteCells_append, byte_cell _ hx8]
                exact hown4
            · obtain rfl : i = b.length := by omega
              have hR0 : R = some out2 := by rw [← hE.out.1, List.drop_of_length_le (Nat.le_refl _)]; simp [decQ]
              have hr1 : Hid (r = if 4000 < (out2 ++ E).length then ([], 2) else linesQ k rest (out2 ++ E)) := by
                show r = _; rw [Hst.out, hR0]
              have Hol := Lib.hid hE.out.2
              clear hR0 hE
              cases whole
              all_goals
                first
                | obtain rfl : E = [] := by have := Hend2.out; simpa using this
                  by_cases h4 : 4000 < ol2
                  · have hr : Hid (r = ([], 2)) := by show r = _; rw [hr1.out, List.append_nil, Hol.out, if_pos h4]
                    go_wp2_with fail
                    go_ret2
                    rw [hr.out]
                    exact BytesRes.fail 2 hbel
                  · have hr : Hid (r = linesQ k rest out2) := by show r = _; rw [hr1.out, List.append_nil, Hol.out, if_neg h4]
                    go_wp2_with fail
                    exact ⟨⟨k, rest, out2, O2, ol2, oc2, rfl, rfl, ⟨hr.out.symm, by have := HK.out; omega, Hol.out⟩, by omega, by omega, hoc2, hown, hbel⟩, by rw [strLen_str, strLen_str]; exact hl2⟩
                | obtain rfl : E = [13, 10] := by have := Hend2.out; simpa using this
                  have hL : Hid ((out2 ++ [13, 10]).length = ol2 + 2) := by show _ = _; simp [Hol.out]
                  have h63 : ol2 + 2 ≤ maxLen := by unfold maxLen; omega
                  have h47 : (ol2 + 2) * 1 ≤ 140737488355328 := by omega
                  go_wp2_with (at_builtin; refine wpList_app rfl _ _ 22 rfl w.heap.size 5 j0 (.int .u8 0) 1 1 Tryd.underlying22 hj0 hjz0 hjz1 hjz2 rfl (by decide) O2 ol2 oc2 (Lib.byteCells out2) rfl (hown.alloc _) _ _ 2 2 [.int .u8 13, .int .u8 10] rfl (Sl.row _ _ 1 2 _ rfl) (two_u8 _ _) h63 h47 ?c4 ?_)
                  case c4 => have := hbel.size; simp; omega
                  intro S' c' w4 hown4 hb4 _
                  have hc' := own_cap hown4
                  have hbel4 := (hbel.alloc hbel.size _).trans hb4
                  by_cases h4 : 4000 < ol2 + 2
                  · have hr : Hid (r = ([], 2)) := by show r = _; rw [hr1.out, hL.out, if_pos h4]
                    go_wp2_with fail
                    go_ret2
                    rw [hr.out]
                    exact BytesRes.fail 2 hbel4
                  · have hr : Hid (r = linesQ k rest (out2 ++ [13, 10])) := by show r = _; rw [hr1.out, hL.out, if_neg h4]
                    go_wp2_with fail
                    exact ⟨⟨k, rest, out2 ++ [13, 10], S', ol2 + 2, c', rfl, rfl, ⟨hr.out.symm, by have := HK.out; omega, hL.out⟩, by omega, by omega, hc', by rw [byteCells_append]; exact hown4, hbel4⟩, by rw [strLen_str, strLen_str]; exact hl2⟩
end Go.Proofs.YtdhmmepcnladcaaDoor

import Derived.Test.YtdhmmepcnladcaaDoorQsX
import Derived.Test.YtdhmmepcnladcaaDoorQsT
import Derived.Test.YtdhmmepcnladcaaDoorQuoteW
namespace Go.Proofs.YtdhmmepcnladcaaDoor
open Go.RowKit
attribute [local go_sem high] cut_bytes upto_bytes

/-- The outer loop. -/
def QrRel1 (N : Nat) (r : List UInt8 × Nat) (L : List (List UInt8)) (w1 w0 : World) (ov iv : Value) (wr : World) : Prop :=
  ∃ (i : Nat) (out : List UInt8) (O : Option Addr) (ol oc : Nat), iv = .int .i64 (i : Nat) ∧ ov = .slice O ol oc ∧ i ≤ N ∧ Hid (lpQ (L.drop i) out = r ∧ out.length = ol) ∧ ol ≤ 4000 ∧ ol ≤ oc ∧
    wr.ownsRow w1.heap.size 5 1 (.slice O ol oc) ol (Lib.byteCells out) ∧ Below w1.heap.size w1 wr
/-- The blanks' going. -/
def QrRel2 (x : List UInt8) (O : Value) (ol : Nat) (out : List UInt8) (w0 : World) (lv : Value) (wr : World) : Prop :=
  ∃ y : List UInt8, lv = str y ∧ Hid (trimQ y = trimQ x) ∧ y.length ≤ x.length ∧ wr.ownsRow w0.heap.size 5 1 O ol (Lib.byteCells out) ∧ Below w0.heap.size w0 wr
/-- What is left of the line. -/
def QrRel3 (m : Nat) (R : Option (List UInt8)) (w0 : World) (ov lv : Value) (wr : World) : Prop :=
  ∃ b out O ol oc, ov = .slice O ol oc ∧ lv = str b ∧ Hid ((decQ b).map (out ++ ·) = R ∧ out.length = ol) ∧ b.length ≤ m ∧ ol + b.length ≤ 4000 + m ∧ ol ≤ oc ∧
    wr.ownsRow w0.heap.size 5 1 (.slice O ol oc) ol (Lib.byteCells out) ∧ Below w0.heap.size w0 wr
/-- What stands behind a line. -/
def behQ (L : List (List UInt8)) (E : List UInt8) : Option (List UInt8) → List UInt8 × Nat
  | none => ([], 1)
  | some y => if 4000 < (y ++ E).length then ([], 2) else lpQ L (y ++ E)
theorem lpQ_step (x : List UInt8) (r : List (List UInt8)) (out : List UInt8) : lpQ (x :: r) out = behQ r (lineE r x) ((decQ (bareQ (trimQ x))).map (out ++ ·)) := by
  rw [lpQ]
  cases decQ (bareQ (trimQ x)) <;> rfl
set_option maxRecDepth 100000 in
set_option maxHeartbeats 8000000 in
theorem RQRead_any (s : List UInt8) (w : World) (hM : MaxLenOk w) :
    Calls Tryd.prog 72 #[str s] w (BytesRes w (readQ s)) := by
  obtain ⟨j0, hj0, hjz0, hjz1, hjz2⟩ := info_parts infoByte
  by_cases h16 : 16000 < s.length
  · have hr : readQ s = ([], 2) := by unfold readQ; rw [if_pos h16]
    rw [hr]
    have d16 : decide ((16000 : Int) < (s.length : Int)) = true := decide_eq_true (by omega)
    go_enter Tryd.func72, Tryd.ntmps72
    go_wp2_with fail
    go_ret2
    exact BytesRes.fail 2 (Below.refl _ _)
  · have d16 : decide ((16000 : Int) < (s.length : Int)) = false := decide_eq_false (by omega)
    have hsa := SplitAfter_one s w hM (by omega)
    obtain ⟨r, hr⟩ : ∃ r, r = readQ s := ⟨_, rfl⟩
    rw [← hr]
    rw [lpQ_read, if_neg h16] at hr
    have hfree := splitC_free 10 s
    have hlenx : ∀ x ∈ splitC 10 s, x.length ≤ 16000 := by
      intro x hx
      have := splitC_le s x hx
      omega
    have hLn := splitC_len 10 s
    generalize splitC 10 s = L at *
    have hget := afterC_get 10 L
    have hlenA := afterC_len 10 L
    generalize hCC : afterC 10 L = CC at *
    obtain ⟨N, hN⟩ : ∃ N, N = L.length := ⟨_, rfl⟩
    rw [← hN] at hsa hLn
    have hN16 : N ≤ 16001 := by omega
    obtain ⟨w1, hw1⟩ : ∃ w1, w1 = w.alloc (.cells (CC.map str).toArray 9) := ⟨_, rfl⟩
    rw [← hw1] at hsa
    have hb1 : Below w.heap.size w w1 := by rw [hw1]; exact (Below.refl _ w).alloc (Nat.le_refl _) _
    have hsz1 : w1.heap.size = w.heap.size + 1 := by rw [hw1]; simp
    have hcell : ∀ j, (hj : j < L.length) → w1.cell? ⟨w.heap.size, j, none⟩ = some (str (if j + 1 < L.length then L[j] ++ [10] else L[j])) := by
      intro j hj
      have h1 := hget j hj
      unfold World.cell?
      rw [hw1, heap_alloc_new]
      simp [h1]
    have HS := Lib.hid hsa
    have Hcell := Lib.hid hcell
    have Hsz1 := Lib.hid hsz1
    have Hfree := Lib.hid hfree
    have Hlen := Lib.hid hlenx
    have HN := Lib.hid hN
    have Hr := Lib.hid hr
    have Hb1 := Lib.hid hb1
    clear hsa hcell hsz1 hfree hlenx hN hr hb1 hw1 hget hlenA hCC hLn hM h16
    go_enter Tryd.func72, Tryd.ntmps72
    go_wp2_with fail
    refine HS.out.mono ?_
    rintro e w2 ⟨rfl, rfl⟩
    go_wp2_with fail
    go_loopw [4, 18] (QrRel1 N r L w2 w) (fun _ iv _ => N - (intOf iv).toNat)
    case atStart => exact ⟨0, [], none, 0, 0, rfl, rfl, by omega, ⟨Hr.out.symm, rfl⟩, by omega, by omega, World.ownsRow_nil _ _ _ _, Below.refl _ _⟩
    case round =>
      obtain ⟨i, out, O, ol, oc, rfl, rfl, hi, hE, hol, hoc, hown, hbel⟩ := hrel
      by_cases hiN : i < N
      · have hil : i < L.length := by rw [← HN.out]; exact hiN
        have hcel0 := (hbel.cell (p := ⟨w.heap.size, i, none⟩) (by rw [Hsz1.out]; simp)).trans (Hcell.out i hil)
        have hx1 := Hfree.out _ (List.getElem_mem hil)
        have hx2 := Hlen.out _ (List.getElem_mem hil)
        have hst : lpQ (L[i]'hil :: L.drop (i + 1)) out = r := by rw [← List.drop_eq_getElem_cons hil]; exact hE.out.1
        have HOl := Lib.hid hE.out.2
        rw [lpQ_step] at hst
        have hend : lineE (L.drop (i + 1)) (L[i]'hil) = if (decide (i + 1 < N) && !softQ (trimQ (L[i]'hil))) = true then [13, 10] else [] := by
          unfold lineE
          congr 2
          by_cases hl : i + 1 < N
          · have : (L.drop (i + 1)).isEmpty = false := by
              cases h : L.drop (i + 1) with
              | nil => have := congrArg List.length h; rw [List.length_drop, ← HN.out] at this; simp at this; omega
              | cons _ _ => rfl
            rw [this, decide_eq_true hl]; rfl
          · have : (L.drop (i + 1)).isEmpty = true := by rw [List.drop_of_length_le (by rw [← HN.out]; omega)]; rfl
            rw [this, decide_eq_false hl]; rfl
        clear hE
        generalize L[i]'hil = x at *
        rw [← HN.out] at hcel0
        obtain ⟨E, hEq⟩ : ∃ E, E = lineE (L.drop (i + 1)) x := ⟨_, rfl⟩
        rw [← hEq] at hst hend
        clear hEq
        have hl0 : (L.drop (i + 1)).length < N := by rw [List.length_drop, ← HN.out]; omega
        obtain ⟨wh, hwh⟩ : ∃ wh, wh = decide (i + 1 < N) := ⟨_, rfl⟩
        obtain ⟨v, hv⟩ : ∃ v, v = if i + 1 < N then x ++ [10] else x := ⟨_, rfl⟩
        rw [← hv] at hcel0
        have hvw : v = if wh then x ++ [10] else x := by rw [hv, hwh]; by_cases hl : i + 1 < N <;> simp [hl]
        have kS := fun X => HasSuffix_any v [10] X (by unfold maxLen; rw [hv]; split <;> simp <;> omega)
        have hsv : Lib.hasSuffix v [10] = wh := by
          rw [hvw]
          cases wh with
          | true => exact suffix_one x 10
          | false => exact suffix_not x 10 hx1
        rw [hsv] at kS
        rw [← hwh] at hend
        have KS := Lib.hid kS
        have Hst := Lib.hid hst.symm
        have Hend := Lib.hid hend
        have Hv := Lib.hid hvw
        clear kS hst hend hx1 hsv hv hwh hvw
        go_wp2_with fail
        refine (KS.out _).mono ?_
        rintro e w3 ⟨rfl, rfl⟩
        clear KS
        go_upto_if 24 with (fail)
        go_cut [7] (fun s7 wx => s7 = str x ∧ wx.ownsRow w2.heap.size 5 1 (.slice O ol oc) ol (Lib.byteCells out) ∧ Below w2.heap.size w2 wx)
        case first =>
          cases wh
          case' true =>
            obtain rfl : v = x ++ [10] := Hv.out
            have l1 : (x ++ [10]).take x.length = x := by rw [List.take_left]
            go_wp2_with fail
            go_meet
          case' false =>
            obtain rfl : v = x := Hv.out
            go_wp2_with fail
            go_meet
          all_goals
            refine ⟨?_, hown, hbel⟩
            first | rfl | (try rw [l1])
        case rest =>
          obtain ⟨rfl, hown, hbel⟩ := hcut
          have HOl2 := HOl
          go_upto_block 2 with fail
          go_cut [7] (fun s7 wx => s7 = str (trimQ x) ∧ wx.ownsRow w2.heap.size 5 1 (.slice O ol oc) ol (Lib.byteCells out) ∧ Below w2.heap.size w2 wx)
          case first =>
            go_wp2_with fail
            go_loopw [7] (fun lv wr => QrRel2 x (.slice O ol oc) ol out w2 lv wr) (fun lv _ => strLen lv)
            case atStart => exact ⟨x, rfl, rfl, Nat.le_refl _, hown, hbel⟩
            case round =>
              clear hown hbel
              obtain ⟨y, rfl, hT, hyl, hown, hbel⟩ := hrel
              by_cases hy : y = []
              · have e0 : (y == ([] : List UInt8)) = true := by rw [hy]; rfl
                have HT : Hid (y = trimQ x) := by show _ = _; rw [← hT.out, hy]; rfl
                clear hT hy
                go_wp2_with fail
                go_meet
                exact ⟨by rw [HT.out], hown, hbel⟩
              · have e0 : (y == ([] : List UInt8)) = false := by simpa using hy
                have hyp : 0 < y.length := List.length_pos_iff.2 hy
                obtain ⟨z, d, hyz, hz1, hz2⟩ := last_split y hy
                have q1 : (0 : Int) ≤ (y.length : Int) - 1 := by omega
                have q2 : (y.length : Int) - 1 ≤ (y.length : Int) := by omega
                have q3 : ((y.length : Int) - 1).toNat = y.length - 1 := by omega
                have kC := fun X => Contains_blank (y.drop (y.length - 1)) X (by rw [hz2]; rfl)
                have hgd : (y.drop (y.length - 1)).getD 0 0 = d := by rw [hz2]; rfl
                rw [hgd] at kC
                cases hcb : ([32, 9, 13] : List UInt8).contains d with
                | true =>
                  have HT : Hid (trimQ (y.take (y.length - 1)) = trimQ x) := by
                    show _ = _
                    rw [hz1, ← trimQ_blank z d hcb, ← hyz]
                    exact hT.out
                  rw [hcb] at kC
                  have KC := Lib.hid kC
                  clear kC hT hyz hz1 hz2 hgd hcb hy
                  go_wp2_with fail
                  refine (KC.out _).mono ?_
                  rintro e w4 ⟨rfl, rfl⟩
                  go_wp2_with fail
                  refine ⟨⟨y.take (y.length - 1), rfl, HT, by rw [List.length_take]; omega, hown, hbel⟩, by rw [strLen_str, strLen_str, List.length_take]; omega⟩
                | false =>
                  have HT : Hid (y = trimQ x) := by
                    show _ = _
                    rw [← hT.out, hyz, trimQ_stop z d hcb]
                  rw [hcb] at kC
                  have KC := Lib.hid kC
                  clear kC hT hyz hz1 hz2 hgd hcb hy
                  go_wp2_with fail
                  refine (KC.out _).mono ?_
                  rintro e w4 ⟨rfl, rfl⟩
                  go_wp2_with fail
                  go_meet
                  exact ⟨by rw [HT.out], hown, hbel⟩
          case rest =>
            clear hown hbel
            obtain ⟨rfl, hown, hbel⟩ := hcut
            have htl := trimQ_len x
            have hsf := soft_pos (trimQ x)
            have hbq : bareQ (trimQ x) = if softQ (trimQ x) then (trimQ x).take ((trimQ x).length - 1) else trimQ x := rfl
            have hst := Hst.out
            have hend := Hend.out
            generalize bareQ (trimQ x) = b at hst hbq
            have hsuf := fun W => HasSuffix_any (trimQ x) [61] W (by unfold maxLen; omega)
            rw [show Lib.hasSuffix (trimQ x) [61] = softQ (trimQ x) from rfl] at hsuf
            generalize softQ (trimQ x) = soft at hsf hbq hend hsuf
            generalize trimQ x = t at htl hsf hbq hsuf ⊢
            have Hsuf := Lib.hid hsuf
            obtain ⟨R, hR⟩ : ∃ R, (decQ b).map (out ++ ·) = R := ⟨_, rfl⟩
            rw [hR] at hst
            obtain ⟨wb, hwb⟩ : ∃ wb, wb = (wh && !soft) := ⟨_, rfl⟩
            rw [← hwb] at hend
            have hbl : b.length ≤ x.length := by
              rw [hbq]
              split
              · rw [List.length_take]; omega
              · exact htl
            have HR := Lib.hid hR
            have Hst2 := Lib.hid hst
            have Hend2 := Lib.hid hend
            have Hbq := Lib.hid hbq
            have Hsf := Lib.hid hsf
            have Hwb := Lib.hid hwb
            clear hR hst hend hbq hsf hwb hsuf Hst Hend Hv
            go_wp2_with fail
            refine (Hsuf.out _).mono ?_
            rintro e w3 ⟨rfl, rfl⟩
            go_upto_if 46 with (fail)
            go_cut [7, 8] (fun s7 s8 wx => s7 = str b ∧ s8 = .bool wb ∧ wx.ownsRow w2.heap.size 5 1 (.slice O ol oc) ol (Lib.byteCells out) ∧ Below w2.heap.size w2 wx)
            case first =>
              cases soft
              case' true =>
                have h1 : 1 ≤ t.length := Hsf.out rfl
                have q1 : (0 : Int) ≤ (t.length : Int) - 1 := by omega
                have q2 : (t.length : Int) - 1 ≤ (t.length : Int) := by omega
                have q3 : ((t.length : Int) - 1).toNat = t.length - 1 := by omega
                have hb : Hid (b = t.take (t.length - 1)) := Hbq.out
                have hw : Hid (wb = false) := by show _ = _; rw [Hwb.out]; simp
                go_wp2_with fail
                go_meet
              case' false =>
                have hb : Hid (b = t) := Hbq.out
                have hw : Hid (wb = wh) := by show _ = _; rw [Hwb.out]; simp
                go_wp2_with fail
                go_meet
              all_goals exact ⟨by rw [hb.out], by rw [hw.out], hown, hbel⟩
            case rest =>
              clear hown hbel
              obtain ⟨rfl, rfl, hown, hbel⟩ := hcut
              clear Hsuf Hbq Hsf Hwb htl
              go_wp2_with fail
              go_loopw [4, 7] (fun ov lv wr => QrRel3 16000 R w2 ov lv wr) (fun _ lv _ => strLen lv)
              case atStart => exact ⟨b, out, O, ol, oc, rfl, rfl, ⟨HR.out, HOl2.out⟩, by omega, by omega, hoc, hown, hbel⟩
              case round =>
                clear hown hbel hol hoc HOl HOl2 HR hbl
                obtain ⟨b, out, O, ol, oc, rfl, rfl, hE, hbl, hol, hoc, hown, hbel⟩ := hrel
                by_cases hb0 : b = []
                · subst hb0
                  have hR0 : R = some out := by rw [← hE.out.1]; simp [decQ]
                  have Hol := Lib.hid hE.out.2
                  have hr1 : Hid (r = if 4000 < (out ++ E).length then ([], 2) else lpQ (L.drop (i + 1)) (out ++ E)) := by
                    show r = _; rw [Hst2.out, hR0]; rfl
                  clear hR0 hE
                  cases wb
                  · obtain rfl : E = [] := Hend2.out
                    have hr2 := hr1.out
                    rw [List.append_nil, Hol.out] at hr2
                    by_cases h4 : 4000 < ol
                    · rw [if_pos h4] at hr2
                      have hr := Lib.hid hr2
                      clear hr2
                      have d4 : decide ((4000 : Int) < (ol : Int)) = true := decide_eq_true (by omega)
                      go_wp2_with fail
                      go_ret2
                      rw [hr.out]
                      exact BytesRes.fail 2 (Hb1.out.trans (hbel.mono Hb1.out.size))
                    · rw [if_neg h4] at hr2
                      have hr := Lib.hid hr2.symm
                      clear hr2
                      have d4 : decide ((4000 : Int) < (ol : Int)) = false := decide_eq_false (by omega)
                      have d5 : (ol : Int) ≤ 4000 := by omega
                      go_wp2_with fail
                      exact ⟨⟨i + 1, out, O, ol, oc, by go_num, rfl, by omega, ⟨hr.out, Hol.out⟩, by omega, hoc, hown, hbel⟩, by simp [intOf]; omega⟩
                  · obtain rfl : E = [13, 10] := Hend2.out
                    have hL : Hid ((out ++ [13, 10]).length = ol + 2) := by show _ = _; simp [Hol.out]
                    have hr2 := hr1.out
                    rw [hL.out] at hr2
                    have HR2 := Lib.hid hr2
                    clear hr2
                    have h63 : ol + 2 ≤ maxLen := by unfold maxLen; omega
                    have h47 : (ol + 2) * 1 ≤ 140737488355328 := by omega
                    go_wp2_with (at_builtin; refine wpList_app rfl _ _ 22 rfl w2.heap.size 5 j0 (.int .u8 0) 1 1 Tryd.underlying22 hj0 hjz0 hjz1 hjz2 rfl (by decide) O ol oc (Lib.byteCells out) rfl (hown.alloc _) _ _ 2 2 [.int .u8 13, .int .u8 10] rfl (Sl.row _ _ 1 2 _ rfl) (two_u8 _ _) h63 h47 ?c4 ?_)
                    case c4 => have := hbel.size; simp; omega
                    intro S' c' w4 hown4 hb4 _
                    have hc' := own_cap hown4
                    have hbel4 := (hbel.alloc hbel.size _).trans hb4
                    by_cases h4 : 4000 < ol + 2
                    · have d4 : decide ((4000 : Int) < (ol : Int) + 2) = true := decide_eq_true (by omega)
                      have hr : Hid (r = ([], 2)) := by show _ = _; rw [HR2.out, if_pos h4]
                      go_wp2_with fail
                      go_ret2
                      rw [hr.out]
                      exact BytesRes.fail 2 (Hb1.out.trans (hbel4.mono Hb1.out.size))
                    · have d4 : decide ((4000 : Int) < (ol : Int) + 2) = false := decide_eq_false (by omega)
                      have d5 : (ol : Int) + 2 ≤ 4000 := by omega
                      have hr : Hid (lpQ (L.drop (i + 1)) (out ++ [13, 10]) = r) := by show _ = _; rw [HR2.out, if_neg h4]
                      go_wp2_with fail
                      exact ⟨⟨i + 1, out ++ [13, 10], S', ol + 2, c', by go_num, rfl, by omega, ⟨hr.out, hL.out⟩, by omega, hc', by rw [byteCells_append]; exact hown4, hbel4⟩, by simp [intOf]; omega⟩
                · have e0 : (b == ([] : List UInt8)) = false := by simpa using hb0
                  have hp : 0 < b.length := List.length_pos_iff.2 hb0
                  have hp1 : (1 : Int) ≤ (b.length : Int) := by omega
                  have hx8 := nth_lt b 0
                  have h63 : ol + 1 ≤ maxLen := by unfold maxLen; omega
                  have h47 : (ol + 1) * 1 ≤ 140737488355328 := by omega
                  by_cases h61 : nth b 0 = 61
                  · have hx1 : ((nth b 0 : Int) != 61) = false := by simp [h61]
                    have H61 := Lib.hid h61; clear h61
                    by_cases h3 : b.length < 3
                    · have d3 : decide ((b.length : Int) < 3) = true := decide_eq_true (by omega)
                      have hR0 : R = none := by rw [← hE.out.1, decQ_short0 b hp H61.out h3]; rfl
                      have hr : Hid (r = ([], 1)) := by show r = _; rw [Hst2.out, hR0]; rfl
                      clear hR0
                      go_wp2_with fail
                      go_ret2
                      rw [hr.out]
                      exact BytesRes.fail 1 (Hb1.out.trans (hbel.mono Hb1.out.size))
                    · have d3 : decide ((b.length : Int) < 3) = false := decide_eq_false (by omega)
                      have d3' : (3 : Int) ≤ b.length := by omega
                      have hb3 : 3 ≤ b.length := by omega
                      have hhex := two_hex b hb3
                      obtain ⟨t0, t1, t2⟩ := two_at b hb3
                      have kT := fun X => Trim_hex ((b.take 3).drop 1) X (by rw [t0]; decide)
                      simp only [hexSet] at kT hhex
                      have hbad := decQ_bad0 b H61.out hb3
                      have hok := decQ_ok0 b H61.out hb3
                      have hpu := fun X => ParseUint_hex ((b.take 3).drop 1) X t0
                      rw [t1, t2] at hpu
                      have hmid : ∀ X, (Instr.slice 9 (str b) (some (.int .i64 1)) (some (.int .i64 3)) none).run Tryd.prog X = .ok (str ((b.take 3).drop 1)) X := fun X =>
                        run_slice_str_lh X 9 b .i64 .i64 1 3 Tryd.underlying9 (by omega) (by omega) (by omega)
                      generalize (b.take 3).drop 1 = t3 at *
                      obtain ⟨pq, hpq⟩ : ∃ pq, pq = (decide (0 ≤ hexQ (nth b 1)) && decide (0 ≤ hexQ (nth b 2))) := ⟨_, rfl⟩
                      rw [← hpq] at hhex
                      have va := val_lt ⟨nth b 1, nth_lt b 1⟩
                      have vb := val_lt ⟨nth b 2, nth_lt b 2⟩
                      simp only at va vb
                      have hz256 : valQ (nth b 1) * 16 + valQ (nth b 2) < 256 := by omega
                      generalize valQ (nth b 1) * 16 + valQ (nth b 2) = z at hok hpu hz256
                      generalize hexQ (nth b 1) = u at *
                      generalize hexQ (nth b 2) = v2 at *
                      generalize htt : Lib.trimS t3 [48, 49, 50, 51, 52, 53, 54, 55, 56, 57, 65, 66, 67, 68, 69, 70, 97, 98, 99, 100, 101, 102] = tt at kT hhex
                      have KT := Lib.hid kT
                      clear kT htt t0 t1 t2 va vb
                      cases pq
                      · have hR0 : R = none := by
                          have hlt : u < 0 ∨ v2 < 0 := by
                            have := hpq.symm
                            simp only [Bool.and_eq_false_iff, decide_eq_false_iff_not] at this
                            omega
                          rw [← hE.out.1, hbad hlt]; rfl
                        have hr : Hid (r = ([], 1)) := by show r = _; rw [Hst2.out, hR0]; rfl
                        have hne : (tt != []) = true := by simpa using hhex
                        clear hR0 hbad hok hpu hpq
                        go_wp2_with fail
                        refine (KT.out _).mono ?_
                        rintro e w4 ⟨rfl, hb4⟩
                        have hbel4 := hbel.trans (hb4.mono hbel.size)
                        go_wp2_with fail
                        go_ret2
                        rw [hr.out]
                        exact BytesRes.fail 1 (Hb1.out.trans (hbel4.mono Hb1.out.size))
                      · have hge : 0 ≤ u ∧ 0 ≤ v2 := by
                          have := hpq.symm
                          simpa only [Bool.and_eq_true, decide_eq_true_eq] using this
                        have hE2 : Hid ((decQ (b.drop 3)).map ((out ++ [UInt8.ofNat z]) ++ ·) = R) := by
                          show _ = R
                          rw [← hE.out.1, hok hge.1 hge.2, map_app]
                        have Hol := Lib.hid hE.out.2
                        have hne : (tt != []) = false := by
                          have : tt = [] := by simpa using hhex
                          rw [this]; rfl
                        have KP := Lib.hid (fun X => hpu X hge.1 hge.2)
                        clear hbad hok hpu hpq hge hE
                        go_wp2_with fail
                        refine (KT.out _).mono ?_
                        rintro e w4 ⟨rfl, hb4⟩
                        have hown4 := own_below hown hb4
                        have hbel4 := hbel.trans (hb4.mono hbel.size)
                        clear hown hbel hb4
                        go_wp2_with fail
                        refine (KP.out _).mono ?_
                        rintro e w5 ⟨rfl, hb5⟩
                        have hown := own_below hown4 hb5
                        have hbel := hbel4.trans (hb5.mono hbel4.size)
                        clear hown4 hbel4 hb5
                        have i4 : IntKind.u8.wrap (z : Int) = (z : Int) := wrap_u8N _ hz256
                        go_wp2_with fail
                        go_region_law (first
                          | (refine step_append_lies (w := (w5.alloc (.cells #[.int .u8 (z : Nat)] 5)).drew) (by rfl) (.tmp 79) (.tmp 82) 22 (by rfl) w2.heap.size 5 j0 (.int .u8 0) 1 1 Tryd.underlying22 hj0 hjz0 hjz1 hjz2 rfl (by decide) (.slice O ol oc) ol (Lib.byteCells out) (by simp [Act.eval, Act.put]) (hown.alloc _).drew ⟨w5.heap.size, 0, none⟩ 1 1 [.int .u8 (z : Nat)] (by simp [Act.eval, Act.put]) rfl (news_one w5 _ _) (one_u8 _) (by decide) h63 h47 (by have := hbel.size; simp; omega) _ rfl ?_; intro g cap w6 hown6 hgrow6 hat6 hlt6))
                        all_goals
                          have hc' := own_cap hown6
                          have hb6 := (hbel.alloc hbel.size _).drew.grown hgrow6 (by have := hbel.size; simp; omega) (fun k hk => (hown.lt k hk).1)
                          clear hgrow6 hat6 hlt6
                          go_wp2_with fail
                          go_simp
                          refine ⟨⟨_, _, _, _, ⟨b.drop 3, out ++ [UInt8.ofNat z], some ⟨g, 0, none⟩, ol + 1, cap, rfl, rfl, ⟨hE2.out, by simp [Hol.out]⟩, by simp; omega, by simp; omega, hc', ?_, hb6⟩, rfl, rfl, rfl, rfl⟩, by rw [strLen_str, strLen_str]; simp; omega⟩
                          rw [byteCells_append, byte_cell _ hz256]
                          exact hown6
                  · have hx1 : ((nth b 0 : Int) != 61) = true := by simp; omega
                    have hE1 := decQ_plain0 b hp h61
                    have hE2 : Hid ((decQ (b.drop 1)).map ((out ++ [UInt8.ofNat (nth b 0)]) ++ ·) = R) := by
                      show _ = R
                      rw [← hE.out.1, hE1, map_app]
                    have Hol := Lib.hid hE.out.2
                    clear hE1 hE h61
                    go_wp2_with fail
                    go_region_law (first
                      | (refine step_append_lies (w := (wr.alloc (.cells #[.int .u8 (nth b 0 : Nat)] 5)).drew) (by rfl) (.tmp 57) (.tmp 60) 22 (by rfl) w2.heap.size 5 j0 (.int .u8 0) 1 1 Tryd.underlying22 hj0 hjz0 hjz1 hjz2 rfl (by decide) (.slice O ol oc) ol (Lib.byteCells out) (by simp [Act.eval, Act.put]) (hown.alloc _).drew ⟨wr.heap.size, 0, none⟩ 1 1 [.int .u8 (nth b 0 : Nat)] (by simp [Act.eval, Act.put]) rfl (news_one wr _ _) (one_u8 _) (by decide) h63 h47 (by have := hbel.size; simp; omega) _ rfl ?_; intro g cap w6 hown6 hgrow6 hat6 hlt6))
                    all_goals
                      have hc' := own_cap hown6
                      have hb6 := (hbel.alloc hbel.size _).drew.grown hgrow6 (by have := hbel.size; simp; omega) (fun k hk => (hown.lt k hk).1)
                      clear hgrow6 hat6 hlt6
                      go_wp2_with fail
                      go_simp
                      refine ⟨⟨_, _, _, _, ⟨b.drop 1, out ++ [UInt8.ofNat (nth b 0)], some ⟨g, 0, none⟩, ol + 1, cap, rfl, rfl, ⟨hE2.out, by simp [Hol.out]⟩, by simp; omega, by simp; omega, hc', ?_, hb6⟩, rfl, rfl, rfl, by rw [List.drop_one]⟩, by rw [strLen_str, strLen_str]; simp; omega⟩
                      rw [byteCells_append, byte_cell _ hx8]
                      exact hown6
      · obtain rfl : i = N := by omega
        have hrr : r = (out, 0) := by
          rw [← hE.out.1, List.drop_of_length_le (by rw [← HN.out]; omega)]
          rfl
        have Hrr := Lib.hid hrr
        have HOl := Lib.hid hE.out.2
        clear hrr hE
        go_wp2_with fail
        go_ret2
        rw [Hrr.out]
        refine ⟨O, oc, ?_, ?_, ?_, Hb1.out.trans (hbel.mono Hb1.out.size)⟩
        · show _ = Ending.returned (.tuple #[.slice O out.length oc, .int .i64 ((0 : Nat) : Int)])
          rw [HOl.out]; rfl
        · show By _ _ _ out.length out
          rw [HOl.out]; exact By.of_own hown
        · show out.length ≤ oc
          rw [HOl.out]; exact hoc
end Go.Proofs.YtdhmmepcnladcaaDoor

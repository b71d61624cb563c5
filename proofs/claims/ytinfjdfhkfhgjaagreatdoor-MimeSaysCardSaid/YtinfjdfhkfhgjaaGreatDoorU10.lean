import Derived.Deep.CutBlock
import Derived.Test.YtinfjdfhkfhgjaaGreatDoorU9
import Derived.Test.YtinfjdfhkfhgjaaGreatDoorU5
import Derived.Test.YtinfjdfhkfhgjaaGreatDoorU3
import Derived.Test.YtinfjdfhkfhgjaaGreatDoorU6
set_option maxRecDepth 100000
set_option maxHeartbeats 40000000
namespace Go.Proofs.YtinfjdfhkfhgjaaGreatDoor
open Go.RowKit
attribute [local go_sem high] cut_bytes upto_bytes
def stLenF : Value → Nat | .string s => s.size | _ => 0
theorem stLenF_str (l : List UInt8) : stLenF (str l) = l.length := by simp [stLenF, str, ByteArray.size]
/-- The outer loop. -/
def QrRel1 (N : Nat) (r : List UInt8 × Nat) (L : List (List UInt8)) (w1 _w0 : World) (ov iv : Value) (wr : World) : Prop :=
 ∃ (i : Nat) (out : List UInt8) (O : Option Addr) (ol oc : Nat), iv = .int .i64 (i : Nat) ∧ ov = .slice O ol oc ∧ i ≤ N ∧ Hid (lpQ (L.drop i) out = r ∧ out.length = ol) ∧ ol ≤ 4000 ∧ ol ≤ oc ∧
  wr.ownsRow w1.heap.size 5 1 (.slice O ol oc) ol (Lib.byteCells out) ∧ Below w1.heap.size w1 wr
/-- The blanks' going. -/
def QrRel2 (x : List UInt8) (O : Value) (ol : Nat) (out : List UInt8) (w0 : World) (lv : Value) (wr : World) : Prop :=
 ∃ y : List UInt8, lv = str y ∧ Hid (trimQ y = trimQ x) ∧ y.length ≤ x.length ∧ wr.ownsRow w0.heap.size 5 1 O ol (Lib.byteCells out) ∧ Below w0.heap.size w0 wr
/-- What is left of the line. -/
def QrRel3 (m : Nat) (R : Option (List UInt8)) (w0 : World) (ov lv : Value) (wr : World) : Prop :=
 ∃ b out O ol oc, ov = .slice O ol oc ∧ lv = str b ∧ Hid ((decQ b).map (out ++ ·) = R ∧ out.length = ol) ∧ b.length ≤ m ∧ ol + b.length ≤ 4000 + m ∧ ol ≤ oc ∧
  wr.ownsRow w0.heap.size 5 1 (.slice O ol oc) ol (Lib.byteCells out) ∧ Below w0.heap.size w0 wr
/-- What stands behind a line. -/
def behQ (L : List (List UInt8)) (E : List UInt8) : Option (List UInt8) → List UInt8 × Nat
 | none => ([], 1)
 | some y => if 4000 < (y ++ E).length then ([], 2) else lpQ L (y ++ E)
theorem lpQ_stepF (x : List UInt8) (r : List (List UInt8)) (out : List UInt8) : lpQ (x :: r) out = behQ r (lineE r x) ((decQ (bareQ (trimQ x))).map (out ++ ·)) := by
 rw [lpQ]
 cases decQ (bareQ (trimQ x)) <;> rfl
theorem RQReadF_any (s : List UInt8) (w : World) (hM : MaxLenOk w) :
 Calls Tryz.prog 43 #[str s] w (BytesResF w (readQ s)) := by
 obtain ⟨j0, hj0, hjz0, hjz1, hjz2⟩ := info_parts infoByte
 by_cases h16 : 16000 < s.length
 · have hr : readQ s = ([], 2) := by unfold readQ; rw [if_pos h16]
   rw [hr]
   have d16 : decide ((16000 : Int) < (s.length : Int)) = true := decide_eq_true (by omega)
   go_enter Tryz.func43, Tryz.ntmps43
   go_wp2_with fail
   go_ret2
   exact BytesResF.fail 2 (Below.refl _ _)
 · have d16 : decide ((16000 : Int) < (s.length : Int)) = false := decide_eq_false (by omega)
   have hsa := SplitAfter_one s w hM (by omega)
   obtain ⟨r, hr⟩ : ∃ r, r = readQ s := ⟨_, rfl⟩
   rw [← hr]
   rw [lpQ_read, if_neg h16] at hr
   have hfree := splitC_free 10 s
   have hlenx : ∀ x ∈ splitC 10 s, x.length ≤ 16000 := by
    intro x hx
    have := splitC_le s x hx
    omega
   have hLn := splitC_len 10 s
   generalize splitC 10 s = L at *
   have hget := afterC_get 10 L
   have hlenA := afterC_len 10 L
   generalize hCC : afterC 10 L = CC at *
   obtain ⟨N, hN⟩ : ∃ N, N = L.length := ⟨_, rfl⟩
   rw [← hN] at hsa hLn
   have hN16 : N ≤ 16001 := by omega
   obtain ⟨w1, hw1⟩ : ∃ w1, w1 = w.alloc (.cells (CC.map str).toArray 9) := ⟨_, rfl⟩
   rw [← hw1] at hsa
   have hb1 : Below w.heap.size w w1 := by rw [hw1]; exact (Below.refl _ w).alloc (Nat.le_refl _) _
   have hsz1 : w1.heap.size = w.heap.size + 1 := by rw [hw1]; simp
   have hcell : ∀ j, (hj : j < L.length) → w1.cell? ⟨w.heap.size, j, none⟩ = some (str (if j + 1 < L.length then L[j] ++ [10] else L[j])) := by
    intro j hj
    have h1 := hget j hj
    unfold World.cell?
    rw [hw1, heap_alloc_new]
    simp [h1]
   have HS := Lib.hid hsa
   have Hcell := Lib.hid hcell
   have Hsz1 := Lib.hid hsz1
   have Hfree := Lib.hid hfree
   have Hlen := Lib.hid hlenx
   have HN := Lib.hid hN
   have Hr := Lib.hid hr
   have Hb1 := Lib.hid hb1
   clear hsa hcell hsz1 hfree hlenx hN hr hb1 hw1 hget hlenA hCC hLn hM h16
   go_enter Tryz.func43, Tryz.ntmps43
   go_wp2_with fail
   refine HS.out.mono ?_
   rintro e w2 ⟨rfl, rfl⟩
   go_wp2_with fail
   go_loopw [4, 18] (QrRel1 N r L w2 w) (fun _ iv _ => N - (intOf iv).toNat)
   case atStart => exact ⟨0, [], none, 0, 0, rfl, rfl, by omega, ⟨Hr.out.symm, rfl⟩, by omega, by omega, World.ownsRow_nil _ _ _ _, Below.refl _ _⟩
   case round =>
    obtain ⟨i, out, O, ol, oc, rfl, rfl, hi, hE, hol, hoc, hown, hbel⟩ := hrel
    by_cases hiN : i < N
    · have hil : i < L.length := by rw [← HN.out]; exact hiN
      have hcel0 := (hbel.cell (p := ⟨w.heap.size, i, none⟩) (by rw [Hsz1.out]; simp)).trans (Hcell.out i hil)
      have hx1 := Hfree.out _ (List.getElem_mem hil)
      have hx2 := Hlen.out _ (List.getElem_mem hil)
      have hst : lpQ (L[i]'hil :: L.drop (i + 1)) out = r := by rw [← List.drop_eq_getElem_cons hil]; exact hE.out.1
      have HOl := Lib.hid hE.out.2
      rw [lpQ_stepF] at hst
      have hend : lineE (L.drop (i + 1)) (L[i]'hil) = if (decide (i + 1 < N) && !softQ (trimQ (L[i]'hil))) = true then [13, 10] else [] := by
       unfold lineE
       congr 2
       by_cases hl : i + 1 < N
       · have : (L.drop (i + 1)).isEmpty = false := by
          cases h : L.drop (i + 1) with
          | nil => have := congrArg List.length h; rw [List.length_drop, ← HN.out] at this; simp at this; omega
          | cons _ _ => rfl
         rw [this, decide_eq_true hl]; rfl
       · have : (L.drop (i + 1)).isEmpty = true := by rw [List.drop_of_length_le (by rw [← HN.out]; omega)]; rfl
         rw [this, decide_eq_false hl]; rfl
      clear hE
      generalize L[i]'hil = x at *
      rw [← HN.out] at hcel0
      obtain ⟨E, hEq⟩ : ∃ E, E = lineE (L.drop (i + 1)) x := ⟨_, rfl⟩
      rw [← hEq] at hst hend
      clear hEq
      have hl0 : (L.drop (i + 1)).length < N := by rw [List.length_drop, ← HN.out]; omega
      obtain ⟨wh, hwh⟩ : ∃ wh, wh = decide (i + 1 < N) := ⟨_, rfl⟩
      obtain ⟨v, hv⟩ : ∃ v, v = if i + 1 < N then x ++ [10] else x := ⟨_, rfl⟩
      rw [← hv] at hcel0
      have hvw : v = if wh then x ++ [10] else x := by rw [hv, hwh]; by_cases hl : i + 1 < N <;> simp [hl]
      have kS := fun X => HasSuffix_any v [10] X (by unfold maxLen; rw [hv]; split <;> simp <;> omega)
      have hsv : Lib.hasSuffix v [10] = wh := by
       rw [hvw]
       cases wh with
       | true => exact suffix_one x 10
       | false => exact suffix_not x 10 hx1
      rw [hsv] at kS
      rw [← hwh] at hend
      have KS := Lib.hid kS
      have Hst := Lib.hid hst.symm
      have Hend := Lib.hid hend
      have Hv := Lib.hid hvw
      clear kS hst hend hx1 hsv hv hwh hvw
      go_wp2_with fail
      refine (KS.out _).mono ?_
      rintro e w3 ⟨rfl, rfl⟩
      clear KS
      go_upto_if 24 with (fail)
      go_cut [7] (fun s7 wx => s7 = str x ∧ wx.ownsRow w2.heap.size 5 1 (.slice O ol oc) ol (Lib.byteCells out) ∧ Below w2.heap.size w2 wx)
      case first =>
       cases wh
       case' true =>
        obtain rfl : v = x ++ [10] := Hv.out
        have l1 : (x ++ [10]).take x.length = x := by rw [List.take_left]
        go_wp2_with fail
        go_meet
       case' false =>
        obtain rfl : v = x := Hv.out
        go_wp2_with fail
        go_meet
       all_goals
        refine ⟨?_, hown, hbel⟩
        first | rfl | (try rw [l1])
      case rest =>
       obtain ⟨rfl, hown, hbel⟩ := hcut
       have HOl2 := HOl
       go_upto_block 2 with fail
       go_cut [7] (fun s7 wx => s7 = str (trimQ x) ∧ wx.ownsRow w2.heap.size 5 1 (.slice O ol oc) ol (Lib.byteCells out) ∧ Below w2.heap.size w2 wx)
       case first =>
        go_wp2_with fail
        go_loopw [7] (fun lv wr => QrRel2 x (.slice O ol oc) ol out w2 lv wr) (fun lv _ => stLenF lv)
        case atStart => exact ⟨x, rfl, rfl, Nat.le_refl _, hown, hbel⟩
        case round =>
         clear hown hbel
         obtain ⟨y, rfl, hT, hyl, hown, hbel⟩ := hrel
         by_cases hy : y = []
         · have e0 : (y == ([] : List UInt8)) = true := by rw [hy]; rfl
           have HT : Hid (y = trimQ x) := by show _ = _; rw [← hT.out, hy]; rfl
           clear hT hy
           go_wp2_with fail
           go_meet
           exact ⟨by rw [HT.out], hown, hbel⟩
         · have e0 : (y == ([] : List UInt8)) = false := by simpa using hy
           have hyp : 0 < y.length := List.length_pos_iff.2 hy
           obtain ⟨z, d, hyz, hz1, hz2⟩ := last_split y hy
           have q1 : (0 : Int) ≤ (y.length : Int) - 1 := by omega
           have q2 : (y.length : Int) - 1 ≤ (y.length : Int) := by omega
           have q3 : ((y.length : Int) - 1).toNat = y.length - 1 := by omega
           have kC := fun X => Contains_blank (y.drop (y.length - 1)) X (by rw [hz2]; rfl)
           have hgd : (y.drop (y.length - 1)).getD 0 0 = d := by rw [hz2]; rfl
           rw [hgd] at kC
           cases hcb : ([32, 9, 13] : List UInt8).contains d with
           | true =>
            have HT : Hid (trimQ (y.take (y.length - 1)) = trimQ x) := by
             show _ = _
             rw [hz1, ← trimQ_blank z d hcb, ← hyz]
             exact hT.out
            rw [hcb] at kC
            have KC := Lib.hid kC
            clear kC hT hyz hz1 hz2 hgd hcb hy
            go_wp2_with fail
            refine (KC.out _).mono ?_
            rintro e w4 ⟨rfl, rfl⟩
            go_wp2_with fail
            refine ⟨⟨y.take (y.length - 1), rfl, HT, by rw [List.length_take]; omega, hown, hbel⟩, by rw [stLenF_str, stLenF_str, List.length_take]; omega⟩
           | false =>
            have HT : Hid (y = trimQ x) := by
             show _ = _
             rw [← hT.out, hyz, trimQ_stop z d hcb]
            rw [hcb] at kC
            have KC := Lib.hid kC
            clear kC hT hyz hz1 hz2 hgd hcb hy
            go_wp2_with fail
            refine (KC.out _).mono ?_
            rintro e w4 ⟨rfl, rfl⟩
            go_wp2_with fail
            go_meet
            exact ⟨by rw [HT.out], hown, hbel⟩
       case rest =>
        clear hown hbel
        obtain ⟨rfl, hown, hbel⟩ := hcut
        have htl := trimQ_len x
        have hsf := soft_pos (trimQ x)
        have hbq : bareQ (trimQ x) = if softQ (trimQ x) then (trimQ x).take ((trimQ x).length - 1) else trimQ x := rfl
        have hst := Hst.out
        have hend := Hend.out
        generalize bareQ (trimQ x) = b at hst hbq
        have hsuf := fun W => HasSuffix_any (trimQ x) [61] W (by unfold maxLen; omega)
        rw [show Lib.hasSuffix (trimQ x) [61] = softQ (trimQ x) from rfl] at hsuf
        generalize softQ (trimQ x) = soft at hsf hbq hend hsuf
        generalize trimQ x = t at htl hsf hbq hsuf ⊢
        have Hsuf := Lib.hid hsuf
        obtain ⟨R, hR⟩ : ∃ R, (decQ b).map (out ++ ·) = R := ⟨_, rfl⟩
        rw [hR] at hst
        obtain ⟨wb, hwb⟩ : ∃ wb, wb = (wh && !soft) := ⟨_, rfl⟩
        rw [← hwb] at hend
        have hbl : b.length ≤ x.length := by
         rw [hbq]
         split
         · rw [List.length_take]; omega
         · exact htl
        have HR := Lib.hid hR
        have Hst2 := Lib.hid hst
        have Hend2 := Lib.hid hend
        have Hbq := Lib.hid hbq
        have Hsf := Lib.hid hsf
        have Hwb := Lib.hid hwb
        clear hR hst hend hbq hsf hwb hsuf Hst Hend Hv
        go_wp2_with fail
        refine (Hsuf.out _).mono ?_
        rintro e w3 ⟨rfl, rfl⟩
        go_upto_if 46 with (fail)
        go_cut [7, 8] (fun s7 s8 wx => s7 = str b ∧ s8 = .bool wb ∧ wx.ownsRow w2.heap.size 5 1 (.slice O ol oc) ol (Lib.byteCells out) ∧ Below w2.heap.size w2 wx)
        case first =>
         cases soft
         case' true =>
          have h1 : 1 ≤ t.length := Hsf.out rfl
          have q1 : (0 : Int) ≤ (t.length : Int) - 1 := by omega
          have q2 : (t.length : Int) - 1 ≤ (t.length : Int) := by omega
          have q3 : ((t.length : Int) - 1).toNat = t.length - 1 := by omega
          have hb : Hid (b = t.take (t.length - 1)) := Hbq.out
          have hw : Hid (wb = false) := by show _ = _; rw [Hwb.out]; simp
          go_wp2_with fail
          go_meet
         case' false =>
          have hb : Hid (b = t) := Hbq.out
          have hw : Hid (wb = wh) := by show _ = _; rw [Hwb.out]; simp
          go_wp2_with fail
          go_meet
         all_goals exact ⟨by rw [hb.out], by rw [hw.out], hown, hbel⟩
        case rest =>
         clear hown hbel
         obtain ⟨rfl, rfl, hown, hbel⟩ := hcut
         clear Hsuf Hbq Hsf Hwb htl
         go_wp2_with fail
         go_loopw [4, 7] (fun ov lv wr => QrRel3 16000 R w2 ov lv wr) (fun _ lv _ => stLenF lv)
         case atStart => exact ⟨b, out, O, ol, oc, rfl, rfl, ⟨HR.out, HOl2.out⟩, by omega, by omega, hoc, hown, hbel⟩
         case round =>
          clear hown hbel hol hoc HOl HOl2 HR hbl
          obtain ⟨b, out, O, ol, oc, rfl, rfl, hE, hbl, hol, hoc, hown, hbel⟩ := hrel
          by_cases hb0 : b = []
          · subst hb0
            have hR0 : R = some out := by rw [← hE.out.1]; simp [decQ]
            have Hol := Lib.hid hE.out.2
            have hr1 : Hid (r = if 4000 < (out ++ E).length then ([], 2) else lpQ (L.drop (i + 1)) (out ++ E)) := by
             show r = _; rw [Hst2.out, hR0]; rfl
            clear hR0 hE
            cases wb
            · obtain rfl : E = [] := Hend2.out
              have hr2 := hr1.out
              rw [List.append_nil, Hol.out] at hr2
              by_cases h4 : 4000 < ol
              · rw [if_pos h4] at hr2
                have hr := Lib.hid hr2
                clear hr2
                have d4 : decide ((4000 : Int) < (ol : Int)) = true := decide_eq_true (by omega)
                go_wp2_with fail
                go_ret2
                rw [hr.out]
                exact BytesResF.fail 2 (Hb1.out.trans (hbel.mono Hb1.out.size))
              · rw [if_neg h4] at hr2
                have hr := Lib.hid hr2.symm
                clear hr2
                have d4 : decide ((4000 : Int) < (ol : Int)) = false := decide_eq_false (by omega)
                have d5 : (ol : Int) ≤ 4000 := by omega
                go_wp2_with fail
                exact ⟨⟨i + 1, out, O, ol, oc, by go_num, rfl, by omega, ⟨hr.out, Hol.out⟩, by omega, hoc, hown, hbel⟩, by simp [intOf]; omega⟩
            · obtain rfl : E = [13, 10] := Hend2.out
              have hL : Hid ((out ++ [13, 10]).length = ol + 2) := by show _ = _; simp [Hol.out]
              have hr2 := hr1.out
              rw [hL.out] at hr2
              have HR2 := Lib.hid hr2
              clear hr2
              have h63 : ol + 2 ≤ maxLen := by unfold maxLen; omega
              have h47 : (ol + 2) * 1 ≤ 140737488355328 := by omega
              go_wp2_with (at_builtin; refine wpList_app rfl _ _ 22 rfl w2.heap.size 5 j0 (.int .u8 0) 1 1 Tryz.underlying22 hj0 hjz0 hjz1 hjz2 rfl (by decide) O ol oc (Lib.byteCells out) rfl (hown.alloc _) _ _ 2 2 [.int .u8 13, .int .u8 10] rfl (Sl.row _ _ 1 2 _ rfl) (two_u8 _ _) h63 h47 ?c4 ?_)
              case c4 => have := hbel.size; simp; omega
              intro S' c' w4 hown4 hb4 _
              have hc' := own_cap hown4
              have hbel4 := (hbel.alloc hbel.size _).trans hb4
              by_cases h4 : 4000 < ol + 2
              · have d4 : decide ((4000 : Int) < (ol : Int) + 2) = true := decide_eq_true (by omega)
                have hr : Hid (r = ([], 2)) := by show _ = _; rw [HR2.out, if_pos h4]
                go_wp2_with fail
                go_ret2
                rw [hr.out]
                exact BytesResF.fail 2 (Hb1.out.trans (hbel4.mono Hb1.out.size))
              · have d4 : decide ((4000 : Int) < (ol : Int) + 2) = false := decide_eq_false (by omega)
                have d5 : (ol : Int) + 2 ≤ 4000 := by omega
                have hr : Hid (lpQ (L.drop (i + 1)) (out ++ [13, 10]) = r) := by show _ = _; rw [HR2.out, if_neg h4]
                go_wp2_with fail
                exact ⟨⟨i + 1, out ++ [13, 10], S', ol + 2, c', by go_num, rfl, by omega, ⟨hr.out, hL.out⟩, by omega, hc', by rw [byteCells_append]; exact hown4, hbel4⟩, by simp [intOf]; omega⟩
          · have e0 : (b == ([] : List UInt8)) = false := by simpa using hb0
            have hp : 0 < b.length := List.length_pos_iff.2 hb0
            have hp1 : (1 : Int) ≤ (b.length : Int) := by omega
            have hx8 := nth_lt b 0
            have h63 : ol + 1 ≤ maxLen := by unfold maxLen; omega
            have h47 : (ol + 1) * 1 ≤ 140737488355328 := by omega
            by_cases h61 : nth b 0 = 61
            · have hx1 : ((nth b 0 : Int) != 61) = false := by simp [h61]
              have H61 := Lib.hid h61; clear h61
              by_cases h3 : b.length < 3
              · have d3 : decide ((b.length : Int) < 3) = true := decide_eq_true (by omega)
                have hR0 : R = none := by rw [← hE.out.1, decQ_short0 b hp H61.out h3]; rfl
                have hr : Hid (r = ([], 1)) := by show r = _; rw [Hst2.out, hR0]; rfl
                clear hR0
                go_wp2_with fail
                go_ret2
                rw [hr.out]
                exact BytesResF.fail 1 (Hb1.out.trans (hbel.mono Hb1.out.size))
              · have d3 : decide ((b.length : Int) < 3) = false := decide_eq_false (by omega)
                have d3' : (3 : Int) ≤ b.length := by omega
                have hb3 : 3 ≤ b.length := by omega
                have hhex := two_hex b hb3
                obtain ⟨t0, t1, t2⟩ := two_at b hb3
                have kT := fun X => Trim_hex ((b.take 3).drop 1) X (by rw [t0]; decide)
                simp only [hexSet] at kT hhex
                have hbad := decQ_bad0 b H61.out hb3
                have hok := decQ_ok0 b H61.out hb3
                have hpu := fun X => ParseUint_hex ((b.take 3).drop 1) X t0
                rw [t1, t2] at hpu
                have hmid : ∀ X, (Instr.slice 9 (str b) (some (.int .i64 1)) (some (.int .i64 3)) none).run Tryz.prog X = .ok (str ((b.take 3).drop 1)) X := fun X =>
                 run_slice_str_lh X 9 b .i64 .i64 1 3 Tryz.underlying9 (by omega) (by omega) (by omega)
                generalize (b.take 3).drop 1 = t3 at *
                obtain ⟨pq, hpq⟩ : ∃ pq, pq = (decide (0 ≤ hexQ (nth b 1)) && decide (0 ≤ hexQ (nth b 2))) := ⟨_, rfl⟩
                rw [← hpq] at hhex
                have va := val_lt ⟨nth b 1, nth_lt b 1⟩
                have vb := val_lt ⟨nth b 2, nth_lt b 2⟩
                simp only at va vb
                have hz256 : valQ (nth b 1) * 16 + valQ (nth b 2) < 256 := by omega
                generalize valQ (nth b 1) * 16 + valQ (nth b 2) = z at hok hpu hz256
                generalize hexQ (nth b 1) = u at *
                generalize hexQ (nth b 2) = v2 at *
                generalize htt : Lib.trimS t3 [48, 49, 50, 51, 52, 53, 54, 55, 56, 57, 65, 66, 67, 68, 69, 70, 97, 98, 99, 100, 101, 102] = tt at kT hhex
                have KT := Lib.hid kT
                clear kT htt t0 t1 t2 va vb
                cases pq
                · have hR0 : R = none := by
                   have hlt : u < 0 ∨ v2 < 0 := by
                    have := hpq.symm
                    simp only [Bool.and_eq_false_iff, decide_eq_false_iff_not] at this
                    omega
                   rw [← hE.out.1, hbad hlt]; rfl
                  have hr : Hid (r = ([], 1)) := by show r = _; rw [Hst2.out, hR0]; rfl
                  have hne : (tt != []) = true := by simpa using hhex
                  clear hR0 hbad hok hpu hpq
                  go_wp2_with fail
                  refine (KT.out _).mono ?_
                  rintro e w4 ⟨rfl, hb4⟩
                  have hbel4 := hbel.trans (hb4.mono hbel.size)
                  go_wp2_with fail
                  go_ret2
                  rw [hr.out]
                  exact BytesResF.fail 1 (Hb1.out.trans (hbel4.mono Hb1.out.size))
                · have hge : 0 ≤ u ∧ 0 ≤ v2 := by
                   have := hpq.symm
                   simpa only [Bool.and_eq_true, decide_eq_true_eq] using this
                  have hE2 : Hid ((decQ (b.drop 3)).map ((out ++ [UInt8.ofNat z]) ++ ·) = R) := by
                   show _ = R
                   rw [← hE.out.1, hok hge.1 hge.2, map_app]
                  have Hol := Lib.hid hE.out.2
                  have hne : (tt != []) = false := by
                   have : tt = [] := by simpa using hhex
                   rw [this]; rfl
                  have KP := Lib.hid (fun X => hpu X hge.1 hge.2)
                  clear hbad hok hpu hpq hge hE
                  go_wp2_with fail
                  refine (KT.out _).mono ?_
                  rintro e w4 ⟨rfl, hb4⟩
                  have hown4 := own_below hown hb4
                  have hbel4 := hbel.trans (hb4.mono hbel.size)
                  clear hown hbel hb4
                  go_wp2_with fail
                  refine (KP.out _).mono ?_
                  rintro e w5 ⟨rfl, hb5⟩
                  have hown := own_below hown4 hb5
                  have hbel := hbel4.trans (hb5.mono hbel4.size)
                  clear hown4 hbel4 hb5
                  have i4 : IntKind.u8.wrap (z : Int) = (z : Int) := wrap_u8N _ hz256
                  go_wp2_with fail
                  go_region_law (first
                   | (refine step_append_lies (w := (w5.alloc (.cells #[.int .u8 (z : Nat)] 5)).drew) (by rfl) (.tmp 79) (.tmp 82) 22 (by rfl) w2.heap.size 5 j0 (.int .u8 0) 1 1 Tryz.underlying22 hj0 hjz0 hjz1 hjz2 rfl (by decide) (.slice O ol oc) ol (Lib.byteCells out) (by simp [Act.eval]) (hown.alloc _).drew ⟨w5.heap.size, 0, none⟩ 1 1 [.int .u8 (z : Nat)] (by simp [Act.eval]) rfl (news_one w5 _ _) (one_u8 _) (by decide) h63 h47 (by have := hbel.size; simp; omega) _ rfl ?_; intro g cap w6 hown6 hgrow6 hat6 hlt6))
                  all_goals
                   have hc' := own_cap hown6
                   have hb6 := (hbel.alloc hbel.size _).drew.grown hgrow6 (by have := hbel.size; simp; omega) (fun k hk => (hown.lt k hk).1)
                   clear hgrow6 hat6 hlt6
                   go_wp2_with fail
                   go_simp
                   refine ⟨⟨_, _, _, _, ⟨b.drop 3, out ++ [UInt8.ofNat z], some ⟨g, 0, none⟩, ol + 1, cap, rfl, rfl, ⟨hE2.out, by simp [Hol.out]⟩, by simp; omega, by simp; omega, hc', ?_, hb6⟩, rfl, rfl, rfl, rfl⟩, by rw [stLenF_str, stLenF_str]; simp; omega⟩
                   rw [byteCells_append, byte_cell _ hz256]
                   exact hown6
            · have hx1 : ((nth b 0 : Int) != 61) = true := by simp; omega
              have hE1 := decQ_plain0 b hp h61
              have hE2 : Hid ((decQ (b.drop 1)).map ((out ++ [UInt8.ofNat (nth b 0)]) ++ ·) = R) := by
               show _ = R
               rw [← hE.out.1, hE1, map_app]
              have Hol := Lib.hid hE.out.2
              clear hE1 hE h61
              go_wp2_with fail
              go_region_law (first
               | (refine step_append_lies (w := (wr.alloc (.cells #[.int .u8 (nth b 0 : Nat)] 5)).drew) (by rfl) (.tmp 57) (.tmp 60) 22 (by rfl) w2.heap.size 5 j0 (.int .u8 0) 1 1 Tryz.underlying22 hj0 hjz0 hjz1 hjz2 rfl (by decide) (.slice O ol oc) ol (Lib.byteCells out) (by simp [Act.eval]) (hown.alloc _).drew ⟨wr.heap.size, 0, none⟩ 1 1 [.int .u8 (nth b 0 : Nat)] (by simp [Act.eval]) rfl (news_one wr _ _) (one_u8 _) (by decide) h63 h47 (by have := hbel.size; simp; omega) _ rfl ?_; intro g cap w6 hown6 hgrow6 hat6 hlt6))
              all_goals
               have hc' := own_cap hown6
               have hb6 := (hbel.alloc hbel.size _).drew.grown hgrow6 (by have := hbel.size; simp; omega) (fun k hk => (hown.lt k hk).1)
               clear hgrow6 hat6 hlt6
               go_wp2_with fail
               go_simp
               refine ⟨⟨_, _, _, _, ⟨b.drop 1, out ++ [UInt8.ofNat (nth b 0)], some ⟨g, 0, none⟩, ol + 1, cap, rfl, rfl, ⟨hE2.out, by simp [Hol.out]⟩, by simp; omega, by simp; omega, hc', ?_, hb6⟩, rfl, rfl, rfl, by rw [List.drop_one]⟩, by rw [stLenF_str, stLenF_str]; simp; omega⟩
               rw [byteCells_append, byte_cell _ hx8]
               exact hown6
    · obtain rfl : i = N := by omega
      have hrr : r = (out, 0) := by
       rw [← hE.out.1, List.drop_of_length_le (by rw [← HN.out]; omega)]
       rfl
      have Hrr := Lib.hid hrr
      have HOl := Lib.hid hE.out.2
      clear hrr hE
      go_wp2_with fail
      go_ret2
      rw [Hrr.out]
      refine ⟨O, oc, ?_, ?_, ?_, own_capR hown, Hb1.out.trans (hbel.mono Hb1.out.size)⟩
      · show _ = Ending.returned (.tuple #[.slice O out.length oc, .int .i64 ((0 : Nat) : Int)])
        rw [HOl.out]; rfl
      · show SlS _ _ _ _ out.length (Lib.byteCells out)
        rw [HOl.out]
        exact SlS.change (own_slsR hown) (fun b hb => ⟨Nat.le_trans Hb1.out.size hb.1, hb.2⟩) (fun _ _ => rfl)
      · show out.length ≤ oc
        rw [HOl.out]; exact hoc
end Go.Proofs.YtinfjdfhkfhgjaaGreatDoor
namespace Go.Proofs.YtinfjdfhkfhgjaaGreatDoor
open Go.RowKit
def lpA (border : List UInt8) : List (List UInt8) → Bool → List UInt8 → List (List UInt8) → List (List UInt8) × Nat
 | [], _, _, _ => ([], 1)
 | line :: r, opn, cur, out =>
  if bareM line = dash border then lpA border r true [] (if opn then out ++ [innerM cur] else out)
  else if bareM line = dash border ++ [45, 45] then ((if opn then out ++ [innerM cur] else out), 0)
  else lpA border r opn (cur ++ line) out
def linesA (s : List UInt8) : List (List UInt8) := afterC 10 (splitC 10 s)
theorem splitC_notM (c : UInt8) : ∀ (s : List UInt8), (∀ b ∈ s, b ≠ c) → splitC c s = [s]
 | [], _ => rfl
 | b :: s, h => by
  rw [splitC, if_neg (h b (by simp)), splitC_notM c s (fun x hx => h x (by simp [hx]))]
  rfl
theorem splitC_atM (c : UInt8) : ∀ (x y : List UInt8), (∀ b ∈ x, b ≠ c) → splitC c (x ++ c :: y) = x :: splitC c y
 | [], y, _ => by rw [List.nil_append, splitC, if_pos rfl]
 | b :: x, y, h => by
  rw [List.cons_append, splitC, if_neg (h b (by simp)), splitC_atM c x y (fun z hz => h z (by simp [hz]))]
  rfl
theorem splitC_neM (c : UInt8) : ∀ s : List UInt8, splitC c s ≠ []
 | [] => by simp [splitC]
 | b :: s => by
  rw [splitC]
  split
  · simp
  · have := splitC_neM c s
    cases h : splitC c s with
    | nil => exact absurd h this
    | cons x r => simp [consHead]
theorem linesA_not {s : List UInt8} (h : ∀ b ∈ s, b ≠ 10) : linesA s = [s] := by
 unfold linesA
 rw [splitC_notM 10 s h]
 rfl
theorem linesA_at {x y : List UInt8} (h : ∀ b ∈ x, b ≠ 10) : linesA (x ++ 10 :: y) = (x ++ [10]) :: linesA y := by
 unfold linesA
 rw [splitC_atM 10 x y h]
 have := splitC_neM 10 y
 cases hs : splitC 10 y with
 | nil => exact absurd hs this
 | cons z r => rfl
theorem line_not {s : List UInt8} (h : ∀ b ∈ s, b ≠ 10) : lineM s = (s, []) := by
 unfold lineM
 rw [indexByte_tw, if_neg (fun hm => h 10 hm rfl), if_pos (by decide)]
theorem split_lpA (border : List UInt8) : ∀ (n : Nat) (s : List UInt8) (f : Nat) (cur : Option (List UInt8)) (c0 : List UInt8) (out : List (List UInt8)), s.length ≤ n → s.length < f →
 splitF border f s cur out = lpA border (linesA s) cur.isSome (cur.getD c0) out := by
 have ho : ∀ (cur : Option (List UInt8)) (c0 : List UInt8) (out : List (List UInt8)), openM cur out = if cur.isSome then out ++ [innerM (cur.getD c0)] else out := by
  intro cur c0 out
  cases cur <;> simp [openM]
 intro n
 induction n with
 | zero =>
  intro s f cur c0 out hn hf
  obtain rfl : s = [] := List.eq_nil_of_length_eq_zero (by omega)
  obtain ⟨f, rfl⟩ : ∃ j, f = j + 1 := ⟨f - 1, by omega⟩
  rw [splitF, if_pos rfl, linesA_not (by simp), lpA, if_neg (by simp [bareM, Lib.trimRightS, dash]), if_neg (by simp [bareM, Lib.trimRightS, dash]), lpA]
 | succ n ih =>
  intro s f cur c0 out hn hf
  obtain ⟨f, rfl⟩ : ∃ j, f = j + 1 := ⟨f - 1, by omega⟩
  by_cases h0 : s = []
  · subst h0
    rw [splitF, if_pos rfl, linesA_not (by simp), lpA, if_neg (by simp [bareM, Lib.trimRightS, dash]), if_neg (by simp [bareM, Lib.trimRightS, dash]), lpA]
  · rw [splitF, if_neg h0]
    by_cases hm : (10 : UInt8) ∈ s
    · obtain ⟨x, y, rfl, hx⟩ := first_of s 10 hm
      rw [List.length_append, List.length_cons] at hn hf
      rw [line_app hx, linesA_at hx, lpA]
      simp only
      by_cases h1 : bareM (x ++ [10]) = dash border
      · rw [if_pos (show bareM (x ++ [10]) = [45, 45] ++ border from h1), if_pos h1, ih y f (some []) [] _ (by omega) (by omega), ho cur c0]
        rfl
      · rw [if_neg (show ¬ bareM (x ++ [10]) = [45, 45] ++ border from h1), if_neg h1]
        by_cases h2 : bareM (x ++ [10]) = dash border ++ [45, 45]
        · rw [if_pos (show bareM (x ++ [10]) = [45, 45] ++ border ++ [45, 45] from h2), if_pos h2, ho cur c0]
        · rw [if_neg (show ¬ bareM (x ++ [10]) = [45, 45] ++ border ++ [45, 45] from h2), if_neg h2, ih y f _ (c0 ++ (x ++ [10])) _ (by omega) (by omega)]
          cases cur <;> rfl
    · have hx : ∀ b ∈ s, b ≠ 10 := fun b hb e => hm (e ▸ hb)
      obtain ⟨f, rfl⟩ : ∃ j, f = j + 1 := ⟨f - 1, by have := List.length_pos_iff.2 h0; omega⟩
      have e0 : ∀ c o, splitF border (f + 1) [] c o = ([], 1) := fun c o => by rw [splitF, if_pos rfl]
      rw [line_not hx, linesA_not hx, lpA]
      simp only
      by_cases h1 : bareM s = dash border
      · rw [if_pos (show bareM s = [45, 45] ++ border from h1), if_pos h1, e0, lpA]
      · rw [if_neg (show ¬ bareM s = [45, 45] ++ border from h1), if_neg h1]
        by_cases h2 : bareM s = dash border ++ [45, 45]
        · rw [if_pos (show bareM s = [45, 45] ++ border ++ [45, 45] from h2), if_pos h2, ho cur c0]
        · rw [if_neg (show ¬ bareM s = [45, 45] ++ border ++ [45, 45] from h2), if_neg h2, e0, lpA]
theorem splitM_lpA {b border : List UInt8} (h1 : b.length ≤ 40000) (h2 : border ≠ []) (h3 : border.length ≤ 60) : splitM b border = lpA border (linesA b) false [] [] := by
 unfold splitM
 rw [if_neg (by omega), if_neg (by intro h; rcases h with h | h; exact h2 h; omega), split_lpA border b.length b _ none [] [] (Nat.le_refl _) (by omega)]
 rfl
/-- A mark stands in a row of texts where it stands in one of these. -/
theorem has_row {m : List UInt8} (hm : (10 : UInt8) ∉ m) (h0 : m ≠ []) : ∀ l : List (List UInt8), hasS (nlJ l) m = l.any (fun k => hasS k m)
 | [] => by
  cases h : hasS (nlJ []) m with
  | false => rfl
  | true =>
   obtain ⟨i, b, _, hi, hd⟩ := hasS_true h
   have := congrArg List.length hd
   simp [nlJ, joinC] at this
   have := List.length_pos_iff.2 h0
   omega
 | [x] => by simp [nlJ, joinC]
 | x :: y :: r => by
  have ih := has_row hm h0 (y :: r)
  rw [List.any_cons, ← ih]
  cases h : hasS (nlJ (x :: y :: r)) m with
  | true =>
   obtain ⟨i, b, _, hi, hd⟩ := hasS_true h
   have hI : hasI m (nlJ (x :: y :: r)) := ⟨(nlJ (x :: y :: r)).take i, b, by rw [List.append_assoc, ← hd, List.take_append_drop]⟩
   unfold nlJ at hI
   rw [joinC] at hI
   rcases hasI_split hm hI with h1 | h1
   · rw [hasS_of h1]; rfl
   · have : hasS (nlJ (y :: r)) m = true := hasS_of h1
     rw [this, Bool.or_true]
  | false =>
   have hn := hasS_false h
   have h1 : hasS x m = false := by
    cases hx : hasS x m with
    | false => rfl
    | true =>
     obtain ⟨i, b, _, hi, hd⟩ := hasS_true hx
     exact absurd (nl_mem m (x :: y :: r) x (by simp) ⟨x.take i, b, by rw [List.append_assoc, ← hd, List.take_append_drop]⟩) hn
   have h2 : hasS (nlJ (y :: r)) m = false := by
    cases hx : hasS (nlJ (y :: r)) m with
    | false => rfl
    | true =>
     obtain ⟨i, b, _, hi, hd⟩ := hasS_true hx
     refine absurd ?_ hn
     unfold nlJ
     rw [joinC]
     have : hasI m (joinC 10 (y :: r)) := ⟨(nlJ (y :: r)).take i, b, by rw [List.append_assoc, ← hd, List.take_append_drop]; rfl⟩
     exact hasI_right (hasI_right (s := [10]) this)
   rw [h1, h2]
   rfl
theorem run_toBytesS {P : Program} (w : World) (src dst e : TypeId) (l : List UInt8) (hs : P.underlying src = some .string) (hd : P.underlying dst = some (.slice e)) (he : P.underlying e = some (.int .u8)) (hl : l.length ≤ maxLen) :
 ∃ A c w', (convert src dst (str l)).run P w = .ok (.slice A l.length c) w' ∧ SlS (fun b => w.heap.size ≤ b ∧ b < w'.heap.size) w' 1 A l.length (Lib.byteCells l) ∧ l.length ≤ c ∧ c ≤ maxLen ∧ Below w.heap.size w w' := by
 obtain ⟨A, c, w', h1, h2, h3, h4, h5⟩ := run_toBytesM (P := P) w src dst e l hs hd he hl
 have h := run_bytes_of_string (P := P) w src dst e ⟨l.toArray⟩ hs hd he
 have k := h1.symm.trans h
 injection k with k1 k2
 injection k1 with kA
 refine ⟨A, c, w', h1, ⟨h2.1, fun hn => ?_⟩, h3, h4, h5⟩
 obtain ⟨b, off, e1, e2, e3⟩ := h2.2 hn
 refine ⟨b, off, e1, ⟨?_, e2⟩, e3⟩
 rw [e1] at kA
 injection kA with kA
 injection kA with kA
 rw [kA]
 exact Nat.le_refl _
/-- Lines, parts so far, whether one is open, and what it holds. -/
def SbRel (_w w1 : World) (N : Nat) (L : List (List UInt8)) (border : List UInt8) (R : List (List UInt8) × Nat) (v6 v7 v8 v17 : Value) (wr : World) : Prop :=
 ∃ (i c : Nat) (S : Option Addr) (vs : List Value) (out : List (List UInt8)) (opn : Bool) (cur : List UInt8), v6 = .slice S out.length c ∧ v7 = .bool opn ∧ v8 = str cur ∧ v17 = .int .i64 (i : Nat) ∧ i ≤ N ∧ out.length ≤ i ∧
  Hid (lpA border (L.drop i) opn cur out = R) ∧ Hid (cur.length + (L.drop i).flatten.length ≤ 40000) ∧ wr.ownsRow w1.heap.size 22 1 (.slice S out.length c) out.length vs ∧ SpRow w1.heap.size wr (.slice S out.length c) vs out ∧ Below w1.heap.size w1 wr
theorem after_flat (c : UInt8) : ∀ (l : List UInt8), (afterC c (splitC c l)).flatten = l
 | [] => rfl
 | b :: l => by
  have ih := after_flat c l
  rw [splitC]
  split
  · rename_i hb
    have hne := splitC_neM c l
    cases hs : splitC c l with
    | nil => exact absurd hs hne
    | cons x r =>
     rw [hs] at ih
     rw [afterC, List.flatten_cons, ih, hb]
     rfl
  · have hne := splitC_neM c l
    cases hs : splitC c l with
    | nil => exact absurd hs hne
    | cons x r =>
     rw [hs] at ih
     cases r with
     | nil => simp [consHead, afterC] at ih ⊢; exact ih
     | cons y r =>
      simp only [consHead, afterC, List.flatten_cons] at ih ⊢
      rw [← ih]
      simp
theorem SplitBy_any (b border : List UInt8) (A : Option Addr) (n c : Nat) (w : World) (hM : MaxLenOk w) (hb : By w w.heap.size A n b) (h4 : n ≤ 40000) (hbd : border.length ≤ 60) :
 Calls Tryz.prog 12 #[.slice A n c, str border] w (SplitRes (lpA border (linesA b) false [] []) w) := by
 obtain ⟨i0, hi0, hz0, hz1, hz2⟩ := info_parts infoBsM
 have hl := hb.len
 have hts := run_toStr (P := Tryz.prog) w 22 9 5 _ A n c b hb Tryz.underlying22 Tryz.underlying5 Tryz.underlying9
 have hsa := SplitAfter_one b w hM (by omega)
 obtain ⟨L, hL⟩ : ∃ L, L = linesA b := ⟨_, rfl⟩
 have hfl : L.flatten.length ≤ 40000 := by rw [hL]; unfold linesA; rw [after_flat]; omega
 have hLl : L.length = (splitC 10 b).length := by rw [hL]; unfold linesA; rw [afterC_len]
 have hLb : L.length ≤ 40001 := by have := splitC_len 10 b; omega
 unfold linesA at hL
 rw [← hL, ← hLl] at hsa
 rw [show linesA b = L from by rw [hL]; rfl]
 obtain ⟨R, hR⟩ : ∃ R, R = lpA border L false [] [] := ⟨_, rfl⟩
 rw [← hR]
 obtain ⟨N, hN⟩ : ∃ N, N = L.length := ⟨_, rfl⟩
 rw [← hN] at hsa hLb
 obtain ⟨W1, hW1⟩ : ∃ W1, W1 = w.alloc (.cells (L.map str).toArray 9) := ⟨_, rfl⟩
 have hb1 : Below w.heap.size w W1 := by rw [hW1]; exact (Below.refl _ w).alloc (Nat.le_refl _) _
 have hs1 : W1.heap.size = w.heap.size + 1 := by rw [hW1]; simp
 have hsl : Sl W1 W1.heap.size 1 (some ⟨w.heap.size, 0, none⟩) N (L.map str) := by
  rw [hs1, hW1]
  exact Sl.row w _ 1 N (L.map str) (by rw [List.length_map, hN, Nat.mul_one])
 rw [← hW1] at hsa
 have Hsa := Lib.hid hsa
 have Hsl := Lib.hid hsl
 have HR := Lib.hid hR
 have HN := Lib.hid hN
 have Hfl := Lib.hid hfl
 have Hb1 := Lib.hid hb1
 have Hs1 := Lib.hid hs1
 clear hsa hsl hR hN hfl hb1 hs1 hL hLl hb hl hW1 hM
 go_enter Tryz.func12, Tryz.ntmps12
 go_wp2_with fail
 refine Hsa.out.mono ?_
 rintro e w1 ⟨rfl, hw1⟩
 obtain rfl := hw1.symm
 go_wp2_with fail
 go_loopw [6, 7, 8, 17] (SbRel w W1 N L border R) (fun _ _ _ iv _ => N - (intOf iv).toNat)
 case atStart => exact ⟨0, 0, none, [], [], false, [], rfl, rfl, rfl, rfl, Nat.zero_le _, Nat.le_refl _, Lib.hid (by rw [List.drop_zero]; exact HR.out.symm), Lib.hid (by rw [List.drop_zero]; simpa using Hfl.out), World.ownsRow_nil _ _ _ _, SpRow.nil_ _ _ _, Below.refl _ _⟩
 case round =>
  clear HR Hfl
  obtain ⟨i, cS, S, vs, out, opn, cur, rfl, rfl, rfl, rfl, hi, hol, hE, hsz, hown, hrow, hbel⟩ := hrel
  by_cases hin : i < N
  · have hiL : i < L.length := by rw [← HN.out]; exact hin
    obtain ⟨line, hline⟩ : ∃ x, x = L[i] := ⟨_, rfl⟩
    have hdr : L.drop i = line :: L.drop (i + 1) := by rw [hline]; exact List.drop_eq_getElem_cons hiL
    have hcell : wr.cell? ⟨w.heap.size, i, none⟩ = some (str line) := by
     obtain ⟨g, off, e1, e2, e3⟩ := Hsl.out.2 (by omega)
     injection e1 with e1
     injection e1 with e1 e4
     subst e1
     subst e4
     have := e3 i (str line) (by rw [List.getElem?_map, List.getElem?_eq_getElem hiL, hline]; rfl)
     rw [Nat.zero_add] at this
     exact (hbel.cell (p := ⟨w.heap.size, i, none⟩) e2).trans this
    have hE2 := hE.out
    have hsz2 := hsz.out
    rw [hdr, lpA] at hE2
    rw [hdr, List.flatten_cons, List.length_append] at hsz2
    have hll : line.length ≤ 40000 := by omega
    have hcl : cur.length ≤ 40000 := by omega
    have hcll : cur.length + line.length ≤ 40000 := by omega
    have hTr := fun W => TrimRight_any line [32, 9, 13, 10] W (by unfold maxLen; omega) (by decide) (by decide)
    rw [show Lib.trimRightS line [32, 9, 13, 10] = bareM line from rfl] at hTr
    obtain ⟨bl, hbl⟩ : ∃ x, x = bareM line := ⟨_, rfl⟩
    rw [← hbl] at hTr hE2
    have HTr := Lib.hid hTr
    have HE2 := Lib.hid hE2
    have Hsz2 := Lib.hid hsz2
    have Hown := Lib.hid hown
    have Hrow := Lib.hid hrow
    clear hTr hE2 hE hsz hsz2 hdr hline hbl hown hrow
    have hr1 : bl = dash border ∨ bl = dash border ++ [45, 45] ∨ (bl ≠ dash border ∧ bl ≠ dash border ++ [45, 45]) := by
     by_cases h1 : bl = dash border
     · exact .inl h1
     · by_cases h2 : bl = dash border ++ [45, 45]
       · exact .inr (.inl h2)
       · exact .inr (.inr ⟨h1, h2⟩)
    rcases hr1 with h1 | h1 | ⟨h1, h2⟩
    · have dt1 : (bl == 45 :: 45 :: border) = true := by rw [h1]; simp [dash]
      have dt2 : (bl == 45 :: 45 :: (border ++ [45, 45])) = false := by
       rw [h1, beq_eq_false_iff_ne]
       intro e
       have := congrArg List.length e
       simp [dash] at this
      have hE3 := HE2.out
      rw [if_pos h1] at hE3
      clear h1
      go_wp2_with fail
      refine (HTr.out _).mono ?_
      rintro e w2 ⟨rfl, hb2⟩
      have hown2 := own_below Hown.out hb2
      have hrow2 := Hrow.out.below hb2
      have hbel2 := hbel.trans (hb2.mono hbel.size)
      have Hown2 := Lib.hid hown2
      have Hrow2 := Lib.hid hrow2
      clear hown2 hrow2 hb2
      obtain ⟨out2, hout2⟩ : ∃ x, x = (if opn then out ++ [innerM cur] else out) := ⟨_, rfl⟩
      rw [← hout2] at hE3
      have HE3 := Lib.hid hE3
      have Hout2 := Lib.hid hout2
      clear hE3 hout2
      go_upto_if 39 with fail
      go_cut [6, 8] from 40 to 58 (fun s6 s8 wx => ∃ S' c' vs', s6 = .slice S' out2.length c' ∧ out2.length ≤ i + 1 ∧ wx.ownsRow W1.heap.size 22 1 (.slice S' out2.length c') out2.length vs' ∧ SpRow W1.heap.size wx (.slice S' out2.length c') vs' out2 ∧ Below W1.heap.size W1 wx)
      case first =>
       cases opn with
       | false =>
        have ho : out2 = out := by rw [Hout2.out]; rfl
        have Ho := Lib.hid ho
        clear ho
        go_wp2_with fail
        go_meet
        rw [Ho.out]
        exact ⟨S, cS, vs, rfl, by omega, Hown2.out, Hrow2.out, hbel2⟩
       | true =>
        have ho : out2 = out ++ [innerM cur] := by rw [Hout2.out]; rfl
        have Ho := Lib.hid ho
        clear ho
        obtain ⟨q41, hq41⟩ : ∃ q, q = Lib.hasSuffix (cur) [10] := ⟨_, rfl⟩
        have hs41 := fun W => HasSuffix_any (cur) [10] W (by unfold maxLen; omega)
        rw [← hq41] at hs41
        have HS41 := Lib.hid hs41
        have hc41 : chopB (cur) 10 = if q41 = true then (cur).take ((cur).length - 1) else (cur) := by unfold chopB; rw [← hq41]
        have hl41 : q41 = true → 1 ≤ (cur).length := fun h => by
         have := Lib.hasSuffix_le (hq41 ▸ h : Lib.hasSuffix (cur) [10] = true)
         simpa using this
        have HC41 := Lib.hid hc41
        have HL41 := Lib.hid hl41
        clear hq41 hs41 hc41 hl41
        go_wp2_with fail
        refine (HS41.out _).mono ?_
        rintro e wc41 ⟨rfl, hwc41⟩
        obtain rfl := hwc41
        go_upto_if 41 with fail
        go_cut [8] from 42 to 46 (fun s8 wx => s8 = str (chopB (cur) 10) ∧ w2 = wx)
        case first =>
         have hcc := HC41.out
         cases q41 with
         | true =>
          rw [if_pos rfl] at hcc
          have h1l := HL41.out rfl
          have Hcc := Lib.hid hcc
          clear hcc
          go_wp2_with fail
          go_meet
          exact ⟨by rw [Hcc.out], rfl⟩
         | false =>
          rw [if_neg (by simp)] at hcc
          have Hcc := Lib.hid hcc
          clear hcc
          go_wp2_with fail
          go_meet
          exact ⟨by rw [Hcc.out], rfl⟩
        case rest =>
         obtain ⟨rfl, hwx⟩ := hcut
         subst hwx
         have hcu1 : (chopB cur 10).length ≤ 40000 := by
          unfold chopB
          split
          · rw [List.length_take]; omega
          · exact hcl
         have hinn : innerM cur = chopB (chopB cur 10) 13 := rfl
         obtain ⟨cu1, hcu⟩ : ∃ x, x = chopB cur 10 := ⟨_, rfl⟩
         rw [← hcu] at hcu1 hinn ⊢
         have Hinn := Lib.hid hinn
         clear hinn hcu HC41 HL41 HS41
         obtain ⟨q48, hq48⟩ : ∃ q, q = Lib.hasSuffix (cu1) [13] := ⟨_, rfl⟩
         have hs48 := fun W => HasSuffix_any (cu1) [13] W (by unfold maxLen; omega)
         rw [← hq48] at hs48
         have HS48 := Lib.hid hs48
         have hc48 : chopB (cu1) 13 = if q48 = true then (cu1).take ((cu1).length - 1) else (cu1) := by unfold chopB; rw [← hq48]
         have hl48 : q48 = true → 1 ≤ (cu1).length := fun h => by
          have := Lib.hasSuffix_le (hq48 ▸ h : Lib.hasSuffix (cu1) [13] = true)
          simpa using this
         have HC48 := Lib.hid hc48
         have HL48 := Lib.hid hl48
         clear hq48 hs48 hc48 hl48
         go_wp2_with fail
         refine (HS48.out _).mono ?_
         rintro e wc48 ⟨rfl, hwc48⟩
         obtain rfl := hwc48
         go_upto_if 48 with fail
         go_cut [8] from 49 to 53 (fun s8 wx => s8 = str (chopB (cu1) 13) ∧ w2 = wx)
         case first =>
          have hcc := HC48.out
          cases q48 with
          | true =>
           rw [if_pos rfl] at hcc
           have h1l := HL48.out rfl
           have Hcc := Lib.hid hcc
           clear hcc
           go_wp2_with fail
           go_meet
           exact ⟨by rw [Hcc.out], rfl⟩
          | false =>
           rw [if_neg (by simp)] at hcc
           have Hcc := Lib.hid hcc
           clear hcc
           go_wp2_with fail
           go_meet
           exact ⟨by rw [Hcc.out], rfl⟩
         case rest =>
          obtain ⟨rfl, hwx⟩ := hcut
          subst hwx
          have hcu2 : (chopB cu1 13).length ≤ 40000 := by
           unfold chopB
           split
           · rw [List.length_take]; omega
           · exact hcu1
          rw [← Hinn.out] at hcu2 ⊢
          obtain ⟨iq, hiq⟩ : ∃ q, q = innerM cur := ⟨_, rfl⟩
          rw [← hiq] at hcu2 ⊢
          have ho2 := Ho.out
          rw [← hiq] at ho2
          have Ho2 := Lib.hid ho2
          obtain ⟨A5, c5, w4, hconv, hs5, hc5, hm5, hb5⟩ := run_toBytesS (P := Tryz.prog) w2 9 22 5 iq Tryz.underlying9 Tryz.underlying22 Tryz.underlying5 (by unfold maxLen; omega)
          have hown4 := own_below Hown2.out hb5
          have hrow4 := Hrow2.out.below hb5
          have hbel4 := hbel2.trans (hb5.mono hbel2.size)
          have hs6 : SlS (fun b => W1.heap.size ≤ b ∧ b < (w4.alloc (.cells #[.slice A5 iq.length c5] 22)).heap.size ∧ Value.ownBlock (.slice S out.length cS) ≠ some b) (w4.alloc (.cells #[.slice A5 iq.length c5] 22)) 1 A5 iq.length (Lib.byteCells iq) := by
           refine SlS.change hs5 (fun b hb => ⟨Nat.le_trans hbel2.size hb.1, by have := hb.2; simp; omega, fun e => ?_⟩) (fun q hq => World.cell?_alloc_lt w4 _ q hq.2)
           have := (Hown2.out.lt b e).2
           have := hb.1
           omega
          have hrow5 := hrow4.below ((Below.refl w4.heap.size w4).alloc (Nat.le_refl _) (.cells #[.slice A5 iq.length c5] 22))
          have Hrow5 := Lib.hid hrow5
          have Hs6 := Lib.hid hs6
          have Hb4 := Lib.hid hbel4
          have hsz4 := hbel4.size
          have hob : out.length ≤ 40001 := by omega
          clear hs5 hs6 hrow4 hrow5 hb5 hbel4 ho2 hiq HC48 HL48 HS48 Hinn Ho
          go_wp2_with (at_builtin; refine wpListM_app2 rfl _ _ 29 rfl W1.heap.size 22 i0 (.slice none 0 0) 1 24 Tryz.underlying29 hi0 hz0 hz1 hz2 rfl (by decide) S out.length cS vs rfl (hown4.alloc _) _ _ 1 1 [.slice A5 iq.length c5] rfl (Sl.row _ _ 1 1 _ rfl) (fun u hu => by rw [List.mem_singleton.1 hu]; rfl) (by unfold maxLen; omega) (by omega) (by simp; omega) ?_)
          intro S' c' w6 hown6 hb6 hgr6 hat6
          have hrow6 := SpRow.app (v' := .slice S' (out.length + 1) c') Hrow5.out A5 c5 iq Hs6.out hc5 hm5 hgr6 (by simpa using hat6)
          have hol2 : out2.length = out.length + 1 := by rw [Ho2.out, List.length_append]; rfl
          have hb7 := (Hb4.out.alloc hsz4 (.cells #[.slice A5 iq.length c5] 22)).trans hb6
          have Hfin : Hid (∃ (S'' : Option Addr) (c'' : Nat) (vs' : List Value), Value.slice S' (out.length + 1) c' = .slice S'' out2.length c'' ∧ out2.length ≤ i + 1 ∧ w6.ownsRow W1.heap.size 22 1 (.slice S'' out2.length c'') out2.length vs' ∧ SpRow W1.heap.size w6 (.slice S'' out2.length c'') vs' out2 ∧ Below W1.heap.size W1 w6) :=
           Lib.hid ⟨S', c', _, by rw [hol2], by omega, by rw [hol2]; exact hown6, by rw [hol2, Ho2.out]; exact hrow6, hb7⟩
          clear hown6 hb6 hgr6 hat6 hrow6 hol2 hb7 hown4
          go_wp2_with fail
          go_meet
          exact Hfin.out
      case rest =>
       obtain ⟨S2, k2, vs2, rfl, hol3, hown3, hrow3, hbel3⟩ := hcut
       have Hown3 := Lib.hid hown3
       have Hrow3 := Lib.hid hrow3
       clear hown3 hrow3
       go_wp2_with fail
       exact ⟨⟨i + 1, k2, S2, vs2, out2, true, [], rfl, rfl, rfl, by go_num, by omega, hol3, HE3, Lib.hid (by have := Hsz2.out; show ([] : List UInt8).length + _ ≤ _; simp only [List.length_nil]; omega), Hown3.out, Hrow3.out, hbel3⟩, by simp [intOf]; omega⟩
    · have hne : dash border ++ [45, 45] ≠ dash border := by
       intro e
       have := congrArg List.length e
       simp at this
      have dt1 : (bl == 45 :: 45 :: border) = false := by
       rw [h1, beq_eq_false_iff_ne]
       exact hne
      have dt2 : (bl == 45 :: 45 :: (border ++ [45, 45])) = true := by rw [h1]; simp [dash]
      have hE3 := HE2.out
      rw [if_neg (by rw [h1]; exact hne), if_pos h1] at hE3
      clear h1 hne
      go_wp2_with fail
      refine (HTr.out _).mono ?_
      rintro e w2 ⟨rfl, hb2⟩
      have hown2 := own_below Hown.out hb2
      have hrow2 := Hrow.out.below hb2
      have hbel2 := hbel.trans (hb2.mono hbel.size)
      have Hown2 := Lib.hid hown2
      have Hrow2 := Lib.hid hrow2
      clear hown2 hrow2 hb2
      obtain ⟨out2, hout2⟩ : ∃ x, x = (if opn then out ++ [innerM cur] else out) := ⟨_, rfl⟩
      rw [← hout2] at hE3
      have HE3 := Lib.hid hE3
      have Hout2 := Lib.hid hout2
      clear hE3 hout2
      go_upto_if 39 with fail
      go_cut [6, 8] from 40 to 58 (fun s6 s8 wx => ∃ S' c' vs', s6 = .slice S' out2.length c' ∧ out2.length ≤ i + 1 ∧ wx.ownsRow W1.heap.size 22 1 (.slice S' out2.length c') out2.length vs' ∧ SpRow W1.heap.size wx (.slice S' out2.length c') vs' out2 ∧ Below W1.heap.size W1 wx)
      case first =>
       cases opn with
       | false =>
        have ho : out2 = out := by rw [Hout2.out]; rfl
        have Ho := Lib.hid ho
        clear ho
        go_wp2_with fail
        go_meet
        rw [Ho.out]
        exact ⟨S, cS, vs, rfl, by omega, Hown2.out, Hrow2.out, hbel2⟩
       | true =>
        have ho : out2 = out ++ [innerM cur] := by rw [Hout2.out]; rfl
        have Ho := Lib.hid ho
        clear ho
        obtain ⟨q41, hq41⟩ : ∃ q, q = Lib.hasSuffix (cur) [10] := ⟨_, rfl⟩
        have hs41 := fun W => HasSuffix_any (cur) [10] W (by unfold maxLen; omega)
        rw [← hq41] at hs41
        have HS41 := Lib.hid hs41
        have hc41 : chopB (cur) 10 = if q41 = true then (cur).take ((cur).length - 1) else (cur) := by unfold chopB; rw [← hq41]
        have hl41 : q41 = true → 1 ≤ (cur).length := fun h => by
         have := Lib.hasSuffix_le (hq41 ▸ h : Lib.hasSuffix (cur) [10] = true)
         simpa using this
        have HC41 := Lib.hid hc41
        have HL41 := Lib.hid hl41
        clear hq41 hs41 hc41 hl41
        go_wp2_with fail
        refine (HS41.out _).mono ?_
        rintro e wc41 ⟨rfl, hwc41⟩
        obtain rfl := hwc41
        go_upto_if 41 with fail
        go_cut [8] from 42 to 46 (fun s8 wx => s8 = str (chopB (cur) 10) ∧ w2 = wx)
        case first =>
         have hcc := HC41.out
         cases q41 with
         | true =>
          rw [if_pos rfl] at hcc
          have h1l := HL41.out rfl
          have Hcc := Lib.hid hcc
          clear hcc
          go_wp2_with fail
          go_meet
          exact ⟨by rw [Hcc.out], rfl⟩
         | false =>
          rw [if_neg (by simp)] at hcc
          have Hcc := Lib.hid hcc
          clear hcc
          go_wp2_with fail
          go_meet
          exact ⟨by rw [Hcc.out], rfl⟩
        case rest =>
         obtain ⟨rfl, hwx⟩ := hcut
         subst hwx
         have hcu1 : (chopB cur 10).length ≤ 40000 := by
          unfold chopB
          split
          · rw [List.length_take]; omega
          · exact hcl
         have hinn : innerM cur = chopB (chopB cur 10) 13 := rfl
         obtain ⟨cu1, hcu⟩ : ∃ x, x = chopB cur 10 := ⟨_, rfl⟩
         rw [← hcu] at hcu1 hinn ⊢
         have Hinn := Lib.hid hinn
         clear hinn hcu HC41 HL41 HS41
         obtain ⟨q48, hq48⟩ : ∃ q, q = Lib.hasSuffix (cu1) [13] := ⟨_, rfl⟩
         have hs48 := fun W => HasSuffix_any (cu1) [13] W (by unfold maxLen; omega)
         rw [← hq48] at hs48
         have HS48 := Lib.hid hs48
         have hc48 : chopB (cu1) 13 = if q48 = true then (cu1).take ((cu1).length - 1) else (cu1) := by unfold chopB; rw [← hq48]
         have hl48 : q48 = true → 1 ≤ (cu1).length := fun h => by
          have := Lib.hasSuffix_le (hq48 ▸ h : Lib.hasSuffix (cu1) [13] = true)
          simpa using this
         have HC48 := Lib.hid hc48
         have HL48 := Lib.hid hl48
         clear hq48 hs48 hc48 hl48
         go_wp2_with fail
         refine (HS48.out _).mono ?_
         rintro e wc48 ⟨rfl, hwc48⟩
         obtain rfl := hwc48
         go_upto_if 48 with fail
         go_cut [8] from 49 to 53 (fun s8 wx => s8 = str (chopB (cu1) 13) ∧ w2 = wx)
         case first =>
          have hcc := HC48.out
          cases q48 with
          | true =>
           rw [if_pos rfl] at hcc
           have h1l := HL48.out rfl
           have Hcc := Lib.hid hcc
           clear hcc
           go_wp2_with fail
           go_meet
           exact ⟨by rw [Hcc.out], rfl⟩
          | false =>
           rw [if_neg (by simp)] at hcc
           have Hcc := Lib.hid hcc
           clear hcc
           go_wp2_with fail
           go_meet
           exact ⟨by rw [Hcc.out], rfl⟩
         case rest =>
          obtain ⟨rfl, hwx⟩ := hcut
          subst hwx
          have hcu2 : (chopB cu1 13).length ≤ 40000 := by
           unfold chopB
           split
           · rw [List.length_take]; omega
           · exact hcu1
          rw [← Hinn.out] at hcu2 ⊢
          obtain ⟨iq, hiq⟩ : ∃ q, q = innerM cur := ⟨_, rfl⟩
          rw [← hiq] at hcu2 ⊢
          have ho2 := Ho.out
          rw [← hiq] at ho2
          have Ho2 := Lib.hid ho2
          obtain ⟨A5, c5, w4, hconv, hs5, hc5, hm5, hb5⟩ := run_toBytesS (P := Tryz.prog) w2 9 22 5 iq Tryz.underlying9 Tryz.underlying22 Tryz.underlying5 (by unfold maxLen; omega)
          have hown4 := own_below Hown2.out hb5
          have hrow4 := Hrow2.out.below hb5
          have hbel4 := hbel2.trans (hb5.mono hbel2.size)
          have hs6 : SlS (fun b => W1.heap.size ≤ b ∧ b < (w4.alloc (.cells #[.slice A5 iq.length c5] 22)).heap.size ∧ Value.ownBlock (.slice S out.length cS) ≠ some b) (w4.alloc (.cells #[.slice A5 iq.length c5] 22)) 1 A5 iq.length (Lib.byteCells iq) := by
           refine SlS.change hs5 (fun b hb => ⟨Nat.le_trans hbel2.size hb.1, by have := hb.2; simp; omega, fun e => ?_⟩) (fun q hq => World.cell?_alloc_lt w4 _ q hq.2)
           have := (Hown2.out.lt b e).2
           have := hb.1
           omega
          have hrow5 := hrow4.below ((Below.refl w4.heap.size w4).alloc (Nat.le_refl _) (.cells #[.slice A5 iq.length c5] 22))
          have Hrow5 := Lib.hid hrow5
          have Hs6 := Lib.hid hs6
          have Hb4 := Lib.hid hbel4
          have hsz4 := hbel4.size
          have hob : out.length ≤ 40001 := by omega
          clear hs5 hs6 hrow4 hrow5 hb5 hbel4 ho2 hiq HC48 HL48 HS48 Hinn Ho
          go_wp2_with (at_builtin; refine wpListM_app2 rfl _ _ 29 rfl W1.heap.size 22 i0 (.slice none 0 0) 1 24 Tryz.underlying29 hi0 hz0 hz1 hz2 rfl (by decide) S out.length cS vs rfl (hown4.alloc _) _ _ 1 1 [.slice A5 iq.length c5] rfl (Sl.row _ _ 1 1 _ rfl) (fun u hu => by rw [List.mem_singleton.1 hu]; rfl) (by unfold maxLen; omega) (by omega) (by simp; omega) ?_)
          intro S' c' w6 hown6 hb6 hgr6 hat6
          have hrow6 := SpRow.app (v' := .slice S' (out.length + 1) c') Hrow5.out A5 c5 iq Hs6.out hc5 hm5 hgr6 (by simpa using hat6)
          have hol2 : out2.length = out.length + 1 := by rw [Ho2.out, List.length_append]; rfl
          have hb7 := (Hb4.out.alloc hsz4 (.cells #[.slice A5 iq.length c5] 22)).trans hb6
          have Hfin : Hid (∃ (S'' : Option Addr) (c'' : Nat) (vs' : List Value), Value.slice S' (out.length + 1) c' = .slice S'' out2.length c'' ∧ out2.length ≤ i + 1 ∧ w6.ownsRow W1.heap.size 22 1 (.slice S'' out2.length c'') out2.length vs' ∧ SpRow W1.heap.size w6 (.slice S'' out2.length c'') vs' out2 ∧ Below W1.heap.size W1 w6) :=
           Lib.hid ⟨S', c', _, by rw [hol2], by omega, by rw [hol2]; exact hown6, by rw [hol2, Ho2.out]; exact hrow6, hb7⟩
          clear hown6 hb6 hgr6 hat6 hrow6 hol2 hb7 hown4
          go_wp2_with fail
          go_meet
          exact Hfin.out
      case rest =>
       obtain ⟨S2, k2, vs2, rfl, hol3, hown3, hrow3, hbel3⟩ := hcut
       have Hown3 := Lib.hid hown3
       have Hrow3 := Lib.hid hrow3
       clear hown3 hrow3
       have hbw := Hb1.out.trans (hbel3.mono Hb1.out.size)
       have Hbw := Lib.hid hbw
       clear hbw
       go_wp2_with fail
       go_ret2
       rw [← HE3.out]
       exact ⟨S2, k2, vs2, .slice S2 out2.length k2, rfl, SlS.change (own_slsM Hown3.out) (fun b hb => ⟨Nat.le_trans Hb1.out.size hb.1, hb.2⟩) (fun _ _ => rfl), Hrow3.out.mono Hb1.out.size, Hbw.out⟩
    · have dt1 : (bl == 45 :: 45 :: border) = false := beq_eq_false_iff_ne.2 h1
      have dt2 : (bl == 45 :: 45 :: (border ++ [45, 45])) = false := beq_eq_false_iff_ne.2 h2
      have hE3 := HE2.out
      rw [if_neg h1, if_neg h2] at hE3
      have HE3 := Lib.hid hE3
      have hsz3 : Hid ((cur ++ line).length + (L.drop (i + 1)).flatten.length ≤ 40000) := by
       show _ ≤ _
       have := Hsz2.out
       rw [List.length_append]
       omega
      clear hE3 h1 h2
      go_wp2_with fail
      refine (HTr.out _).mono ?_
      rintro e w2 ⟨rfl, hb2⟩
      have hown2 := own_below Hown.out hb2
      have hrow2 := Hrow.out.below hb2
      have hbel2 := hbel.trans (hb2.mono hbel.size)
      have Hown2 := Lib.hid hown2
      have Hrow2 := Lib.hid hrow2
      clear hown2 hrow2 hb2
      go_wp2_with fail
      exact ⟨⟨i + 1, cS, S, vs, out, opn, _, rfl, rfl, rfl, by go_num, by omega, by omega, HE3, hsz3, Hown2.out, Hrow2.out, hbel2⟩, by simp [intOf]; omega⟩
  · obtain rfl : i = N := by omega
    have hE2 := hE.out
    rw [List.drop_of_length_le (by rw [← HN.out]; exact Nat.le_refl _), lpA] at hE2
    have Hr1 := Lib.hid hE2
    have hbw := Hb1.out.trans (hbel.mono Hb1.out.size)
    clear hE2 hE hsz hown hrow
    go_wp2_with fail
    go_ret2
    rw [← Hr1.out]
    exact SplitRes.fail 1 hbw
end Go.Proofs.YtinfjdfhkfhgjaaGreatDoor

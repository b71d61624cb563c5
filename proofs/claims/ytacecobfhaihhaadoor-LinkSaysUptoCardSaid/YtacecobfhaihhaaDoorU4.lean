import Derived.Test.YtacecobfhaihhaaDoorU3
import Derived.Test.YtacecobfhaihhaaDoorU1
import Derived.OrdersHeld
import Derived.Shelf.GgClosure.StringsIndexFunc
import Derived.Laws.RangeString
import Derived.Laws.RangeAny
import Derived.Deep.Onto
import Derived.SliceStrings
import Derived.Test.YtacecobfhaihhaaDoorU2
import Derived.Test.YtacecobfhaihhaaDoorCards
import Derived.Test.YtacecobfhaihhaaDoorTie
import Derived.Deep.DeepHandedRow
import Derived.Lay
import Derived.Deep.DeepWitnessRowRef
import Derived.Laws.StructEq
namespace Go.Proofs.YtacecobfhaihhaaDoor
open Go.RowKit
attribute [local go_sem high] cut_u8 mid_u8

/-- link.Find: its links, its error. -/
def findEnd : Option (List LinkD) → List LinkD × Nat
  | none => ([], 2)
  | some ls => (ls, 0)
def findE (l : List UInt8) : List LinkD × Nat := if 4000 < l.length then ([], 2) else findEnd (findB l)
def FindOut (T : List LinkD × Nat) (w : World) (e : Ending) (w' : World) : Prop :=
  ∃ S c, e = .returned (.tuple #[.slice S T.1.length c, .int .i64 (T.2 : Nat)]) ∧ w'.ownsRow w.heap.size 33 3 (.slice S T.1.length c) T.1.length (linkC T.1) ∧ Below w.heap.size w w'
def FindRel (w : World) (s : Nat) (v : Value) (n : Nat) (l : List UInt8) (R : Option (List LinkD)) (wr : World) : Prop :=
  ∃ (r : List UInt8) (f : Nat) (os : List LinkD) (S : Option Addr) (m c : Nat), r <:+ l ∧ m = os.length ∧ ScanIs wr s v (n - r.length) (.slice S m c) ∧ wr.ownsRow w.heap.size 33 3 (.slice S m c) m (linkC os) ∧ Below w.heap.size w wr ∧
    Hid (findL n f r os = R) ∧ r.length ≤ f ∧ os.length ≤ 60
theorem findL_none {n f : Nat} {r : List UInt8} {os : List LinkD} (hr : r ≠ []) (h : 60 < (stepL n (stopD (pIs 60) r) os).2.length) : findL n (f + 1) r os = none := by
  conv => lhs; unfold findL
  rw [if_neg hr, if_pos h]
theorem findL_more {n f : Nat} {r : List UInt8} {os : List LinkD} (hr : r ≠ []) (h : ¬ 60 < (stepL n (stopD (pIs 60) r) os).2.length) : findL n (f + 1) r os = findL n f (stepL n (stopD (pIs 60) r) os).1 (stepL n (stopD (pIs 60) r) os).2 := by
  conv => lhs; unfold findL
  rw [if_neg hr, if_neg h]
theorem tagL_len (n : Nat) (r : List UInt8) (shut : Bool) (out : List LinkD) (pos : Nat) (h : pos + r.length = n) : (tagL n r shut out).1.length ≤ r.length ∧ (tagL n r shut out).1 <:+ r := by
  rw [tagL_eq n r shut out pos h]
  have := tagP_app r shut
  refine ⟨tagP_2_len r shut, ?_⟩
  show (tagP r shut).2 <:+ r
  conv => rhs; rw [this]
  exact List.suffix_append _ _
set_option maxRecDepth 100000 in
set_option maxHeartbeats 4000000 in
theorem Find_any (A : Option Addr) (n c : Nat) (l : List UInt8) (w : World) (hM : MaxLenOk w) (hb : By w w.heap.size A n l) (hc : n ≤ c) (_hcm : c ≤ maxLen) :
    Calls Tryd.prog 5 #[.slice A n c] w (FindOut (findE l) w) := by
  have hnl := hb.len
  by_cases h4 : 4000 < n
  · have hR : findE l = ([], 2) := by unfold findE; rw [if_pos (by omega)]
    rw [hR]
    clear hR
    go_enter Tryd.func5, Tryd.ntmps5
    go_wp2_with fail
    go_ret2
    exact ⟨none, 0, rfl, World.ownsRow_nil _ _ _ _, Below.refl _ _⟩
  · obtain ⟨R, hR⟩ : ∃ R, R = findL n n l [] := ⟨_, rfl⟩
    have hT : findE l = findEnd R := by
      unfold findE findB
      rw [if_neg (by omega), hnl, hR]
    rw [hT]
    have HR := Lib.hid hR
    have Hnl := Lib.hid hnl
    have hM0 := hM
    clear hR hT hnl hM
    go_enter Tryd.func5, Tryd.ntmps5
    go_wp2_with fail
    obtain ⟨s, hs⟩ : ∃ s, s = w.heap.size := ⟨_, rfl⟩
    rw [← hs]
    have Hs := Lib.hid hs
    clear hs
    go_loopw [] (fun wr => FindRel w s (.slice A n c) n l R wr) (fun wr => n - atOf wr s)
    case atStart =>
      refine ⟨l, n, [], none, 0, 0, List.suffix_refl l, rfl, ?_, World.ownsRow_nil _ _ _ _, (Below.refl _ w).alloc (Nat.le_refl _) _, HR.out.symm, by have := Hnl.out; omega, by simp⟩
      rw [Hs.out, Hnl.out, Nat.sub_self]
      exact heap_alloc_new w _
    case round =>
      obtain ⟨r, f, os, S, m, cS, hr, hm, hS, hrow, hbel, hE, hf, h60⟩ := hrel
      have hat := scan_at hS
      have hrn : r.length ≤ n := by have := hr.length_le; have := Hnl.out; omega
      by_cases hr0 : r = []
      · have hRs : R = some os := by
          rw [← hE.out, hr0]; cases f <;> rfl
        rw [hr0] at hS
        simp only [List.length_nil, Nat.sub_zero] at hS
        have y0 := hS.c0
        have y1 := hS.c1
        have y2 := hS.c2
        have HRs := Lib.hid hRs
        have Hm := Lib.hid hm
        clear hRs hr0 hE hat hm hS
        go_wp2_with fail
        go_ret2
        rw [HRs.out]
        refine ⟨S, cS, by rw [Hm.out]; rfl, ?_, hbel⟩
        rw [Hm.out] at hrow
        exact hrow
      · have hpos : 0 < r.length := List.length_pos_iff.2 hr0
        obtain ⟨f', rfl⟩ : ∃ f', f = f' + 1 := ⟨f - 1, by omega⟩
        have hnone := findL_none (n := n) (f := f') (r := r) (os := os) hr0
        have hmore := findL_more (n := n) (f := f') (r := r) (os := os) hr0
        have hby := hb.below hbel
        have hsB : w.heap.size ≤ s := by rw [Hs.out]; exact Nat.le_refl _
        have ht := till_rest 29 #[] (enters_of Tryd.func29 (by kernel_rfl) rfl) (pIs 60) _ predFind s A n c w.heap.size (.slice S m cS) l r wr hS hr hby hsB (by omega) (fun _ _ => trivial)
        have hr1 : stopD (pIs 60) r <:+ l := (stopD_suffix _ r).trans hr
        have hr1n := stopD_len (pIs 60) r
        obtain ⟨r1, hr1E⟩ : ∃ r1, r1 = stopD (pIs 60) r := ⟨_, rfl⟩
        rw [← hr1E] at ht hnone hmore hr1 hr1n
        obtain ⟨a1, ha1⟩ : ∃ a1, a1 = n - r1.length := ⟨_, rfl⟩
        rw [← ha1] at ht
        have ha1n : a1 ≤ n := by omega
        have ha0 : ∃ a0, a0 = n - r.length := ⟨_, rfl⟩
        obtain ⟨a0, ha0⟩ := ha0
        rw [← ha0] at hS hat
        have ha0n : a0 < n := by omega
        have y0 := hS.c0
        have y1 := hS.c1
        have Ht := Lib.hid ht
        have HS := Lib.hid hS
        have Hrow := Lib.hid hrow
        have Hm := Lib.hid hm
        have Hnone := Lib.hid hnone
        have Hmore := Lib.hid hmore
        have Ha1 := Lib.hid ha1
        have Ha0 := Lib.hid ha0
        have Hat := Lib.hid hat
        have HE := Lib.hid hE
        have Hr1E := Lib.hid hr1E
        have hbelsz := hbel.size
        clear ht hS hrow hm hnone hmore ha1 ha0 hat hE hr1E hr0 hby
        go_wp2_with fail
        refine Ht.out.mono ?_
        clear Ht y0 y1
        rintro e w2 ⟨rfl, hS2, hg2⟩
        have hbel2 : Below w.heap.size w w2 := hbel.grown hg2 hbelsz (fun k hk => by injection hk with hk; omega)
        have hrow2 := Hrow.out.kept hg2 (.inr (own_ne_scan HS.out Hrow.out))
        have hM2 : MaxLenOk w2 := hM0.below hbel2
        have hb2 := hb.below hbel2
        have y0 := hS2.c0
        have y1 := hS2.c1
        have yf := hS2.fz 1
        have y2 := hS2.c2
        have hcut := hb2.cutR hr1 hc
        rw [← Ha1.out] at hcut
        have hts := run_toStr (P := Tryd.prog) w2 22 9 5 _ (cutA A c a1 1) (n - a1) (c - a1) r1 hcut Tryd.underlying22 Tryd.underlying5 Tryd.underlying9
        have HS2 := Lib.hid hS2
        have Hrow2 := Lib.hid hrow2
        have HM2 := Lib.hid hM2
        have hsz2 := hbel2.size
        have hm60 : m ≤ 60 := by have := Hm.out; omega
        have hst : ∃ Q, Q = stepL n r1 os := ⟨_, rfl⟩
        clear hS2 hg2 hrow2 hM2 hcut HS Hrow
        have p1 := fun W => HasPrefix_any r1 [60, 33, 45, 45] W
        have p2 := fun W => HasPrefix_any r1 [60, 33] W
        have p3 := fun W => HasPrefix_any r1 [60, 63] W
        have hr1l : r1.length ≤ n := by omega
        by_cases c1 : Lib.hasPrefix r1 [60, 33, 45, 45] = true
        · have h4l : 4 ≤ r1.length := (List.isPrefixOf_iff_prefix.1 c1).length_le
          have hst : stepL n r1 os = (pastL [45, 45, 62] (r1.drop 4), os) := by unfold stepL; rw [if_pos c1]
          rw [c1] at p1
          have P1 := Lib.hid p1
          have hS3 : ScanIs (w2.setCell ⟨s, 1, none⟩ (.int .i64 ((a1 : Int) + 4))) s (.slice A n c) (n - (r1.drop 4).length) (.slice S m cS) := by
            have h := HS2.out.set1 (a1 + 4)
            have e : n - (r1.drop 4).length = a1 + 4 := by rw [List.length_drop]; have := Ha1.out; omega
            rw [e]
            exact h
          have hg3 := grown_set w2 s 1 (.int .i64 ((a1 : Int) + 4))
          have hbel3 := hbel2.setCell (p := ⟨s, 1, none⟩) hsB (.int .i64 ((a1 : Int) + 4))
          have hrow3 := Hrow2.out.kept hg3 (.inr (own_ne_scan HS2.out Hrow2.out))
          have hp := past_any [45, 45, 62] s A n c w.heap.size (.slice S m cS) l (r1.drop 4) _ (hM0.below hbel3) (by decide) hS3 ((List.drop_suffix 4 r1).trans hr1) (hb.below hbel3) hsB (by omega) hc
          have Hp := Lib.hid hp
          have HS3 := Lib.hid hS3
          have Hrow3 := Lib.hid hrow3
          have Hst0 := Lib.hid hst
          have ha14 : a1 + 4 ≤ n := by have := Ha1.out; omega
          clear hp hS3 hg3 hrow3 hst c1 p1 p2 p3
          go_wp2_with fail
          refine (P1.out _).mono ?_
          rintro e w2x ⟨rfl, rfl⟩
          go_wp2_with fail
          refine Hp.out.mono ?_
          clear Hp
          rintro e w9 ⟨rfl, hS9, hg9⟩
          have hbel9 : Below w.heap.size w w9 := hbel3.grown hg9 hbel3.size (fun k hk => by injection hk with hk; omega)
          have hrow9 := Hrow3.out.kept hg9 (.inr (own_ne_scan HS3.out Hrow3.out))
          obtain ⟨rr, hrrE⟩ : ∃ rr, rr = pastL [45, 45, 62] (r1.drop 4) := ⟨_, rfl⟩
          obtain ⟨os9, m9, S9, c9, hm9, hos9, hm9E, hS9E, hc9E⟩ : ∃ os9 m9 S9 c9, m9 = os9.length ∧ os9 = os ∧ m9 = m ∧ S9 = S ∧ c9 = cS := ⟨os, m, S, cS, Hm.out, rfl, rfl, rfl, rfl⟩
          have hst : stepL n r1 os = (rr, os9) := by rw [Hst0.out, hrrE, hos9]
          have hrr : rr <:+ l := by rw [hrrE]; exact ((pastL_suffix _ _).trans (List.drop_suffix 4 r1)).trans hr1
          have hrrlt : rr.length < r.length := by rw [hrrE]; have := (pastL_suffix [45, 45, 62] (r1.drop 4)).length_le; rw [List.length_drop] at this; omega
          rw [← hrrE, ← hS9E, ← hm9E, ← hc9E] at hS9
          rw [← hS9E, ← hm9E, ← hc9E, ← hos9] at hrow9
          clear hrrE hos9 hm9E hS9E hc9E HS3 Hrow3 hg9 y0 y1 y2 yf
          -- behind the switch
          have hbel9 : Below w.heap.size w w9 := hbel9
          have y2 := hS9.c2
          have HS9 := Lib.hid hS9
          have Hrow9 := Lib.hid hrow9
          have Hm9 := Lib.hid hm9
          have Hst := Lib.hid hst
          have Hat9 := Lib.hid (scan_at hS9)
          have hrr : rr <:+ l := hrr
          have hrrlt : rr.length < r.length := hrrlt
          clear hS9 hrow9 hm9 hst
          by_cases h60' : 60 < m9
          · go_wp2_with fail
            go_ret2
            have hRn : R = none := by
              rw [← HE.out]
              exact Hnone.out (by rw [Hst.out, ← Hm9.out]; exact h60')
            rw [hRn]
            exact ⟨none, 0, rfl, World.ownsRow_nil _ _ _ _, hbel9⟩
          · go_wp2_with fail
            refine ⟨⟨rr, f', os9, S9, m9, c9, hrr, Hm9.out, HS9.out, Hrow9.out, hbel9, ?_, by omega, by have := Hm9.out; omega⟩, ?_⟩
            · show _ = R
              rw [← HE.out, Hmore.out (by rw [Hst.out, ← Hm9.out]; exact h60'), Hst.out]
            · rw [Hat9.out, Hat.out, Ha0.out]
              omega
        · have c1f : Lib.hasPrefix r1 [60, 33, 45, 45] = false := by simpa using c1
          rw [c1f] at p1
          have P1 := Lib.hid p1
          by_cases c2 : (Lib.hasPrefix r1 [60, 33] || Lib.hasPrefix r1 [60, 63]) = true
          · have h2l : 2 ≤ r1.length := by
              rcases Bool.or_eq_true_iff.1 c2 with h | h
              · exact (List.isPrefixOf_iff_prefix.1 h).length_le
              · exact (List.isPrefixOf_iff_prefix.1 h).length_le
            have hst : stepL n r1 os = (pastL [62] r1, os) := by unfold stepL; rw [if_neg c1, if_pos c2]
            have hp := past_any [62] s A n c w.heap.size (.slice S m cS) l r1 w2 HM2.out (by decide) (by rw [← Ha1.out]; exact HS2.out) hr1 hb2 hsB (by omega) hc
            have Hp := Lib.hid hp
            have Hst0 := Lib.hid hst
            have hlt : (pastL [62] r1).length < r1.length := by
              unfold pastL
              split
              · simp; omega
              · rw [List.length_drop]; simp only [List.length_singleton]; omega
            have Hlt := Lib.hid hlt
            by_cases c2a : Lib.hasPrefix r1 [60, 33] = true
            case' pos =>
              rw [c2a] at p2
              have P2 := Lib.hid p2
              clear hp hst c1 c1f c2 c2a p1 p2 p3 hlt
              go_wp2_with fail
              refine (P1.out _).mono ?_
              rintro e w2x ⟨rfl, rfl⟩
              go_wp2_with fail
              refine (P2.out _).mono ?_
              rintro e w2x ⟨rfl, rfl⟩
              go_wp2_with fail
            case' neg =>
              have c2f : Lib.hasPrefix r1 [60, 33] = false := by simpa using c2a
              have c3 : Lib.hasPrefix r1 [60, 63] = true := by rw [c2f, Bool.false_or] at c2; exact c2
              rw [c2f] at p2
              rw [c3] at p3
              have P2 := Lib.hid p2
              have P3 := Lib.hid p3
              clear hp hst c1 c1f c2 c2a c2f c3 p1 p2 p3 hlt
              go_wp2_with fail
              refine (P1.out _).mono ?_
              rintro e w2x ⟨rfl, rfl⟩
              go_wp2_with fail
              refine (P2.out _).mono ?_
              rintro e w2x ⟨rfl, rfl⟩
              go_wp2_with fail
              refine (P3.out _).mono ?_
              rintro e w2x ⟨rfl, rfl⟩
              go_wp2_with fail
            all_goals
              refine Hp.out.mono ?_
              clear Hp
              rintro e w9 ⟨rfl, hS9, hg9⟩
              have hbel9 : Below w.heap.size w w9 := hbel2.grown hg9 hbel2.size (fun k hk => by injection hk with hk; omega)
              have hrow9 := Hrow2.out.kept hg9 (.inr (own_ne_scan HS2.out Hrow2.out))
              obtain ⟨rr, hrrE⟩ : ∃ rr, rr = pastL [62] r1 := ⟨_, rfl⟩
              obtain ⟨os9, m9, S9, c9, hm9, hos9, hm9E, hS9E, hc9E⟩ : ∃ os9 m9 S9 c9, m9 = os9.length ∧ os9 = os ∧ m9 = m ∧ S9 = S ∧ c9 = cS := ⟨os, m, S, cS, Hm.out, rfl, rfl, rfl, rfl⟩
              have hst : stepL n r1 os = (rr, os9) := by rw [Hst0.out, hrrE, hos9]
              have hrr : rr <:+ l := by rw [hrrE]; exact (pastL_suffix _ _).trans hr1
              have hrrlt : rr.length < r.length := by rw [hrrE]; have := Hlt.out; omega
              rw [← hrrE, ← hS9E, ← hm9E, ← hc9E] at hS9
              rw [← hS9E, ← hm9E, ← hc9E, ← hos9] at hrow9
              clear hrrE hos9 hm9E hS9E hc9E hg9 y0 y1 y2 yf
              -- behind the switch
              have hbel9 : Below w.heap.size w w9 := hbel9
              have y2 := hS9.c2
              have HS9 := Lib.hid hS9
              have Hrow9 := Lib.hid hrow9
              have Hm9 := Lib.hid hm9
              have Hst := Lib.hid hst
              have Hat9 := Lib.hid (scan_at hS9)
              have hrr : rr <:+ l := hrr
              have hrrlt : rr.length < r.length := hrrlt
              clear hS9 hrow9 hm9 hst
              by_cases h60' : 60 < m9
              · go_wp2_with fail
                go_ret2
                have hRn : R = none := by
                  rw [← HE.out]
                  exact Hnone.out (by rw [Hst.out, ← Hm9.out]; exact h60')
                rw [hRn]
                exact ⟨none, 0, rfl, World.ownsRow_nil _ _ _ _, hbel9⟩
              · go_wp2_with fail
                refine ⟨⟨rr, f', os9, S9, m9, c9, hrr, Hm9.out, HS9.out, Hrow9.out, hbel9, ?_, by omega, by have := Hm9.out; omega⟩, ?_⟩
                · show _ = R
                  rw [← HE.out, Hmore.out (by rw [Hst.out, ← Hm9.out]; exact h60'), Hst.out]
                · rw [Hat9.out, Hat.out, Ha0.out]
                  omega
          · have c2f : Lib.hasPrefix r1 [60, 33] = false ∧ Lib.hasPrefix r1 [60, 63] = false := by
              cases h : Lib.hasPrefix r1 [60, 33] <;> cases h' : Lib.hasPrefix r1 [60, 63] <;> simp_all
            rw [c2f.1] at p2
            rw [c2f.2] at p3
            have P2 := Lib.hid p2
            have P3 := Lib.hid p3
            clear p1 p2 p3 c1f c2f
            have hL1 := fun W => letter_any (nth r1 1) (nth_lt r1 1) W
            have hL2 := fun W => letter_any (nth r1 2) (nth_lt r1 2) W
            have hos1000 : os.length ≤ 1000 := by omega
            by_cases q1 : 1 < r1.length
            · by_cases q2 : isLet (nth r1 1) = true
              · rw [q2] at hL1
                have HL1 := Lib.hid hL1
                have hst : stepL n r1 os = tagL n (r1.drop 1) false os := by unfold stepL; rw [if_neg c1, if_neg c2, if_pos (by rw [q2]; simpa using q1)]
                have hS3 : ScanIs (w2.setCell ⟨s, 1, none⟩ (.int .i64 ((a1 : Int) + 1))) s (.slice A n c) (n - (r1.drop 1).length) (.slice S m cS) := by
                  have h := HS2.out.set1 (a1 + 1)
                  have e : n - (r1.drop 1).length = a1 + 1 := by rw [List.length_drop]; have := Ha1.out; omega
                  rw [e]
                  exact h
                have hg3 := grown_set w2 s 1 (.int .i64 ((a1 : Int) + 1))
                have hbel3 := hbel2.setCell (p := ⟨s, 1, none⟩) hsB (.int .i64 ((a1 : Int) + 1))
                have hrow3 := Hrow2.out.kept hg3 (.inr (own_ne_scan HS2.out Hrow2.out))
                have hdl : (r1.drop 1).length = r1.length - 1 := List.length_drop ..
                have htag := tag_any s A n c w.heap.size S m cS os l (r1.drop 1) false _ (hM0.below hbel3) hS3 Hm.out hrow3 hos1000 ((List.drop_suffix 1 r1).trans hr1) (hb.below hbel3) hsB hbel3.size (by omega) hc
                have htl := tagL_len n (r1.drop 1) false os (n - (r1.drop 1).length) (by omega)
                have Htag := Lib.hid htag
                have Hst0 := Lib.hid hst
                have Htl := Lib.hid htl
                have Hdl := Lib.hid hdl
                have ha14 : a1 + 1 ≤ n := by have := Ha1.out; omega
                clear htag hS3 hg3 hrow3 hst htl hdl
                clear c1 c2 hL1 hL2
                go_wp2_with fail
                refine (P1.out _).mono ?_
                rintro e w2x ⟨rfl, rfl⟩
                go_wp2_with fail
                refine (P2.out _).mono ?_
                rintro e w2x ⟨rfl, rfl⟩
                go_wp2_with fail
                refine (P3.out _).mono ?_
                rintro e w2x ⟨rfl, rfl⟩
                go_wp2_with fail
                refine (HL1.out _).mono ?_
                rintro e w2x ⟨rfl, rfl⟩
                go_wp2_with fail
                refine Htag.out.mono ?_
                clear Htag
                rintro e w9 ⟨rfl, S9, c9, hS9, hrow9, hb9⟩
                have hbel9 : Below w.heap.size w w9 := hbel3.trans hb9
                obtain ⟨rr, hrrE⟩ : ∃ rr, rr = (tagL n (r1.drop 1) false os).1 := ⟨_, rfl⟩
                obtain ⟨os9, hos9⟩ : ∃ os9, os9 = (tagL n (r1.drop 1) false os).2 := ⟨_, rfl⟩
                obtain ⟨m9, hm9⟩ : ∃ m9, m9 = os9.length := ⟨_, rfl⟩
                have hst : stepL n r1 os = (rr, os9) := by rw [Hst0.out, hrrE, hos9]
                have hrr : rr <:+ l := by rw [hrrE]; exact (Htl.out.2.trans (List.drop_suffix 1 r1)).trans hr1
                have hrrlt : rr.length < r.length := by rw [hrrE]; have := Htl.out.1; have := Hdl.out; omega
                rw [← hrrE, ← hos9, ← hm9] at hS9
                rw [← hos9, ← hm9] at hrow9
                clear hrrE hos9 hb9 y0 y1 y2 yf
                -- behind the switch
                have hbel9 : Below w.heap.size w w9 := hbel9
                have y2 := hS9.c2
                have HS9 := Lib.hid hS9
                have Hrow9 := Lib.hid hrow9
                have Hm9 := Lib.hid hm9
                have Hst := Lib.hid hst
                have Hat9 := Lib.hid (scan_at hS9)
                have hrr : rr <:+ l := hrr
                have hrrlt : rr.length < r.length := hrrlt
                clear hS9 hrow9 hm9 hst
                by_cases h60' : 60 < m9
                · go_wp2_with fail
                  go_ret2
                  have hRn : R = none := by
                    rw [← HE.out]
                    exact Hnone.out (by rw [Hst.out, ← Hm9.out]; exact h60')
                  rw [hRn]
                  exact ⟨none, 0, rfl, World.ownsRow_nil _ _ _ _, hbel9⟩
                · go_wp2_with fail
                  refine ⟨⟨rr, f', os9, S9, m9, c9, hrr, Hm9.out, HS9.out, Hrow9.out, hbel9, ?_, by omega, by have := Hm9.out; omega⟩, ?_⟩
                  · show _ = R
                    rw [← HE.out, Hmore.out (by rw [Hst.out, ← Hm9.out]; exact h60'), Hst.out]
                  · rw [Hat9.out, Hat.out, Ha0.out]
                    omega
              · have q2f : isLet (nth r1 1) = false := by simpa using q2
                rw [q2f] at hL1
                have HL1 := Lib.hid hL1
                by_cases q3 : 2 < r1.length
                · by_cases q4 : nth r1 1 = 47
                  · have d47 : (((nth r1 1 : Nat) : Int) == 47) = true := by rw [q4]; rfl
                    by_cases q5 : isLet (nth r1 2) = true
                    · rw [q5] at hL2
                      have HL2 := Lib.hid hL2
                      have hst : stepL n r1 os = tagL n (r1.drop 2) true os := by unfold stepL; rw [if_neg c1, if_neg c2, if_neg (by rw [q2f]; simp), if_pos (by rw [q5, q4]; simpa using q3)]
                      have Hst9 := Lib.hid hst
                      clear hst q4
                      have hst : stepL n r1 os = tagL n (r1.drop 2) true os := Hst9.out
                      have hS3 : ScanIs (w2.setCell ⟨s, 1, none⟩ (.int .i64 ((a1 : Int) + 2))) s (.slice A n c) (n - (r1.drop 2).length) (.slice S m cS) := by
                        have h := HS2.out.set1 (a1 + 2)
                        have e : n - (r1.drop 2).length = a1 + 2 := by rw [List.length_drop]; have := Ha1.out; omega
                        rw [e]
                        exact h
                      have hg3 := grown_set w2 s 1 (.int .i64 ((a1 : Int) + 2))
                      have hbel3 := hbel2.setCell (p := ⟨s, 1, none⟩) hsB (.int .i64 ((a1 : Int) + 2))
                      have hrow3 := Hrow2.out.kept hg3 (.inr (own_ne_scan HS2.out Hrow2.out))
                      have hdl : (r1.drop 2).length = r1.length - 2 := List.length_drop ..
                      have htag := tag_any s A n c w.heap.size S m cS os l (r1.drop 2) true _ (hM0.below hbel3) hS3 Hm.out hrow3 hos1000 ((List.drop_suffix 2 r1).trans hr1) (hb.below hbel3) hsB hbel3.size (by omega) hc
                      have htl := tagL_len n (r1.drop 2) true os (n - (r1.drop 2).length) (by omega)
                      have Htag := Lib.hid htag
                      have Hst0 := Lib.hid hst
                      have Htl := Lib.hid htl
                      have Hdl := Lib.hid hdl
                      have ha14 : a1 + 2 ≤ n := by have := Ha1.out; omega
                      clear htag hS3 hg3 hrow3 hst htl hdl
                      clear c1 c2 hL1 hL2
                      go_wp2_with fail
                      refine (P1.out _).mono ?_
                      rintro e w2x ⟨rfl, rfl⟩
                      go_wp2_with fail
                      refine (P2.out _).mono ?_
                      rintro e w2x ⟨rfl, rfl⟩
                      go_wp2_with fail
                      refine (P3.out _).mono ?_
                      rintro e w2x ⟨rfl, rfl⟩
                      go_wp2_with fail
                      refine (HL1.out _).mono ?_
                      rintro e w2x ⟨rfl, rfl⟩
                      go_wp2_with fail
                      refine (HL2.out _).mono ?_
                      rintro e w2x ⟨rfl, rfl⟩
                      go_wp2_with fail
                      refine Htag.out.mono ?_
                      clear Htag
                      rintro e w9 ⟨rfl, S9, c9, hS9, hrow9, hb9⟩
                      have hbel9 : Below w.heap.size w w9 := hbel3.trans hb9
                      obtain ⟨rr, hrrE⟩ : ∃ rr, rr = (tagL n (r1.drop 2) true os).1 := ⟨_, rfl⟩
                      obtain ⟨os9, hos9⟩ : ∃ os9, os9 = (tagL n (r1.drop 2) true os).2 := ⟨_, rfl⟩
                      obtain ⟨m9, hm9⟩ : ∃ m9, m9 = os9.length := ⟨_, rfl⟩
                      have hst : stepL n r1 os = (rr, os9) := by rw [Hst0.out, hrrE, hos9]
                      have hrr : rr <:+ l := by rw [hrrE]; exact (Htl.out.2.trans (List.drop_suffix 2 r1)).trans hr1
                      have hrrlt : rr.length < r.length := by rw [hrrE]; have := Htl.out.1; have := Hdl.out; omega
                      rw [← hrrE, ← hos9, ← hm9] at hS9
                      rw [← hos9, ← hm9] at hrow9
                      clear hrrE hos9 hb9 y0 y1 y2 yf
                      -- behind the switch
                      have hbel9 : Below w.heap.size w w9 := hbel9
                      have y2 := hS9.c2
                      have HS9 := Lib.hid hS9
                      have Hrow9 := Lib.hid hrow9
                      have Hm9 := Lib.hid hm9
                      have Hst := Lib.hid hst
                      have Hat9 := Lib.hid (scan_at hS9)
                      have hrr : rr <:+ l := hrr
                      have hrrlt : rr.length < r.length := hrrlt
                      clear hS9 hrow9 hm9 hst
                      by_cases h60' : 60 < m9
                      · go_wp2_with fail
                        go_ret2
                        have hRn : R = none := by
                          rw [← HE.out]
                          exact Hnone.out (by rw [Hst.out, ← Hm9.out]; exact h60')
                        rw [hRn]
                        exact ⟨none, 0, rfl, World.ownsRow_nil _ _ _ _, hbel9⟩
                      · go_wp2_with fail
                        refine ⟨⟨rr, f', os9, S9, m9, c9, hrr, Hm9.out, HS9.out, Hrow9.out, hbel9, ?_, by omega, by have := Hm9.out; omega⟩, ?_⟩
                        · show _ = R
                          rw [← HE.out, Hmore.out (by rw [Hst.out, ← Hm9.out]; exact h60'), Hst.out]
                        · rw [Hat9.out, Hat.out, Ha0.out]
                          omega
                    · have q5f : isLet (nth r1 2) = false := by simpa using q5
                      rw [q5f] at hL2
                      have HL2 := Lib.hid hL2
                      have hst : stepL n r1 os = (r1.drop 1, os) := by unfold stepL; rw [if_neg c1, if_neg c2, if_neg (by rw [q2f]; simp), if_neg (by rw [q5f]; simp)]
                      have Hst9 := Lib.hid hst
                      clear hst q4
                      have hst : stepL n r1 os = (r1.drop 1, os) := Hst9.out
                      have b0 : (r1 == ([] : List UInt8)) = false := by cases r1 with | nil => simp at q1 | cons _ _ => rfl
                      have hl1 : 1 ≤ r1.length := by cases r1 with | nil => cases b0 | cons _ _ => simp
                      obtain ⟨rr, hrrE⟩ : ∃ rr, rr = r1.drop 1 := ⟨_, rfl⟩
                      have hrrl : rr.length = r1.length - 1 := by rw [hrrE, List.length_drop]
                      have ha14 : a1 + 1 ≤ n := by have := Ha1.out; omega
                      have hS9 : ScanIs (w2.setCell ⟨s, 1, none⟩ (.int .i64 ((a1 : Int) + 1))) s (.slice A n c) (n - rr.length) (.slice S m cS) := by
                        have h := HS2.out.set1 (a1 + 1)
                        have e : n - rr.length = a1 + 1 := by rw [hrrl]; have := Ha1.out; omega
                        rw [e]
                        exact h
                      have hbel9 := hbel2.setCell (p := ⟨s, 1, none⟩) hsB (.int .i64 ((a1 : Int) + 1))
                      have hrow9 := Hrow2.out.kept (grown_set w2 s 1 (.int .i64 ((a1 : Int) + 1))) (.inr (own_ne_scan HS2.out Hrow2.out))
                      obtain ⟨os9, m9, S9, c9, hm9, hos9, hm9E, hS9E, hc9E⟩ : ∃ os9 m9 S9 c9, m9 = os9.length ∧ os9 = os ∧ m9 = m ∧ S9 = S ∧ c9 = cS := ⟨os, m, S, cS, Hm.out, rfl, rfl, rfl, rfl⟩
                      have hst : stepL n r1 os = (rr, os9) := by rw [hst, hrrE, hos9]
                      have hrr : rr <:+ l := by rw [hrrE]; exact (List.drop_suffix 1 r1).trans hr1
                      have hrrlt : rr.length < r.length := by omega
                      subst hos9 hm9E hS9E hc9E
                      clear hrrE hrrl
                      clear c1 c2 hL1 hL2
                      go_wp2_with fail
                      refine (P1.out _).mono ?_
                      rintro e w2x ⟨rfl, rfl⟩
                      go_wp2_with fail
                      refine (P2.out _).mono ?_
                      rintro e w2x ⟨rfl, rfl⟩
                      go_wp2_with fail
                      refine (P3.out _).mono ?_
                      rintro e w2x ⟨rfl, rfl⟩
                      go_wp2_with fail
                      refine (HL1.out _).mono ?_
                      rintro e w2x ⟨rfl, rfl⟩
                      go_wp2_with fail
                      refine (HL2.out _).mono ?_
                      rintro e w2x ⟨rfl, rfl⟩
                      -- behind the switch
                      have hbel9 : Below w.heap.size w (w2.setCell ⟨s, 1, none⟩ (.int .i64 ((a1 : Int) + 1))) := hbel9
                      have y2 := hS9.c2
                      have HS9 := Lib.hid hS9
                      have Hrow9 := Lib.hid hrow9
                      have Hm9 := Lib.hid hm9
                      have Hst := Lib.hid hst
                      have Hat9 := Lib.hid (scan_at hS9)
                      have hrr : rr <:+ l := hrr
                      have hrrlt : rr.length < r.length := hrrlt
                      clear hS9 hrow9 hm9 hst
                      by_cases h60' : 60 < m9
                      · exact absurd h60' (by omega)
                      · go_wp2_with fail
                        refine ⟨⟨rr, f', os9, S9, m9, c9, hrr, Hm9.out, HS9.out, Hrow9.out, hbel9, ?_, by omega, by have := Hm9.out; omega⟩, ?_⟩
                        · show _ = R
                          rw [← HE.out, Hmore.out (by rw [Hst.out, ← Hm9.out]; exact h60'), Hst.out]
                        · rw [Hat9.out, Hat.out, Ha0.out]
                          omega
                  · have d47 : (((nth r1 1 : Nat) : Int) == 47) = false := by rw [beq_eq_false_iff_ne]; omega
                    have q4b : (nth r1 1 == 47) = false := by simpa using q4
                    have hst : stepL n r1 os = (r1.drop 1, os) := by unfold stepL; rw [if_neg c1, if_neg c2, if_neg (by rw [q2f]; simp), if_neg (by rw [q4b]; simp)]
                    have Hst9 := Lib.hid hst
                    clear hst q4 q4b
                    have hst : stepL n r1 os = (r1.drop 1, os) := Hst9.out
                    have b0 : (r1 == ([] : List UInt8)) = false := by cases r1 with | nil => simp at q1 | cons _ _ => rfl
                    have hl1 : 1 ≤ r1.length := by cases r1 with | nil => cases b0 | cons _ _ => simp
                    obtain ⟨rr, hrrE⟩ : ∃ rr, rr = r1.drop 1 := ⟨_, rfl⟩
                    have hrrl : rr.length = r1.length - 1 := by rw [hrrE, List.length_drop]
                    have ha14 : a1 + 1 ≤ n := by have := Ha1.out; omega
                    have hS9 : ScanIs (w2.setCell ⟨s, 1, none⟩ (.int .i64 ((a1 : Int) + 1))) s (.slice A n c) (n - rr.length) (.slice S m cS) := by
                      have h := HS2.out.set1 (a1 + 1)
                      have e : n - rr.length = a1 + 1 := by rw [hrrl]; have := Ha1.out; omega
                      rw [e]
                      exact h
                    have hbel9 := hbel2.setCell (p := ⟨s, 1, none⟩) hsB (.int .i64 ((a1 : Int) + 1))
                    have hrow9 := Hrow2.out.kept (grown_set w2 s 1 (.int .i64 ((a1 : Int) + 1))) (.inr (own_ne_scan HS2.out Hrow2.out))
                    obtain ⟨os9, m9, S9, c9, hm9, hos9, hm9E, hS9E, hc9E⟩ : ∃ os9 m9 S9 c9, m9 = os9.length ∧ os9 = os ∧ m9 = m ∧ S9 = S ∧ c9 = cS := ⟨os, m, S, cS, Hm.out, rfl, rfl, rfl, rfl⟩
                    have hst : stepL n r1 os = (rr, os9) := by rw [hst, hrrE, hos9]
                    have hrr : rr <:+ l := by rw [hrrE]; exact (List.drop_suffix 1 r1).trans hr1
                    have hrrlt : rr.length < r.length := by omega
                    subst hos9 hm9E hS9E hc9E
                    clear hrrE hrrl
                    clear c1 c2 hL1 hL2
                    go_wp2_with fail
                    refine (P1.out _).mono ?_
                    rintro e w2x ⟨rfl, rfl⟩
                    go_wp2_with fail
                    refine (P2.out _).mono ?_
                    rintro e w2x ⟨rfl, rfl⟩
                    go_wp2_with fail
                    refine (P3.out _).mono ?_
                    rintro e w2x ⟨rfl, rfl⟩
                    go_wp2_with fail
                    refine (HL1.out _).mono ?_
                    rintro e w2x ⟨rfl, rfl⟩
                    -- behind the switch
                    have hbel9 : Below w.heap.size w (w2.setCell ⟨s, 1, none⟩ (.int .i64 ((a1 : Int) + 1))) := hbel9
                    have y2 := hS9.c2
                    have HS9 := Lib.hid hS9
                    have Hrow9 := Lib.hid hrow9
                    have Hm9 := Lib.hid hm9
                    have Hst := Lib.hid hst
                    have Hat9 := Lib.hid (scan_at hS9)
                    have hrr : rr <:+ l := hrr
                    have hrrlt : rr.length < r.length := hrrlt
                    clear hS9 hrow9 hm9 hst
                    by_cases h60' : 60 < m9
                    · exact absurd h60' (by omega)
                    · go_wp2_with fail
                      refine ⟨⟨rr, f', os9, S9, m9, c9, hrr, Hm9.out, HS9.out, Hrow9.out, hbel9, ?_, by omega, by have := Hm9.out; omega⟩, ?_⟩
                      · show _ = R
                        rw [← HE.out, Hmore.out (by rw [Hst.out, ← Hm9.out]; exact h60'), Hst.out]
                      · rw [Hat9.out, Hat.out, Ha0.out]
                        omega
                · have q3f : ¬ ((decide (2 < r1.length) && nth r1 1 == 47 && isLet (nth r1 2)) = true) := by
                    have : decide (2 < r1.length) = false := by simpa using q3
                    rw [this]; simp
                  have hst : stepL n r1 os = (r1.drop 1, os) := by unfold stepL; rw [if_neg c1, if_neg c2, if_neg (by rw [q2f]; simp), if_neg q3f]
                  have Hst9 := Lib.hid hst
                  clear hst q3f
                  have hst : stepL n r1 os = (r1.drop 1, os) := Hst9.out
                  have b0 : (r1 == ([] : List UInt8)) = false := by cases r1 with | nil => simp at q1 | cons _ _ => rfl
                  have hl1 : 1 ≤ r1.length := by cases r1 with | nil => cases b0 | cons _ _ => simp
                  obtain ⟨rr, hrrE⟩ : ∃ rr, rr = r1.drop 1 := ⟨_, rfl⟩
                  have hrrl : rr.length = r1.length - 1 := by rw [hrrE, List.length_drop]
                  have ha14 : a1 + 1 ≤ n := by have := Ha1.out; omega
                  have hS9 : ScanIs (w2.setCell ⟨s, 1, none⟩ (.int .i64 ((a1 : Int) + 1))) s (.slice A n c) (n - rr.length) (.slice S m cS) := by
                    have h := HS2.out.set1 (a1 + 1)
                    have e : n - rr.length = a1 + 1 := by rw [hrrl]; have := Ha1.out; omega
                    rw [e]
                    exact h
                  have hbel9 := hbel2.setCell (p := ⟨s, 1, none⟩) hsB (.int .i64 ((a1 : Int) + 1))
                  have hrow9 := Hrow2.out.kept (grown_set w2 s 1 (.int .i64 ((a1 : Int) + 1))) (.inr (own_ne_scan HS2.out Hrow2.out))
                  obtain ⟨os9, m9, S9, c9, hm9, hos9, hm9E, hS9E, hc9E⟩ : ∃ os9 m9 S9 c9, m9 = os9.length ∧ os9 = os ∧ m9 = m ∧ S9 = S ∧ c9 = cS := ⟨os, m, S, cS, Hm.out, rfl, rfl, rfl, rfl⟩
                  have hst : stepL n r1 os = (rr, os9) := by rw [hst, hrrE, hos9]
                  have hrr : rr <:+ l := by rw [hrrE]; exact (List.drop_suffix 1 r1).trans hr1
                  have hrrlt : rr.length < r.length := by omega
                  subst hos9 hm9E hS9E hc9E
                  clear hrrE hrrl
                  clear c1 c2 hL1 hL2
                  go_wp2_with fail
                  refine (P1.out _).mono ?_
                  rintro e w2x ⟨rfl, rfl⟩
                  go_wp2_with fail
                  refine (P2.out _).mono ?_
                  rintro e w2x ⟨rfl, rfl⟩
                  go_wp2_with fail
                  refine (P3.out _).mono ?_
                  rintro e w2x ⟨rfl, rfl⟩
                  go_wp2_with fail
                  refine (HL1.out _).mono ?_
                  rintro e w2x ⟨rfl, rfl⟩
                  -- behind the switch
                  have hbel9 : Below w.heap.size w (w2.setCell ⟨s, 1, none⟩ (.int .i64 ((a1 : Int) + 1))) := hbel9
                  have y2 := hS9.c2
                  have HS9 := Lib.hid hS9
                  have Hrow9 := Lib.hid hrow9
                  have Hm9 := Lib.hid hm9
                  have Hst := Lib.hid hst
                  have Hat9 := Lib.hid (scan_at hS9)
                  have hrr : rr <:+ l := hrr
                  have hrrlt : rr.length < r.length := hrrlt
                  clear hS9 hrow9 hm9 hst
                  by_cases h60' : 60 < m9
                  · exact absurd h60' (by omega)
                  · go_wp2_with fail
                    refine ⟨⟨rr, f', os9, S9, m9, c9, hrr, Hm9.out, HS9.out, Hrow9.out, hbel9, ?_, by omega, by have := Hm9.out; omega⟩, ?_⟩
                    · show _ = R
                      rw [← HE.out, Hmore.out (by rw [Hst.out, ← Hm9.out]; exact h60'), Hst.out]
                    · rw [Hat9.out, Hat.out, Ha0.out]
                      omega
            · have q1f : ¬ ((decide (1 < r1.length) && isLet (nth r1 1)) = true) := by
                have : decide (1 < r1.length) = false := by simpa using q1
                rw [this]; simp
              have q3f : ¬ ((decide (2 < r1.length) && nth r1 1 == 47 && isLet (nth r1 2)) = true) := by
                have : decide (2 < r1.length) = false := by simp; omega
                rw [this]; simp
              have q3 : ¬ 2 < r1.length := by omega
              by_cases q0 : r1 = []
              · have b0 : (r1 == ([] : List UInt8)) = true := by rw [q0]; rfl
                have hst : stepL n r1 os = ([], os) := by unfold stepL; rw [if_neg c1, if_neg c2, if_neg q1f, if_neg q3f, q0]; rfl
                obtain ⟨rr, hrrE⟩ : ∃ rr : List UInt8, rr = [] := ⟨_, rfl⟩
                have hS9 : ScanIs w2 s (.slice A n c) (n - rr.length) (.slice S m cS) := by
                  have h := HS2.out
                  have e : n - rr.length = a1 := by rw [hrrE, Ha1.out, q0]
                  rw [e]
                  exact h
                have hbel9 := hbel2
                have hrow9 := Hrow2.out
                obtain ⟨os9, m9, S9, c9, hm9, hos9, hm9E, hS9E, hc9E⟩ : ∃ os9 m9 S9 c9, m9 = os9.length ∧ os9 = os ∧ m9 = m ∧ S9 = S ∧ c9 = cS := ⟨os, m, S, cS, Hm.out, rfl, rfl, rfl, rfl⟩
                have hst : stepL n r1 os = (rr, os9) := by rw [hst, hrrE, hos9]
                have hrr : rr <:+ l := by rw [hrrE]; exact List.nil_suffix
                have hrrlt : rr.length < r.length := by rw [hrrE]; exact hpos
                have HQ0 := Lib.hid q0
                subst hos9 hm9E hS9E hc9E
                clear hrrE q0
                clear c1 c2 hL1 hL2
                go_wp2_with fail
                refine (P1.out _).mono ?_
                rintro e w2x ⟨rfl, rfl⟩
                go_wp2_with fail
                refine (P2.out _).mono ?_
                rintro e w2x ⟨rfl, rfl⟩
                go_wp2_with fail
                refine (P3.out _).mono ?_
                rintro e w2x ⟨rfl, rfl⟩
                -- behind the switch
                have hbel9 : Below w.heap.size w w2 := hbel9
                have y2 := hS9.c2
                have HS9 := Lib.hid hS9
                have Hrow9 := Lib.hid hrow9
                have Hm9 := Lib.hid hm9
                have Hst := Lib.hid hst
                have Hat9 := Lib.hid (scan_at hS9)
                have hrr : rr <:+ l := hrr
                have hrrlt : rr.length < r.length := hrrlt
                clear hS9 hrow9 hm9 hst
                by_cases h60' : 60 < m9
                · exact absurd h60' (by omega)
                · go_wp2_with fail
                  refine ⟨⟨rr, f', os9, S9, m9, c9, hrr, Hm9.out, HS9.out, Hrow9.out, hbel9, ?_, by omega, by have := Hm9.out; omega⟩, ?_⟩
                  · show _ = R
                    rw [← HE.out, Hmore.out (by rw [Hst.out, ← Hm9.out]; exact h60'), Hst.out]
                  · rw [Hat9.out, Hat.out, Ha0.out]
                    omega
              · have b0 : (r1 == ([] : List UInt8)) = false := by simpa using q0
                have hst : stepL n r1 os = (r1.drop 1, os) := by unfold stepL; rw [if_neg c1, if_neg c2, if_neg q1f, if_neg q3f]
                have Hst9 := Lib.hid hst
                clear hst q1f q3f q0
                have hst : stepL n r1 os = (r1.drop 1, os) := Hst9.out
                have hl1 : 1 ≤ r1.length := by cases r1 with | nil => cases b0 | cons _ _ => simp
                obtain ⟨rr, hrrE⟩ : ∃ rr, rr = r1.drop 1 := ⟨_, rfl⟩
                have hrrl : rr.length = r1.length - 1 := by rw [hrrE, List.length_drop]
                have ha14 : a1 + 1 ≤ n := by have := Ha1.out; omega
                have hS9 : ScanIs (w2.setCell ⟨s, 1, none⟩ (.int .i64 ((a1 : Int) + 1))) s (.slice A n c) (n - rr.length) (.slice S m cS) := by
                  have h := HS2.out.set1 (a1 + 1)
                  have e : n - rr.length = a1 + 1 := by rw [hrrl]; have := Ha1.out; omega
                  rw [e]
                  exact h
                have hbel9 := hbel2.setCell (p := ⟨s, 1, none⟩) hsB (.int .i64 ((a1 : Int) + 1))
                have hrow9 := Hrow2.out.kept (grown_set w2 s 1 (.int .i64 ((a1 : Int) + 1))) (.inr (own_ne_scan HS2.out Hrow2.out))
                obtain ⟨os9, m9, S9, c9, hm9, hos9, hm9E, hS9E, hc9E⟩ : ∃ os9 m9 S9 c9, m9 = os9.length ∧ os9 = os ∧ m9 = m ∧ S9 = S ∧ c9 = cS := ⟨os, m, S, cS, Hm.out, rfl, rfl, rfl, rfl⟩
                have hst : stepL n r1 os = (rr, os9) := by rw [hst, hrrE, hos9]
                have hrr : rr <:+ l := by rw [hrrE]; exact (List.drop_suffix 1 r1).trans hr1
                have hrrlt : rr.length < r.length := by omega
                subst hos9 hm9E hS9E hc9E
                clear hrrE hrrl
                clear c1 c2 hL1 hL2
                go_wp2_with fail
                refine (P1.out _).mono ?_
                rintro e w2x ⟨rfl, rfl⟩
                go_wp2_with fail
                refine (P2.out _).mono ?_
                rintro e w2x ⟨rfl, rfl⟩
                go_wp2_with fail
                refine (P3.out _).mono ?_
                rintro e w2x ⟨rfl, rfl⟩
                -- behind the switch
                have hbel9 : Below w.heap.size w (w2.setCell ⟨s, 1, none⟩ (.int .i64 ((a1 : Int) + 1))) := hbel9
                have y2 := hS9.c2
                have HS9 := Lib.hid hS9
                have Hrow9 := Lib.hid hrow9
                have Hm9 := Lib.hid hm9
                have Hst := Lib.hid hst
                have Hat9 := Lib.hid (scan_at hS9)
                have hrr : rr <:+ l := hrr
                have hrrlt : rr.length < r.length := hrrlt
                clear hS9 hrow9 hm9 hst
                by_cases h60' : 60 < m9
                · exact absurd h60' (by omega)
                · go_wp2_with fail
                  refine ⟨⟨rr, f', os9, S9, m9, c9, hrr, Hm9.out, HS9.out, Hrow9.out, hbel9, ?_, by omega, by have := Hm9.out; omega⟩, ?_⟩
                  · show _ = R
                    rw [← HE.out, Hmore.out (by rw [Hst.out, ← Hm9.out]; exact h60'), Hst.out]
                  · rw [Hat9.out, Hat.out, Ha0.out]
                    omega
end Go.Proofs.YtacecobfhaihhaaDoor

namespace Go.Proofs.YtacecobfhaihhaaDoor
open Go.RowKit

section
variable {P : Program}
/-- An append inside a region that draws its order. -/
theorem wpOp_app {k : Nat} {K : Act → World → Prop} {w : World} {ops : Array Oper} {o : Oper} {a : Act} {Q : Exit → Act → World → Prop} (hi : ops[k]? = some o) (hgd : o.guard = none) (s x : Operand) (t : TypeId)
    (ho : o.op = .call { callee := .builtin .append, args := #[s, x], argTypes := #[t, t] })
    (base : Nat) (e : TypeId) (i : TypeInfo) (z : Value) (size bytes : Nat) (ht : P.underlying t = some (.slice e)) (hinf : P.info? e = some i) (hz : i.zero = some z)
    (hsize : i.size = size) (hby : i.bytes = bytes) (hzs : z.cells.size = size) (hsz : 0 < size)
    (S : Option Addr) (n cs : Nat) (xs : List Value) (hs : a.eval s = .slice S n cs) (hown : w.ownsRow base e size (.slice S n cs) n xs)
    (B : Nat) (A : Option Addr) (m c : Nat) (news : List Value) (hx : a.eval x = .slice A m c) (hr : Sl w B size A m news) (h1 : ∀ u ∈ news, u.oneCell' = true)
    (h63 : n + m ≤ maxLen) (hbytes : (n + m) * bytes ≤ 140737488355328) (hbase : base ≤ w.heap.size)
    (h : ∀ S' c' w', w'.ownsRow base e size (.slice S' (n + m) c') (n + m) (xs ++ news) → Below base w w' → w.grownBy w' (Value.ownBlock (.slice S n cs)) → K (a.put o.dst (.slice S' (n + m) c')) w') : wpOp P ops Q k K a w := by
  obtain ⟨S', c', w', hrun, h2, h3, h4⟩ := run_app (P := P) w base t o.type e i z size bytes ht hinf hz hsize hby hzs hsz S n cs xs hown B A m c news hr h1 h63 hbytes hbase
  have hw : Region.wanted o (yielded ops a.tmps) = true := by simp [Region.wanted, hgd]
  unfold wpOp
  simp only [hi, hw, if_true]
  refine .inl ?_
  unfold Oper.wp execOp
  simp only [ho, resolve, invoke, builtin, Sem.run_bind, Sem.run_pure, Result.andThen_ok, List.map_toArray, List.map_cons, List.map_nil, hs, hx, hrun]
  exact h S' c' w' h2 ((Below.refl base w).grown h3 hbase (fun k hk => (hown.lt k hk).1)) h3
/-- An append of a string's bytes, likewise. -/
theorem wpOp_appStr {k : Nat} {K : Act → World → Prop} {w : World} {ops : Array Oper} {o : Oper} {a : Act} {Q : Exit → Act → World → Prop} (hi : ops[k]? = some o) (hgd : o.guard = none) (s x : Operand) (t u : TypeId)
    (ho : o.op = .call { callee := .builtin .append, args := #[s, x], argTypes := #[t, u] })
    (base : Nat) (e : TypeId) (i : TypeInfo) (ht : P.underlying t = some (.slice e)) (hu : P.underlying u = some .string) (hinf : P.info? e = some i) (hz : i.zero = some (.int .u8 0))
    (hsize : i.size = 1) (hby : i.bytes = 1)
    (S : Option Addr) (n cs : Nat) (xs : List Value) (hs : a.eval s = .slice S n cs) (hown : w.ownsRow base e 1 (.slice S n cs) n xs)
    (l : List UInt8) (hx : a.eval x = str l)
    (h63 : n + l.length ≤ maxLen) (hbytes : n + l.length ≤ 140737488355328) (hbase : base ≤ w.heap.size)
    (h : ∀ S' c' w', w'.ownsRow base e 1 (.slice S' (n + l.length) c') (n + l.length) (xs ++ Lib.byteCells l) → Below base w w' → w.grownBy w' (Value.ownBlock (.slice S n cs)) → K (a.put o.dst (.slice S' (n + l.length) c')) w') : wpOp P ops Q k K a w := by
  have hsz : (⟨l.toArray⟩ : ByteArray).size = l.length := by simp [ByteArray.size]
  obtain ⟨v', w', hrun, h2, h3, h4⟩ := Lib.run_append_own_string (P := P) w base t u o.type e i ht hu hinf hz hsize hby _ n xs hown ⟨l.toArray⟩ (by rw [hsz]; exact h63) (by rw [hsz]; exact hbytes) hbase
  rw [hsz] at h2
  obtain ⟨S', c', rfl⟩ : ∃ S' c', v' = .slice S' (n + l.length) c' := by
    rcases h2.2 with ⟨hv, h0⟩ | ⟨g, cap, cur, hv, _⟩
    · exact ⟨none, 0, by rw [hv, h0]⟩
    · exact ⟨_, _, hv⟩
  have hw : Region.wanted o (yielded ops a.tmps) = true := by simp [Region.wanted, hgd]
  have hx' : a.eval x = .string ⟨l.toArray⟩ := hx
  unfold wpOp
  simp only [hi, hw, if_true]
  refine .inl ?_
  unfold Oper.wp execOp
  simp only [ho, resolve, invoke, builtin, Sem.run_bind, Sem.run_pure, Result.andThen_ok, List.map_toArray, List.map_cons, List.map_nil, hs, hx', hrun]
  exact h S' c' w' h2 ((Below.refl base w).grown h3 hbase (fun k hk => (hown.lt k hk).1)) h3
/-- What yields in whatever world. -/
theorem wpOp_val {k : Nat} {K : Act → World → Prop} {w : World} {ops : Array Oper} {o : Oper} {a : Act} {Q : Exit → Act → World → Prop} (hi : ops[k]? = some o) (hgd : o.guard = none) (v : Value) (hv : (execOp a.eval o).run P w = .ok (.value v) w) (h : K (a.put o.dst v) w) : wpOp P ops Q k K a w := by
  have hw : Region.wanted o (yielded ops a.tmps) = true := by simp [Region.wanted, hgd]
  unfold wpOp
  simp only [hi, hw, if_true]
  refine .inl ?_
  unfold Oper.wp
  simp only [hv, Oper.upon]
  exact h
end
end Go.Proofs.YtacecobfhaihhaaDoor

namespace Go.Proofs.YtacecobfhaihhaaDoor

/-- A rune of a text for which p says yes: a byte for which it does, where p says yes to all beyond ASCII, or the text has none of these. -/
theorem idxFunc_any (p : Nat → Bool) (l : List UInt8) (h : (∀ r, 128 ≤ r → p r = true) ∨ ∀ b ∈ l, b.toNat < 128) : decide (0 ≤ Lib.idxFunc p true ⟨l.toArray⟩) = l.any (fun b => p b.toNat) := by
  have key : ∀ (f pos : Nat), l.length ≤ f + pos → (0 ≤ Lib.idxFuncFrom p true ⟨l.toArray⟩ f pos ↔ (l.drop pos).any (fun b => p b.toNat) = true) := by
    intro f
    induction f with
    | zero =>
      intro pos hl
      rw [List.drop_of_length_le (by omega)]
      simp [Lib.idxFuncFrom]
    | succ f ih =>
      intro pos hl
      unfold Lib.idxFuncFrom
      have hsz : (⟨l.toArray⟩ : ByteArray).size = l.length := by simp [ByteArray.size]
      by_cases hp : pos < l.length
      · rw [if_pos (by rw [hsz]; exact hp), List.drop_eq_getElem_cons hp, List.any_cons]
        have hb : ((⟨l.toArray⟩ : ByteArray)[pos]'(by rw [hsz]; exact hp)) = l[pos] := by
          show (l.toArray[pos]) = _
          simp
        rcases Nat.lt_or_ge (l[pos]).toNat 128 with h128 | h128
        · have hd := decode_ascii ⟨l.toArray⟩ pos (by rw [hsz]; exact hp) (by rw [hb]; exact h128)
          rw [hb] at hd
          rw [hd]
          by_cases hpb : p (l[pos]).toNat = true
          · rw [if_pos hpb, hpb]
            simp
          · rw [if_neg hpb]
            have := ih (pos + 1) (by omega)
            rw [this]
            simp [hpb]
        · have hd := decode_high ⟨l.toArray⟩ pos (by rw [hsz]; exact hp) (by rw [hb]; exact h128)
          rcases h with h | h
          · rw [if_pos (h _ hd.1), h _ h128]
            simp
          · exact absurd (h _ (List.getElem_mem hp)) (by omega)
      · rw [if_neg (by rw [hsz]; exact hp), List.drop_of_length_le (by omega)]
        simp
  have := key (⟨l.toArray⟩ : ByteArray).size 0 (by simp [ByteArray.size])
  unfold Lib.idxFunc
  rw [Bool.eq_iff_iff, decide_eq_true_eq, this, List.drop_zero]
end Go.Proofs.YtacecobfhaihhaaDoor

namespace Go.Proofs.YtacecobfhaihhaaDoor
open Go.RowKit

/-- What may not be put, of runes. -/
def badPutR (r : Nat) : Bool := decide (r ≤ 32) || decide (126 < r) || decide (0 ≤ Lib.indexByte [34, 39, 60, 62, 38, 61] (UInt8.ofNat r))
theorem badPut_eq : ∀ x : Fin 256, badPutR x.val = badPut x.val := by decide +kernel
theorem badPut_any (l : List UInt8) : l.any (fun b => badPutR b.toNat) = l.any (fun b => badPut b.toNat) := by
  congr 1
  funext b
  exact badPut_eq ⟨b.toNat, b.toNat_lt⟩
theorem ContainsRune_put (r : Nat) (hr : r < 128) (w : World) : Calls Tryd.prog 36 #[.string ⟨#[34, 39, 60, 62, 38, 61]⟩, .int .i32 (r : Int)] w fun e w' => e = .returned (.bool (decide (0 ≤ Lib.indexByte [34, 39, 60, 62, 38, 61] (UInt8.ofNat r)))) ∧ w' = w := by
  have h := Go.Proofs.Tryd.strings_IndexRune_ascii ⟨#[34, 39, 60, 62, 38, 61]⟩ (r : Int) w (by omega) (by omega)
  have e : ((r : Int)).toNat.toUInt8 = UInt8.ofNat r := rfl
  rw [e] at h
  have h2 : (⟨#[34, 39, 60, 62, 38, 61]⟩ : ByteArray).data.toList = [34, 39, 60, 62, 38, 61] := rfl
  rw [h2] at h
  generalize Lib.indexByte [34, 39, 60, 62, 38, 61] (UInt8.ofNat r) = z at h ⊢
  have H := Lib.hid h
  clear h e h2
  go_enter Tryd.func36, Tryd.ntmps36
  go_wp2_with fail
  refine H.out.mono ?_
  rintro e w1 ⟨rfl, rfl⟩
  go_wp2_with fail
  go_ret
  exact ⟨rfl, rfl⟩
set_option maxRecDepth 100000 in
theorem put1_any (x : Nat) (hx : x ≤ 1114111) (w : World) : Calls Tryd.prog 35 #[.int .i32 (x : Int)] w fun e w' => e = .returned (.bool (badPutR x)) ∧ w' = w := by
  by_cases h1 : x ≤ 32
  · rw [show badPutR x = true by simp [badPutR, h1]]
    go_enter Tryd.func35, Tryd.ntmps35
    go_wp2_with fail
    go_ret
    exact ⟨rfl, rfl⟩
  · by_cases h2 : 126 < x
    · rw [show badPutR x = true by simp [badPutR, h2]]
      go_enter Tryd.func35, Tryd.ntmps35
      go_wp2_with fail
      go_ret
      exact ⟨rfl, rfl⟩
    · have hc := ContainsRune_put x (by omega) w
      rw [show badPutR x = decide (0 ≤ Lib.indexByte [34, 39, 60, 62, 38, 61] (UInt8.ofNat x)) by simp [badPutR, h1, h2]]
      generalize decide (0 ≤ Lib.indexByte [34, 39, 60, 62, 38, 61] (UInt8.ofNat x)) = z at hc ⊢
      have Hc := Lib.hid hc
      have d1 : decide ((x : Int) ≤ 32) = false := by simp; omega
      have d2 : decide ((126 : Int) < x) = false := by simp; omega
      clear hc
      go_enter Tryd.func35, Tryd.ntmps35
      go_wp2_with fail
      refine Hc.out.mono ?_
      rintro e w1 ⟨rfl, rfl⟩
      go_wp2_with fail
      all_goals
        go_ret
        exact ⟨rfl, rfl⟩
theorem containsPut_any (l : List UInt8) (w : World) : Calls Tryd.prog 34 #[str l, .func (.func 35) #[] #[]] w fun e w' => e = .returned (.bool (l.any (fun b => badPut b.toNat))) ∧ Below w.heap.size w w' := by
  have h := Go.Proofs.Tryd.strings_ContainsFunc_runes 35 #[] (enters_of Tryd.func35 (by kernel_rfl) rfl) badPutR ⟨l.toArray⟩ w
    (fun W x hx _ => (put1_any x hx W).mono fun e w' ⟨h1, h2⟩ => ⟨h1, 0, h2⟩)
  rw [idxFunc_any badPutR l (.inl fun r hr => by simp [badPutR]; omega), badPut_any] at h
  exact h

/-! ### Links in order -/
def LOk : Nat → Nat → List LinkD → Prop
  | at_, n, [] => at_ ≤ n
  | at_, n, x :: l => at_ ≤ x.frm ∧ x.frm ≤ x.til ∧ LOk x.til n l
theorem LOk.le : ∀ {l : List LinkD} {at_ n : Nat}, LOk at_ n l → at_ ≤ n
  | [], _, _, h => h
  | _ :: _, _, _, h => Nat.le_trans h.1 (Nat.le_trans h.2.1 h.2.2.le)
theorem LOk.links : ∀ (l : List (List UInt8 × List UInt8)) (at_ pos n : Nat), at_ ≤ pos → pos + (weaveL l (l.map (·.1))).length ≤ n → LOk at_ n (linksL pos l)
  | [], at_, pos, n, h, hn => by simp only [linksL, LOk]; simp [weaveL] at hn; omega
  | x :: l, at_, pos, n, h, hn => by
    simp only [linksL, LOk]
    simp only [List.map_cons, weaveL, List.length_append] at hn
    exact ⟨h, by omega, LOk.links l _ _ n (by omega) (by omega)⟩
theorem LOk.find {l : List UInt8} {ls : List LinkD} (h : findB l = some ls) : LOk 0 l.length ls := by
  rw [findB_eq] at h
  split at h
  · cases h
  · have h := Option.some.inj h
    rw [← h]
    refine LOk.links (pcs l).2 0 (0 + (pcs l).1.length) l.length (Nat.zero_le _) ?_
    have := congrArg List.length (pcs_app l)
    unfold weave at this
    rw [List.length_append] at this
    unfold vals at this
    omega
theorem Sl.link {w : World} {B n : Nat} {A : Option Addr} {ls : List LinkD} (h : Sl w B 3 A n (linkC ls)) (i : Nat) (hi : i < n) :
    ∃ b off x, A = some ⟨b, off, none⟩ ∧ b < B ∧ ls.drop i = x :: ls.drop (i + 1) ∧ w.cell? ⟨b, off + i * 3, none⟩ = some (.int .i64 (x.frm : Nat)) ∧ w.cell? ⟨b, off + i * 3 + 1, none⟩ = some (.int .i64 (x.til : Nat)) ∧ w.cell? ⟨b, off + i * 3 + 2, none⟩ = some (str x.text) := by
  obtain ⟨b, off, hA, hb, hc⟩ := h.2 (by omega)
  have hl : ls.length = n := by have := h.1; rw [linkC_len] at this; omega
  have hil : i < ls.length := by omega
  have hd := List.drop_eq_getElem_cons hil
  have hsplit : linkC ls = linkC (ls.take i) ++ linkC (ls.drop i) := by rw [← linkC_app, List.take_append_drop]
  have hat : ∀ k, k < 3 → (linkC ls)[i * 3 + k]? = [Value.int .i64 ((ls[i].frm : Nat) : Int), .int .i64 ((ls[i].til : Nat) : Int), str ls[i].text][k]? := by
    intro k hk
    have e : (linkC (ls.take i)).length = i * 3 := by rw [linkC_len, List.length_take, Nat.min_eq_left (by omega)]
    rw [hsplit, List.getElem?_append_right (by omega), e, Nat.add_sub_cancel_left, hd]
    show ((linkC (ls[i] :: ls.drop (i + 1))))[k]? = _
    rw [show linkC (ls[i] :: ls.drop (i + 1)) = [Value.int .i64 ((ls[i].frm : Nat) : Int), .int .i64 ((ls[i].til : Nat) : Int), str ls[i].text] ++ linkC (ls.drop (i + 1)) from rfl, List.getElem?_append_left (by simpa using hk)]
  exact ⟨b, off, ls[i], hA, hb, hd, hc _ _ (hat 0 (by omega)), hc _ _ (hat 1 (by omega)), hc _ _ (hat 2 (by omega))⟩
end Go.Proofs.YtacecobfhaihhaaDoor

namespace Go.Proofs.YtacecobfhaihhaaDoor
open Go.RowKit
attribute [local go_sem high] cut_u8 mid_u8

def putE (l : List UInt8) (ts : List (List UInt8)) : List UInt8 × Nat := if 4000 < l.length then ([], 2) else putB l ts
def PutOut (T : List UInt8 × Nat) (w : World) (e : Ending) (w' : World) : Prop :=
  ∃ S c, e = .returned (.tuple #[.slice S T.1.length c, .int .i64 (T.2 : Nat)]) ∧ w'.ownsRow w.heap.size 5 1 (.slice S T.1.length c) T.1.length (Lib.byteCells T.1) ∧ Below w.heap.size w w'
def sumL (ts : List (List UInt8)) : Nat := (ts.map List.length).sum
theorem putE_none {l : List UInt8} {ts : List (List UInt8)} (h : (findE l).2 ≠ 0) : putE l ts = ([], 2) ∧ (findE l).2 = 2 := by
  unfold findE at h ⊢
  unfold putE
  split
  · exact ⟨rfl, rfl⟩
  · rename_i h4
    rw [if_neg h4] at h
    cases hf : findB l with
    | none => unfold putB; rw [hf]; exact ⟨rfl, rfl⟩
    | some ls => rw [hf] at h; exact absurd rfl h
theorem putE_some {l : List UInt8} {ts : List (List UInt8)} (h : (findE l).2 = 0) : findB l = some (findE l).1 ∧ l.length ≤ 4000 ∧ putE l ts = if ts.length ≠ (findE l).1.length then ([], 4) else if ts.any (fun t => t.any fun c => badPut c.toNat) then ([], 1) else if 4000 < (putL l 0 [] (findE l).1 ts).length then ([], 2) else (putL l 0 [] (findE l).1 ts, 0) := by
  unfold findE at h ⊢
  unfold putE
  split
  · rename_i h4; rw [if_pos h4] at h; cases h
  · rename_i h4
    rw [if_neg h4] at h
    cases hf : findB l with
    | none => rw [hf] at h; cases h
    | some ls => exact ⟨rfl, by omega, by unfold putB; rw [hf]; rfl⟩
theorem findB_len {l : List UInt8} {ls : List LinkD} (h : findB l = some ls) : ls.length ≤ 60 := by
  rw [findB_eq] at h
  split at h
  · cases h
  · have h := Option.some.inj h
    rw [← h, links_len]
    omega
def PutRel (_w w1 : World) (n m : Nat) (l : List UInt8) (ls : List LinkD) (ts : List (List UInt8)) (T : Nat) (R : List UInt8) (ov av iv : Value) (wr : World) : Prop :=
  ∃ (i at_ no co : Nat) (So : Option Addr) (out : List UInt8), ov = .slice So no co ∧ av = .int .i64 (at_ : Nat) ∧ iv = .int .i64 (i : Nat) ∧ i ≤ m ∧ no = out.length ∧ wr.ownsRow w1.heap.size 5 1 (.slice So no co) no (Lib.byteCells out) ∧
    Below w1.heap.size w1 wr ∧ LOk at_ n (ls.drop i) ∧ Hid (putL l at_ out (ls.drop i) (ts.drop i) = R) ∧ Hid ((ts.take i).any (fun t => t.any fun c => badPut c.toNat) = false) ∧ no + sumL (ts.drop i) ≤ at_ + T
set_option maxRecDepth 100000 in
set_option maxHeartbeats 1000000 in
theorem Put_any (A TA : Option Addr) (n c tn tc : Nat) (l : List UInt8) (ts : List (List UInt8)) (w : World) (hM : MaxLenOk w) (hb : By w w.heap.size A n l) (hc : n ≤ c) (hcm : c ≤ maxLen) (hts : Sl w w.heap.size 1 TA tn (ts.map str)) (hT : sumL ts ≤ 1000000000000) :
    Calls Tryd.prog 6 #[.slice A n c, .slice TA tn tc] w (PutOut (putE l ts) w) := by
  obtain ⟨i0, hi0, hz0, hz1, hz2⟩ := info_parts infoByte
  have Hi0 := Lib.hid hi0
  clear hi0
  have hnl := hb.len
  have htn : ts.length = tn := by have := hts.1; simpa using this
  have hfind := Find_any A n c l w hM hb hc hcm
  have he0 := fun h => (putE_none (l := l) (ts := ts) h)
  have he1 := fun h => (putE_some (l := l) (ts := ts) h)
  unfold FindOut at hfind
  generalize findE l = F at hfind he0 he1
  obtain ⟨ls, fe⟩ := F
  simp only at hfind he0 he1
  by_cases hfe : fe = 0
  · subst hfe
    obtain ⟨e1, e2, e3⟩ := he1 rfl
    have hok := LOk.find e1
    have hm60 := findB_len e1
    have Hfind := Lib.hid hfind
    clear he0 he1 hfind
    obtain ⟨m, hm⟩ : ∃ m, m = ls.length := ⟨_, rfl⟩
    rw [← hm] at e3 hm60
    have Hm := Lib.hid hm
    have Htn := Lib.hid htn
    rw [htn] at e3
    by_cases hlen : tn = m
    · have hne : ((tn : Int) != (m : Int)) = false := by simp; omega
      rw [if_neg (by omega)] at e3
      obtain ⟨R, hR⟩ : ∃ R, R = putL l 0 [] ls ts := ⟨_, rfl⟩
      obtain ⟨bad, hbad⟩ : ∃ bad, bad = ts.any (fun t => t.any fun c => badPut c.toNat) := ⟨_, rfl⟩
      rw [← hR, ← hbad] at e3
      have hn4 : n ≤ 4000 := by omega
      rw [hnl] at hok
      have Hnl := Lib.hid hnl
      have HR := Lib.hid hR
      have Hbad := Lib.hid hbad
      have Hlen := Lib.hid hlen
      have E3 := Lib.hid e3
      clear hR hbad hlen e1 e2 e3 hm htn hnl
      go_enter Tryd.func6, Tryd.ntmps6
      go_wp2_with fail
      refine Hfind.out.mono ?_
      rw [← Hm.out]
      rintro e w1 ⟨S, cS, rfl, hown1, hb1⟩
      have hsz1 := hb1.size
      have hbP := hb.below hb1
      have htP := hts.below hb1
      have hsl := Sl.of_own hown1
      have hcap := own_cap hown1
      clear hown1 Hfind hb hts
      go_wp2_with fail
      go_loopw [8, 9, 27] (PutRel w w1 n m l ls ts (sumL ts) R) (fun _ _ iv _ => m - (intOf iv).toNat)
      case atStart => exact ⟨0, 0, 0, 0, none, [], rfl, rfl, rfl, Nat.zero_le _, rfl, World.ownsRow_nil _ _ _ _, Below.refl _ _, hok, HR.out.symm, rfl, by simp⟩
      case round =>
        obtain ⟨i, at_, no, co, So, out, rfl, rfl, rfl, hi, hno, hrow, hbel, hok, hE, hz, hT2⟩ := hrel
        have hsz := hbel.size
        by_cases hin : i < m
        · obtain ⟨b, off, x, rfl, hbS, hdx, x0, x1, x2⟩ := (hsl.belowN hbel (Nat.le_refl _)).link i hin
          obtain ⟨tb, toff, u, rfl, htb, hu, htc⟩ := (htP.belowN hbel hsz1).at_ (k := i) (by have := Hlen.out; omega)
          have hil : i < ts.length := by have := Htn.out; have := Hlen.out; omega
          have hdt := List.drop_eq_getElem_cons hil
          obtain ⟨t, ht⟩ : ∃ t, t = ts[i] := ⟨_, rfl⟩
          rw [← ht] at hdt
          have hut : u = str t := by
            rw [List.getElem?_map, List.getElem?_eq_getElem hil, ← ht] at hu
            simpa using hu.symm
          subst hut
          rw [hdx] at hok
          obtain ⟨o1, o2, o3⟩ := hok
          have o4 := o3.le
          have o5 : x.frm ≤ n := Nat.le_trans o2 o4
          have hE' : Hid (putL l at_ out (x :: ls.drop (i + 1)) (t :: ts.drop (i + 1)) = R) := by show _ = _; rw [← hdx, ← hdt]; exact hE.out
          have hT3 : no + (t.length + sumL (ts.drop (i + 1))) ≤ at_ + sumL ts := by rw [hdt] at hT2; simpa [sumL] using hT2
          have hzt : Hid ((ts.take (i + 1)).any (fun t => t.any fun c => badPut c.toNat) = (t.any fun c => badPut c.toNat)) := by
            show _ = _
            rw [List.take_add_one, List.getElem?_eq_getElem hil, ← ht, List.any_append, hz.out]
            simp
          have Ht := Lib.hid ht
          have Hno := Lib.hid hno
          have Hdt := Lib.hid hdt
          clear hu ht hdt hdx hE hT2 hno
          have htn2 : i < tn := by have := Hlen.out; omega
          obtain ⟨W, hW⟩ : ∃ W, W = wr.alloc (.cells #[.int .i64 (x.frm : Nat), .int .i64 (x.til : Nat), str x.text] 33) := ⟨_, rfl⟩
          have htcW := (World.cell?_alloc_lt wr (.cells #[.int .i64 (x.frm : Nat), .int .i64 (x.til : Nat), str x.text] 33) ⟨tb, toff + i, none⟩ (by show tb < _; omega)).trans htc
          have hbW : Below wr.heap.size wr W := by rw [hW]; exact (Below.refl _ wr).alloc (Nat.le_refl _) _
          have hbelW := hbel.trans (hbW.mono hsz)
          have hrowW := own_below hrow hbW
          have hxb : W.heap[wr.heap.size]? = some (.cells #[.int .i64 (x.frm : Nat), .int .i64 (x.til : Nat), str x.text] 33) := by rw [hW]; exact heap_alloc_new wr _
          by_cases ht0 : t = []
          · have b0 : (t == ([] : List UInt8)) = true := by rw [ht0]; rfl
            have Ht0 := Lib.hid ht0
            clear ht0
            go_wp2_with fail
            rw [← hW]
            refine ⟨⟨i + 1, at_, no, co, So, out, rfl, rfl, by go_num, by omega, Hno.out, hrowW, hbelW, ?_, ?_, ?_, by omega⟩, by simp [intOf]; omega⟩
            · cases hlsd : ls.drop (i + 1) with
              | nil => rw [hlsd] at o3; exact Nat.le_trans o1 (Nat.le_trans o2 o3)
              | cons y l' => rw [hlsd] at o3; exact ⟨by have := o3.1; omega, o3.2.1, o3.2.2⟩
            · show _ = R
              rw [← hE'.out, putL, if_pos Ht0.out]
            · show _ = _
              rw [hzt.out, Ht0.out]; rfl
          · have b0 : (t == ([] : List UInt8)) = false := by simpa using ht0
            have Ht0 := Lib.hid ht0
            have hcp := containsPut_any t W
            clear ht0
            by_cases hbt : (t.any fun c => badPut c.toNat) = true
            · rw [hbt] at hcp
              have Hcp := Lib.hid hcp
              have hbb : bad = true := by
                rw [Hbad.out, List.any_eq_true]
                exact ⟨t, by rw [Ht.out]; exact List.getElem_mem hil, hbt⟩
              have Hbb := Lib.hid hbb
              clear hcp hbt hbb
              go_wp2_with fail
              rw [← hW]
              refine Hcp.out.mono ?_
              rintro e w3 ⟨rfl, hb3⟩
              go_wp2_with fail
              go_ret2
              rw [E3.out, Hbb.out]
              exact ⟨none, 0, rfl, World.ownsRow_nil _ _ _ _, hb1.trans ((hbelW.trans (hb3.mono hbelW.size)).mono hsz1)⟩
            · have hbf : (t.any fun c => badPut c.toNat) = false := by simpa using hbt
              rw [hbf] at hcp hzt
              have Hcp := Lib.hid hcp
              clear hcp hbt hbf
              go_wp2_with fail
              rw [← hW]
              refine Hcp.out.mono ?_
              rintro e w3 ⟨rfl, hb3⟩
              have hbel3 := hbelW.trans (hb3.mono hbelW.size)
              have hrow3 := own_below hrowW hb3
              have hxb3 := (hb3.block wr.heap.size (by rw [hW]; simp)).trans hxb
              have z0 : w3.cell? ⟨wr.heap.size, 0, none⟩ = some (.int .i64 (x.frm : Nat)) := by rw [Go.Joins.cell_of_block hxb3]; rfl
              have z1 : w3.cell? ⟨wr.heap.size, 1, none⟩ = some (.int .i64 (x.til : Nat)) := by rw [Go.Joins.cell_of_block hxb3]; rfl
              obtain ⟨xb, hxbE⟩ : ∃ xb, xb = wr.heap.size := ⟨_, rfl⟩
              have hxlt : xb < w3.heap.size := by rw [hxbE]; exact Nat.lt_of_lt_of_le (by rw [hW]; simp) hb3.size
              rw [← hxbE] at z0 z1 ⊢
              have HxbE := Lib.hid hxbE
              clear hxbE
              have htW : W.cell? ⟨tb, toff + i, none⟩ = some (str t) := by rw [hW]; exact htcW
              have htc3 := (hb3.cell (p := ⟨tb, toff + i, none⟩) (by show tb < _; rw [hW]; simp; omega)).trans htW
              clear htW htcW htc x0 x1 x2
              have hbP3 : By w3 w.heap.size A n l := hbP.belowN hbel3 hsz1
              have hmid : By w3 w.heap.size (cutA A c at_ 1) (x.frm - at_) ((l.take x.frm).drop at_) := by
                have h1 := (hbP3.cut (k := at_) (by omega) hc).upto (k := x.frm - at_) (by omega)
                rw [← List.drop_take] at h1
                exact h1
              have hmn : no ≤ at_ + sumL ts := by omega
              have h63 : no + (x.frm - at_) ≤ maxLen := by unfold maxLen; omega
              have h47 : (no + (x.frm - at_)) * 1 ≤ 140737488355328 := by omega
              have hbase3 : w1.heap.size ≤ w3.heap.size := hbel3.size
              have hS3 : w3.drew.cell? ⟨xb, 0, none⟩ = some (.int .i64 (x.frm : Nat)) ∧ w3.drew.cell? ⟨tb, toff + i, none⟩ = some (str t) := ⟨z0, htc3⟩
              have hone := oneCell_byteCells ((l.take x.frm).drop at_)
              have hxo : (Value.slice So no co).ownBlock ≠ some xb := by
                intro e
                have := (hrow.lt _ e)
                have := HxbE.out
                omega
              go_wp2_with fail
              refine wp_region_held (S := fun W' => W'.cell? ⟨xb, 0, none⟩ = some (.int .i64 (x.frm : Nat)) ∧ W'.cell? ⟨tb, toff + i, none⟩ = some (str t)) (by kernel_rfl) ?_
              change wpAnyH _ _ _ _ _ _ _ _ (World.drew w3)
              refine wpAnyH_take (i := 0) (v := ?_) rfl (by kernel_rfl) (by kernel_rfl) (by kernel_rfl) (fun _ _ _ h => h) (Or.inl ⟨by kernel_rfl, ?_⟩) hS3 ?_
              rotate_left 1
              · rintro W' ⟨q0, q1⟩; go_simp; try exact rfl
              refine wpAnyH_take (i := 1) (v := ?_) rfl (by kernel_rfl) (by kernel_rfl) (by kernel_rfl) (fun _ _ _ h => h) (Or.inl ⟨by kernel_rfl, ?_⟩) hS3 ?_
              rotate_left 1
              · rintro W' ⟨q0, q1⟩; go_simp; try exact rfl
              refine wpAnyH_take (i := 2) (v := ?_) rfl (by kernel_rfl) (by kernel_rfl) (by kernel_rfl) (fun _ _ _ h => h) (Or.inl ⟨by kernel_rfl, ?_⟩) hS3 ?_
              rotate_left 1
              · rintro W' ⟨q0, q1⟩; go_simp; try exact rfl
              refine wpAnyH_take (i := 3) (v := ?_) rfl (by kernel_rfl) (by kernel_rfl) (by kernel_rfl) (fun _ _ _ h => h) (Or.inl ⟨by kernel_rfl, ?_⟩) hS3 ?_
              rotate_left 1
              · rintro W' ⟨q0, q1⟩; go_simp; try exact rfl
              refine wpAnyH_take (i := 4) (v := ?_) rfl (by kernel_rfl) (by kernel_rfl) (by kernel_rfl) (fun _ _ _ h => h) (Or.inl ⟨by kernel_rfl, ?_⟩) hS3 ?_
              rotate_left 1
              · rintro W' ⟨q0, q1⟩; go_simp; try exact rfl
              refine wpAnyH_take (i := 5) (v := ?_) rfl (by kernel_rfl) (by kernel_rfl) (by kernel_rfl) (fun _ _ _ h => h) (Or.inl ⟨by kernel_rfl, ?_⟩) hS3 ?_
              rotate_left 1
              · rintro W' ⟨q0, q1⟩; go_simp; try exact rfl
              refine wpAnyH_take (i := 7) (v := ?_) rfl (by kernel_rfl) (by kernel_rfl) (by kernel_rfl) (fun _ _ _ h => h) (Or.inl ⟨by kernel_rfl, ?_⟩) hS3 ?_
              rotate_left 1
              · rintro W' ⟨q0, q1⟩; go_simp; try exact rfl
              refine wpAnyH_take (i := 8) (v := ?_) rfl (by kernel_rfl) (by kernel_rfl) (by kernel_rfl) (fun _ _ _ h => h) (Or.inl ⟨by kernel_rfl, ?_⟩) hS3 ?_
              rotate_left 1
              · rintro W' ⟨q0, q1⟩; go_simp; try exact rfl
              refine wpAnyH_take (i := 9) (v := ?_) rfl (by kernel_rfl) (by kernel_rfl) (by kernel_rfl) (fun _ _ _ h => h) (Or.inl ⟨by kernel_rfl, ?_⟩) hS3 ?_
              rotate_left 1
              · rintro W' ⟨q0, q1⟩; go_simp; try exact rfl
              refine wpAnyH_take (i := 10) (v := ?_) rfl (by kernel_rfl) (by kernel_rfl) (by kernel_rfl) (fun _ _ _ h => h) (Or.inl ⟨by kernel_rfl, ?_⟩) hS3 ?_
              rotate_left 1
              · rintro W' ⟨q0, q1⟩; go_simp; try exact rfl
              refine wpAnyH_all (rs := [6]) (by kernel_rfl) (by simp) ?_
              intro k hk
              simp only [List.mem_singleton] at hk
              subst hk
              go_simp
              refine wpOp_app rfl rfl _ _ 22 rfl w1.heap.size 5 i0 _ 1 1 Tryd.underlying22 Hi0.out hz0 hz1 hz2 rfl (by decide) So no co (Lib.byteCells out) (by rfl) hrow3 _ (cutA A c at_ 1) (x.frm - at_) (c - at_) (Lib.byteCells ((l.take x.frm).drop at_)) (by rfl) hmid hone h63 h47 hbase3 ?_
              intro S4 c4 w4 hown4 hb4 hg4
              have hS4 : w4.cell? ⟨xb, 0, none⟩ = some (.int .i64 (x.frm : Nat)) ∧ w4.cell? ⟨tb, toff + i, none⟩ = some (str t) :=
                ⟨(World.cell?_of_block (hg4.block xb hxlt (fun e => hxo e.symm))).trans z0, (hb4.cell (p := ⟨tb, toff + i, none⟩) (by show tb < _; omega)).trans htc3⟩
              have z14 : w4.cell? ⟨xb, 1, none⟩ = some (.int .i64 (x.til : Nat)) := (World.cell?_of_block (hg4.block xb hxlt (fun e => hxo e.symm))).trans z1
              refine ⟨hS4, ?_⟩
              have hxo4 : (Value.slice S4 (no + (x.frm - at_)) c4).ownBlock ≠ some xb := by
                intro e
                rcases hown4.2 with ⟨hv, _⟩ | ⟨g, cap, cur, hv, _, hg, _⟩
                · rw [hv] at e; cases e
                · rw [hv] at e
                  injection e with e
                  simp only at e
                  subst e
                  have h5 : w4.heap[g]? = w3.heap[g]? := hg4.block g hxlt (fun e => hxo e.symm)
                  have h6 : w3.heap[g]? = some (.cells #[.int .i64 (x.frm : Nat), .int .i64 (x.til : Nat), str x.text] 33) := by rw [HxbE.out]; exact hxb3
                  rw [h5, h6] at hg
                  injection hg with hg
                  injection hg with _ hg _
                  exact absurd hg (by decide)
              have h63b : no + (x.frm - at_) + t.length ≤ maxLen := by unfold maxLen; omega
              have h47b : no + (x.frm - at_) + t.length ≤ 140737488355328 := by omega
              refine wpAnyH_all (rs := [11]) (by kernel_rfl) (by simp) ?_
              intro k hk
              simp only [List.mem_singleton] at hk
              subst hk
              go_simp
              refine wpOp_appStr rfl rfl _ _ 22 9 rfl w1.heap.size 5 i0 Tryd.underlying22 Tryd.underlying9 Hi0.out hz0 hz1 hz2 S4 (no + (x.frm - at_)) c4 _ (by rfl) hown4 t (by rfl) h63b h47b (Nat.le_trans hbase3 hb4.size) ?_
              intro S5 c5 w5 hown5 hb5 hg5
              have hS5 : w5.cell? ⟨xb, 0, none⟩ = some (.int .i64 (x.frm : Nat)) ∧ w5.cell? ⟨tb, toff + i, none⟩ = some (str t) :=
                ⟨(World.cell?_of_block (hg5.block xb (Nat.lt_of_lt_of_le hxlt hg4.size) (fun e => hxo4 e.symm))).trans hS4.1, (hb5.cell (p := ⟨tb, toff + i, none⟩) (by show tb < _; omega)).trans hS4.2⟩
              have z15 : w5.cell? ⟨xb, 1, none⟩ = some (.int .i64 (x.til : Nat)) := (World.cell?_of_block (hg5.block xb (Nat.lt_of_lt_of_le hxlt hg4.size) (fun e => hxo4 e.symm))).trans z14
              refine ⟨hS5, ?_⟩
              refine wpAnyH_all (rs := [12]) (by kernel_rfl) (by simp) ?_
              intro k hk
              simp only [List.mem_singleton] at hk
              subst hk
              go_simp
              refine wpOp_val rfl rfl (.slice S5 (no + (x.frm - at_) + t.length) c5) (by rfl) ?_
              refine ⟨hS5, ?_⟩
              refine wpAnyH_done (by kernel_rfl) ?_ _
              have hbel5 : Below w1.heap.size w1 w5 := (hbel3.trans ((Below.drew (Below.refl _ w3)).trans hb4)).trans hb5
              rw [← byteCells_append, ← byteCells_append] at hown5
              have Hown5 := Lib.hid hown5
              clear hown5 hown4 hg4 hg5 hb4 hb5 hS4 hS5 z14 z0 z1 htc3 hS3 hmid
              go_wp2_with fail
              refine ⟨⟨i + 1, x.til, no + (x.frm - at_) + t.length, c5, S5, out ++ (l.take x.frm).drop at_ ++ t, rfl, rfl, by go_num, by omega, ?_, Hown5.out, hbel5, o3, ?_, hzt, by omega⟩, by simp [intOf]; omega⟩
              · have hlx : ((l.take x.frm).drop at_).length = x.frm - at_ := by
                  rw [List.length_drop, List.length_take, Nat.min_eq_left (by have := Hnl.out; omega)]
                rw [List.length_append, List.length_append, hlx, Hno.out]
              · show _ = R
                rw [← hE'.out, putL, if_neg Ht0.out]
        · obtain rfl : i = m := by omega
          have hE2 : out ++ l.drop at_ = R := by
            have h := hE.out
            rw [List.drop_of_length_le (by have := Hm.out; omega), List.drop_of_length_le (by have := Htn.out; have := Hlen.out; omega)] at h
            rw [← h]
            rfl
          have hb0 : bad = false := by
            rw [Hbad.out]
            have h := hz.out
            rw [List.take_of_length_le (by have := Htn.out; have := Hlen.out; omega)] at h
            exact h
          have hat : at_ ≤ n := hok.le
          have hbPr := hbP.belowN hbel hsz1
          have hcutr : By wr w.heap.size (cutA A c at_ 1) (n - at_) (l.drop at_) := hbPr.cut hat hc
          have hoR : no + (n - at_) = R.length := by rw [← hE2, List.length_append, List.length_drop, ← hno]; have := Hnl.out; omega
          have hmn : no ≤ at_ + sumL ts := by omega
          have h63 : no + (n - at_) ≤ maxLen := by unfold maxLen; omega
          have h47 : (no + (n - at_)) * 1 ≤ 140737488355328 := by omega
          have hone := oneCell_byteCells (l.drop at_)
          have HoR := Lib.hid hoR
          have HE2 := Lib.hid hE2
          have Hb0 := Lib.hid hb0
          clear hE2 hb0 hoR hno
          go_wp2_with (at_builtin; refine wpList_app rfl _ _ 22 rfl w1.heap.size 5 i0 _ 1 1 Tryd.underlying22 Hi0.out hz0 hz1 hz2 rfl (by decide) So no co (Lib.byteCells out) rfl hrow _ (cutA A c at_ 1) (n - at_) (c - at_) (Lib.byteCells (l.drop at_)) rfl hcutr hone h63 h47 hsz ?_)
          intro S5 c5 w5 hown5 hb5 hg5
          rw [← byteCells_append, HE2.out] at hown5
          have hbel5 : Below w.heap.size w w5 := hb1.trans ((hbel.trans hb5).mono hsz1)
          have Hown5 := Lib.hid hown5
          clear hown5 hg5 hb5
          by_cases h4 : 4000 < no + (n - at_)
          · go_wp2_with fail
            go_ret2
            rw [E3.out, Hb0.out, if_neg (by simp), if_pos (by rw [← HoR.out]; exact h4)]
            exact ⟨none, 0, rfl, World.ownsRow_nil _ _ _ _, hbel5⟩
          · go_wp2_with fail
            go_ret2
            rw [E3.out, Hb0.out, if_neg (by simp), if_neg (by rw [← HoR.out]; exact h4)]
            have h := Hown5.out.mono (base' := w.heap.size) hsz1
            rw [HoR.out] at h
            exact ⟨S5, c5, by rw [← HoR.out]; rfl, h, hbel5⟩
    · have hne : ((tn : Int) != (m : Int)) = true := by simp; omega
      have hR : putE l ts = ([], 4) := by rw [e3, if_pos hlen]
      rw [hR]
      clear hR e3 e1 hlen hm htn
      go_enter Tryd.func6, Tryd.ntmps6
      go_wp2_with fail
      refine Hfind.out.mono ?_
      rw [← Hm.out]
      rintro e w1 ⟨S, cS, rfl, hown1, hb1⟩
      go_wp2_with fail
      go_ret2
      exact ⟨none, 0, rfl, World.ownsRow_nil _ _ _ _, hb1⟩
  · obtain ⟨hR, rfl⟩ := he0 hfe
    rw [hR]
    have Hfind := Lib.hid hfind
    clear hR he0 he1 hfe hfind hnl htn
    go_enter Tryd.func6, Tryd.ntmps6
    go_wp2_with fail
    refine Hfind.out.mono ?_
    rintro e w1 ⟨S, cS, rfl, hown1, hb1⟩
    go_wp2_with fail
    go_ret2
    exact ⟨none, 0, rfl, World.ownsRow_nil _ _ _ _, hb1⟩
end Go.Proofs.YtacecobfhaihhaaDoor

namespace Go.Proofs.YtacecobfhaihhaaDoor
open Go.ChangeShapes Go.WideShapes Go.ChangeAt Go.RowKit

theorem bulk_strs {H : Type} : ∀ (ss : List ByteArray), sumL (ss.map (·.data.toList)) ≤ Rows.uptoBulkAll (strs ss : List (DataW H))
  | [] => Nat.le_refl _
  | s :: ss => by
    have ih := bulk_strs (H := H) ss
    show (s.data.toList.length :: (ss.map (·.data.toList)).map List.length).sum ≤ (s.data.toList.length + 1) + Rows.uptoBulkAll (strs ss : List (DataW H))
    rw [List.sum_cons]
    unfold sumL at ih
    omega
set_option maxRecDepth 100000 in
/-- A slice of strings that came in, as a list of lists of bytes. -/
theorem open_strl {H : Type} {enc : TypeId × Value → H} {W : World} {base : Nat} {v : Value} {d : DataW H} {pl : List MemPlace}
    (hv : Value.okWide Tryd.prog W .any base 23 v) (h : DataW.Trod enc Tryd.prog W 0 (fun _ => true) true 23 v d pl) :
    ∃ A n c ts, v = .slice A n c ∧ Sl W W.heap.size 1 A n (ts.map str) ∧ n ≤ c ∧ c ≤ maxLen ∧ (∀ x ∈ ts, x.length ≤ maxLen) ∧ sumL ts ≤ Rows.uptoBulk d := by
  obtain ⟨a0, len, cap, rfl⟩ := okWide_slice Tryd.underlying23 hv
  obtain ⟨fuel, hf⟩ := h
  rcases open_strings Tryd.underlying23 Tryd.underlying9 (by kernel_rfl) hf with ⟨hcs, _⟩ | ⟨x, l, c, ss, hcs, _, hl, hm, hz, hx, hcell, hsz⟩
  · simp [Value.cells] at hcs
    obtain ⟨rfl, rfl, rfl⟩ := hcs
    exact ⟨none, 0, 0, [], rfl, Sl.nil_ _ _ _ _, Nat.le_refl _, Nat.zero_le _, (fun x h => by cases h), Nat.zero_le _⟩
  · simp [Value.cells] at hcs
    obtain ⟨rfl, rfl, rfl⟩ := hcs
    have hz : ss.length = cap := by simpa using hz
    refine ⟨some x, len, cap, (ss.take len).map (·.data.toList), rfl, ⟨by simp; omega, fun h0 => ?_⟩, hl, hm, ?_, ?_⟩
    · obtain ⟨b, off, spot⟩ := x
      have hspot : spot = none := by simpa [Addr.add] using World.cell?_spot (hcell 0 (by omega))
      subst hspot
      refine ⟨b, off, rfl, ?_, fun j u hu => ?_⟩
      · exact cell_lt (by have := hcell 0 (by omega); exact this)
      · have hj : j < len := by
          rcases Nat.lt_or_ge j len with h' | h'
          · exact h'
          · rw [List.getElem?_eq_none (by simp; omega)] at hu; cases hu
        have hjz : j < ss.length := by omega
        rw [← Go.WideShapes.add_plain, hcell j hjz, ← hu]
        simp [List.getD, hjz, hj, str]
    · intro y hy
      obtain ⟨s, hs, rfl⟩ := List.mem_map.1 hy
      have := hsz s (List.mem_of_mem_take hs)
      simpa using this
    · simp only [Prod.mk.injEq] at hx
      rw [hx.1]
      have := bulk_strs (H := H) (ss.take len)
      show _ ≤ Rows.uptoBulkAll (strs (ss.take len) : List (DataW H)) + _ + 1
      omega
end Go.Proofs.YtacecobfhaihhaaDoor

namespace Go.Proofs.YtacecobfhaihhaaDoor
open Go.ChangeShapes Go.WideShapes Go.ChangeAt Go.RowKit

theorem maxLen_of_shaped {W : World} (h : W.ShapedOpen Tryd.prog) : MaxLenOk W := Go.Proofs.Tryd.laysM219.s1_3 W h
end Go.Proofs.YtacecobfhaihhaaDoor



namespace Go.Proofs.YtacecobfhaihhaaDoor
open Go.RowKit

instance : DecidableEq LinkD := fun a b =>
  if h : a.frm = b.frm ∧ a.til = b.til ∧ a.text = b.text then isTrue (by obtain ⟨a1, a2, a3⟩ := a; obtain ⟨b1, b2, b3⟩ := b; obtain ⟨rfl, rfl, rfl⟩ := h; rfl)
  else isFalse (fun e => h (by subst e; exact ⟨rfl, rfl, rfl⟩))
theorem linkD_beq (a b : LinkD) : (a == b) = ((((a.frm : Nat) : Int) == ((b.frm : Nat) : Int)) && ((((a.til : Nat) : Int) == ((b.til : Nat) : Int)) && (a.text == b.text))) := by
  rw [Bool.eq_iff_iff]
  simp only [beq_iff_eq, Bool.and_eq_true]
  constructor
  · rintro rfl; exact ⟨rfl, rfl, rfl⟩
  · rintro ⟨h1, h2, h3⟩
    obtain ⟨a1, a2, a3⟩ := a
    obtain ⟨b1, b2, b3⟩ := b
    simp only at h1 h2 h3
    obtain rfl : a1 = b1 := by omega
    obtain rfl : a2 = b2 := by omega
    subst h3
    rfl
theorem neq_link (W : World) (a b : LinkD) : (binOp .neq 33 (.agg #[.int .i64 (a.frm : Nat), .int .i64 (a.til : Nat), str a.text]) (.agg #[.int .i64 (b.frm : Nat), .int .i64 (b.til : Nat), str b.text])).run Tryd.prog W = .ok (.bool (!(a == b))) W := by
  rw [linkD_beq, run_neq_struct, run_equalIn_agg _ _ _ _ _ (by kernel_rfl) (by kernel_rfl)]
  have hs : (Op.equalIn 9999 9 (str a.text) (str b.text)).run Tryd.prog W = .ok (a.text == b.text) W := by
    rw [str_eq, str_eq, run_equalIn_string W 9998 9 _ _ Tryd.underlying9]
    simp
  by_cases h1 : ((a.frm : Nat) : Int) = (b.frm : Nat)
  · by_cases h2 : ((a.til : Nat) : Int) = (b.til : Nat)
    · by_cases h3 : a.text = b.text
      · rw [h3] at hs
        go_simp
      · go_simp
    · go_simp
  · go_simp
def EqLRel (n : Nat) (ls ls' : List LinkD) (w : World) (iv : Value) (wr : World) : Prop :=
  ∃ i q : Nat, iv = .int .i64 (i : Nat) ∧ i ≤ n ∧ wr = w.drewN q ∧ Hid (ls.take i = ls'.take i)
set_option maxRecDepth 100000 in
set_option maxHeartbeats 1000000 in
theorem Equal_links (A A' : Option Addr) (n c n' c' B B' : Nat) (ls ls' : List LinkD) (w : World) (h : Sl w B 3 A n (linkC ls)) (h' : Sl w B' 3 A' n' (linkC ls')) (hn : n ≤ 1000000) (hn' : n' ≤ 1000000) :
    Calls Tryd.prog 10 #[.slice A n c, .slice A' n' c'] w fun e w' => e = .returned (.bool (ls == ls')) ∧ ∃ q, w' = w.drewN q := by
  have hl : ls.length = n := by have := h.1; rw [linkC_len] at this; omega
  have hl' : ls'.length = n' := by have := h'.1; rw [linkC_len] at this; omega
  by_cases hnn : n = n'
  · subst hnn
    have hne : ((n : Int) != (n : Int)) = false := by simp
    obtain ⟨R, hR⟩ : ∃ R, R = (ls == ls') := ⟨_, rfl⟩
    rw [← hR]
    have HR := Lib.hid hR
    have Hl := Lib.hid hl
    have Hl' := Lib.hid hl'
    clear hR hl hl'
    go_enter Tryd.func10, Tryd.ntmps10
    go_wp2_with fail
    go_loopw [13] (fun iv wr => EqLRel n ls ls' w iv wr) (fun iv _ => n - (intOf iv).toNat)
    case atStart => exact ⟨0, 0, rfl, Nat.zero_le _, rfl, rfl⟩
    case round =>
      obtain ⟨i, q, rfl, hi, rfl, hz⟩ := hrel
      by_cases hin : i < n
      · obtain ⟨b, off, x, rfl, _, hdx, x0, x1, x2⟩ := h.link i hin
        obtain ⟨b', off', x', rfl, _, hdx', x0', x1', x2'⟩ := h'.link i hin
        have hneq := fun W => neq_link W x x'
        have hget : ls.take (i + 1) = ls.take i ++ [x] ∧ ls'.take (i + 1) = ls'.take i ++ [x'] := by
          have e1 : ls[i]? = some x := by have := congrArg (fun l => l[0]?) hdx; simpa using this
          have e2 : ls'[i]? = some x' := by have := congrArg (fun l => l[0]?) hdx'; simpa using this
          rw [List.take_add_one, List.take_add_one, e1, e2]
          exact ⟨rfl, rfl⟩
        have Hget := Lib.hid hget
        clear hdx hdx' hget
        by_cases hxx : x = x'
        · have e : (x == x') = true := by simpa using hxx
          have Hxx := Lib.hid hxx
          rw [e] at hneq
          clear hxx e
          go_wp2_with fail
          go_quiet (fail)
          go_wp2_with fail
          refine ⟨⟨i + 1, _, by go_num, by omega, rfl, ?_⟩, by simp [intOf]; omega⟩
          show _ = _
          rw [Hget.out.1, Hget.out.2, hz.out, Hxx.out]
        · have e : (x == x') = false := by simpa using hxx
          have Hxx := Lib.hid hxx
          rw [e] at hneq
          clear hxx e
          go_wp2_with fail
          go_quiet (fail)
          go_wp2_with fail
          go_ret
          have hRf : R = false := by
            rw [HR.out, beq_eq_false_iff_ne]
            rintro rfl
            have := Hget.out.1.symm.trans Hget.out.2
            rw [List.append_cancel_left_eq] at this
            injection this with this
            exact Hxx.out this
          exact ⟨by rw [hRf]; rfl, _, World.drewN_drewN _ _ _⟩
      · obtain rfl : i = n := by omega
        have hRt : R = true := by
          rw [HR.out, beq_iff_eq]
          have := hz.out
          rw [List.take_of_length_le (by have := Hl.out; omega), List.take_of_length_le (by have := Hl'.out; omega)] at this
          exact this
        have HRt := Lib.hid hRt
        clear hRt
        go_wp2_with fail
        go_ret
        exact ⟨by rw [HRt.out]; rfl, _, rfl⟩
  · have hne : ((n : Int) != (n' : Int)) = true := by simp; omega
    have hR : (ls == ls') = false := by
      rw [beq_eq_false_iff_ne]; rintro rfl; exact hnn (hl.symm.trans hl')
    rw [hR]
    clear hR hnn hl hl'
    go_enter Tryd.func10, Tryd.ntmps10
    go_wp2_with fail
    go_ret
    exact ⟨rfl, 0, rfl⟩
end Go.Proofs.YtacecobfhaihhaaDoor

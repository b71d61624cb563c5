import Derived.Test.YtoolfhjlhhcbgaaDoorLk8
import Derived.Test.YtoolfhjlhhcbgaaDoorLinkR
namespace Go.Proofs.YtoolfhjlhhcbgaaDoor
open Go.RowKit
attribute [local go_sem high] cut_u8 mid_u8

/-- link.Find: its links, its error. -/
def findEnd : Option (List LinkD) → List LinkD × Nat
  | none => ([], 2)
  | some ls => (ls, 0)
def findE (l : List UInt8) : List LinkD × Nat := if 4000 < l.length then ([], 2) else findEnd (findB l)
def FindOut (T : List LinkD × Nat) (w : World) (e : Ending) (w' : World) : Prop :=
  ∃ S c, e = .returned (.tuple #[.slice S T.1.length c, .int .i64 (T.2 : Nat)]) ∧ w'.ownsRow w.heap.size 54 3 (.slice S T.1.length c) T.1.length (linkC T.1) ∧ Below w.heap.size w w'
def FindRel (w : World) (s : Nat) (v : Value) (n : Nat) (l : List UInt8) (R : Option (List LinkD)) (wr : World) : Prop :=
  ∃ (r : List UInt8) (f : Nat) (os : List LinkD) (S : Option Addr) (m c : Nat), r <:+ l ∧ m = os.length ∧ ScanIs wr s v (n - r.length) (.slice S m c) ∧ wr.ownsRow w.heap.size 54 3 (.slice S m c) m (linkC os) ∧ Below w.heap.size w wr ∧
    Hid (findL n f r os = R) ∧ r.length ≤ f ∧ os.length ≤ 60
theorem findL_none {n f : Nat} {r : List UInt8} {os : List LinkD} (hr : r ≠ []) (h : 60 < (stepL n (stopD (pIs 60) r) os).2.length) : findL n (f + 1) r os = none := by
  conv => lhs; unfold findL
  rw [if_neg hr, if_pos h]
theorem findL_more {n f : Nat} {r : List UInt8} {os : List LinkD} (hr : r ≠ []) (h : ¬ 60 < (stepL n (stopD (pIs 60) r) os).2.length) : findL n (f + 1) r os = findL n f (stepL n (stopD (pIs 60) r) os).1 (stepL n (stopD (pIs 60) r) os).2 := by
  conv => lhs; unfold findL
  rw [if_neg hr, if_neg h]
theorem tagL_len (n : Nat) (r : List UInt8) (shut : Bool) (out : List LinkD) (pos : Nat) (h : pos + r.length = n) : (tagL n r shut out).1.length ≤ r.length ∧ (tagL n r shut out).1 <:+ r := by
  rw [tagL_eq n r shut out pos h]
  have := tagP_app r shut
  refine ⟨tagP_2_len r shut, ?_⟩
  show (tagP r shut).2 <:+ r
  conv => rhs; rw [this]
  exact List.suffix_append _ _
set_option maxRecDepth 100000 in
set_option maxHeartbeats 4000000 in
theorem Find_any (A : Option Addr) (n c : Nat) (l : List UInt8) (w : World) (hM : MaxLenOk w) (hb : By w w.heap.size A n l) (hc : n ≤ c) (hcm : c ≤ maxLen) :
    Calls Tryd.prog 32 #[.slice A n c] w (FindOut (findE l) w) := by
  unfold maxLen at hcm
  have hnl := hb.len
  by_cases h4 : 4000 < n
  · have hR : findE l = ([], 2) := by unfold findE; rw [if_pos (by omega)]
    rw [hR]
    clear hR
    go_enter Tryd.func32, Tryd.ntmps32
    go_wp2_with fail
    go_ret2
    exact ⟨none, 0, rfl, World.ownsRow_nil _ _ _ _, Below.refl _ _⟩
  · obtain ⟨R, hR⟩ : ∃ R, R = findL n n l [] := ⟨_, rfl⟩
    have hT : findE l = findEnd R := by
      unfold findE findB
      rw [if_neg (by omega), hnl, hR]
    rw [hT]
    have HR := Lib.hid hR
    have Hnl := Lib.hid hnl
    have hM0 := hM
    clear hR hT hnl hM
    go_enter Tryd.func32, Tryd.ntmps32
    go_wp2_with fail
    obtain ⟨s, hs⟩ : ∃ s, s = w.heap.size := ⟨_, rfl⟩
    rw [← hs]
    have Hs := Lib.hid hs
    clear hs
    go_loopw [] (fun wr => FindRel w s (.slice A n c) n l R wr) (fun wr => n - atOf wr s)
    case atStart =>
      refine ⟨l, n, [], none, 0, 0, List.suffix_refl l, rfl, ?_, World.ownsRow_nil _ _ _ _, (Below.refl _ w).alloc (Nat.le_refl _) _, HR.out.symm, by have := Hnl.out; omega, by simp⟩
      rw [Hs.out, Hnl.out, Nat.sub_self]
      exact heap_alloc_new w _
    case round =>
      obtain ⟨r, f, os, S, m, cS, hr, hm, hS, hrow, hbel, hE, hf, h60⟩ := hrel
      have hat := scan_at hS
      have hrn : r.length ≤ n := by have := hr.length_le; have := Hnl.out; omega
      by_cases hr0 : r = []
      · have hRs : R = some os := by
          rw [← hE.out, hr0]; cases f <;> rfl
        rw [hr0] at hS
        simp only [List.length_nil, Nat.sub_zero] at hS
        have y0 := hS.c0
        have y1 := hS.c1
        have y2 := hS.c2
        have HRs := Lib.hid hRs
        have Hm := Lib.hid hm
        clear hRs hr0 hE hat hm hS
        go_wp2_with fail
        go_ret2
        rw [HRs.out]
        refine ⟨S, cS, by rw [Hm.out]; rfl, ?_, hbel⟩
        rw [Hm.out] at hrow
        exact hrow
      · have hpos : 0 < r.length := List.length_pos_iff.2 hr0
        obtain ⟨f', rfl⟩ : ∃ f', f = f' + 1 := ⟨f - 1, by omega⟩
        have hnone := findL_none (n := n) (f := f') (r := r) (os := os) hr0
        have hmore := findL_more (n := n) (f := f') (r := r) (os := os) hr0
        have hby := hb.below hbel
        have hsB : w.heap.size ≤ s := by rw [Hs.out]; exact Nat.le_refl _
        have ht := till_rest 69 #[] (enters_of Tryd.func69 (by kernel_rfl) rfl) (pIs 60) _ predFind s A n c w.heap.size (.slice S m cS) l r wr hS hr hby hsB (by omega) (fun _ _ => trivial)
        have hr1 : stopD (pIs 60) r <:+ l := (stopD_suffix _ r).trans hr
        have hr1n := stopD_len (pIs 60) r
        obtain ⟨r1, hr1E⟩ : ∃ r1, r1 = stopD (pIs 60) r := ⟨_, rfl⟩
        rw [← hr1E] at ht hnone hmore hr1 hr1n
        obtain ⟨a1, ha1⟩ : ∃ a1, a1 = n - r1.length := ⟨_, rfl⟩
        rw [← ha1] at ht
        have ha1n : a1 ≤ n := by omega
        have ha0 : ∃ a0, a0 = n - r.length := ⟨_, rfl⟩
        obtain ⟨a0, ha0⟩ := ha0
        rw [← ha0] at hS hat
        have ha0n : a0 < n := by omega
        have y0 := hS.c0
        have y1 := hS.c1
        have Ht := Lib.hid ht
        have HS := Lib.hid hS
        have Hrow := Lib.hid hrow
        have Hm := Lib.hid hm
        have Hnone := Lib.hid hnone
        have Hmore := Lib.hid hmore
        have Ha1 := Lib.hid ha1
        have Ha0 := Lib.hid ha0
        have Hat := Lib.hid hat
        have HE := Lib.hid hE
        have Hr1E := Lib.hid hr1E
        have hbelsz := hbel.size
        clear ht hS hrow hm hnone hmore ha1 ha0 hat hE hr1E hr0 hby
        go_wp2_with fail
        refine Ht.out.mono ?_
        clear Ht y0 y1
        rintro e w2 ⟨rfl, hS2, hg2⟩
        have hbel2 : Below w.heap.size w w2 := hbel.grown hg2 hbelsz (fun k hk => by injection hk with hk; omega)
        have hrow2 := Hrow.out.kept hg2 (.inr (own_ne_scan HS.out Hrow.out))
        have hM2 : MaxLenOk w2 := hM0.below hbel2
        have hb2 := hb.below hbel2
        have y0 := hS2.c0
        have y1 := hS2.c1
        have yf := hS2.fz 1
        have y2 := hS2.c2
        have hcut := hb2.cutR hr1 hc
        rw [← Ha1.out] at hcut
        have hts := run_toStr (P := Tryd.prog) w2 22 9 5 _ (cutA A c a1 1) (n - a1) (c - a1) r1 hcut Tryd.underlying22 Tryd.underlying5 Tryd.underlying9
        have HS2 := Lib.hid hS2
        have Hrow2 := Lib.hid hrow2
        have HM2 := Lib.hid hM2
        have hsz2 := hbel2.size
        have hm60 : m ≤ 60 := by have := Hm.out; omega
        have hst : ∃ Q, Q = stepL n r1 os := ⟨_, rfl⟩
        clear hS2 hg2 hrow2 hM2 hcut HS Hrow
        have p1 := fun W => HasPrefix_any r1 [60, 33, 45, 45] W
        have p2 := fun W => HasPrefix_any r1 [60, 33] W
        have p3 := fun W => HasPrefix_any r1 [60, 63] W
        have hr1l : r1.length ≤ n := by omega
        by_cases c1 : Lib.hasPrefix r1 [60, 33, 45, 45] = true
        · have h4l : 4 ≤ r1.length := (List.isPrefixOf_iff_prefix.1 c1).length_le
          have hst : stepL n r1 os = (pastL [45, 45, 62] (r1.drop 4), os) := by unfold stepL; rw [if_pos c1]
          rw [c1] at p1
          have P1 := Lib.hid p1
          have hS3 : ScanIs (w2.setCell ⟨s, 1, none⟩ (.int .i64 ((a1 : Int) + 4))) s (.slice A n c) (n - (r1.drop 4).length) (.slice S m cS) := by
            have h := HS2.out.set1 (a1 + 4)
            have e : n - (r1.drop 4).length = a1 + 4 := by rw [List.length_drop]; have := Ha1.out; omega
            rw [e]
            exact h
          have hg3 := grown_set w2 s 1 (.int .i64 ((a1 : Int) + 4))
          have hbel3 := hbel2.setCell (p := ⟨s, 1, none⟩) hsB (.int .i64 ((a1 : Int) + 4))
          have hrow3 := Hrow2.out.kept hg3 (.inr (own_ne_scan HS2.out Hrow2.out))
          have hp := past_any [45, 45, 62] s A n c w.heap.size (.slice S m cS) l (r1.drop 4) _ (hM0.below hbel3) (by decide) hS3 ((List.drop_suffix 4 r1).trans hr1) (hb.below hbel3) hsB (by omega) hc
          have Hp := Lib.hid hp
          have HS3 := Lib.hid hS3
          have Hrow3 := Lib.hid hrow3
          have Hst0 := Lib.hid hst
          have ha14 : a1 + 4 ≤ n := by have := Ha1.out; omega
          clear hp hS3 hg3 hrow3 hst c1 p1 p2 p3
          go_wp2_with fail
          refine (P1.out _).mono ?_
          rintro e w2x ⟨rfl, rfl⟩
          go_wp2_with fail
          refine Hp.out.mono ?_
          clear Hp
          rintro e w9 ⟨rfl, hS9, hg9⟩
          have hbel9 : Below w.heap.size w w9 := hbel3.grown hg9 hbel3.size (fun k hk => by injection hk with hk; omega)
          have hrow9 := Hrow3.out.kept hg9 (.inr (own_ne_scan HS3.out Hrow3.out))
          obtain ⟨rr, hrrE⟩ : ∃ rr, rr = pastL [45, 45, 62] (r1.drop 4) := ⟨_, rfl⟩
          obtain ⟨os9, m9, S9, c9, hm9, hos9, hm9E, hS9E, hc9E⟩ : ∃ os9 m9 S9 c9, m9 = os9.length ∧ os9 = os ∧ m9 = m ∧ S9 = S ∧ c9 = cS := ⟨os, m, S, cS, Hm.out, rfl, rfl, rfl, rfl⟩
          have hst : stepL n r1 os = (rr, os9) := by rw [Hst0.out, hrrE, hos9]
          have hrr : rr <:+ l := by rw [hrrE]; exact ((pastL_suffix _ _).trans (List.drop_suffix 4 r1)).trans hr1
          have hrrlt : rr.length < r.length := by rw [hrrE]; have := (pastL_suffix [45, 45, 62] (r1.drop 4)).length_le; rw [List.length_drop] at this; omega
          rw [← hrrE, ← hS9E, ← hm9E, ← hc9E] at hS9
          rw [← hS9E, ← hm9E, ← hc9E, ← hos9] at hrow9
          clear hrrE hos9 hm9E hS9E hc9E HS3 Hrow3 hg9 y0 y1 y2 yf
          -- behind the switch
          have hbel9 : Below w.heap.size w w9 := hbel9
          have y2 := hS9.c2
          have HS9 := Lib.hid hS9
          have Hrow9 := Lib.hid hrow9
          have Hm9 := Lib.hid hm9
          have Hst := Lib.hid hst
          have Hat9 := Lib.hid (scan_at hS9)
          have hrr : rr <:+ l := hrr
          have hrrlt : rr.length < r.length := hrrlt
          clear hS9 hrow9 hm9 hst
          by_cases h60' : 60 < m9
          · go_wp2_with fail
            go_ret2
            have hRn : R = none := by
              rw [← HE.out]
              exact Hnone.out (by rw [Hst.out, ← Hm9.out]; exact h60')
            rw [hRn]
            exact ⟨none, 0, rfl, World.ownsRow_nil _ _ _ _, hbel9⟩
          · go_wp2_with fail
            refine ⟨⟨rr, f', os9, S9, m9, c9, hrr, Hm9.out, HS9.out, Hrow9.out, hbel9, ?_, by omega, by have := Hm9.out; omega⟩, ?_⟩
            · show _ = R
              rw [← HE.out, Hmore.out (by rw [Hst.out, ← Hm9.out]; exact h60'), Hst.out]
            · rw [Hat9.out, Hat.out, Ha0.out]
              omega
        · have c1f : Lib.hasPrefix r1 [60, 33, 45, 45] = false := by simpa using c1
          rw [c1f] at p1
          have P1 := Lib.hid p1
          by_cases c2 : (Lib.hasPrefix r1 [60, 33] || Lib.hasPrefix r1 [60, 63]) = true
          · have h2l : 2 ≤ r1.length := by
              rcases Bool.or_eq_true_iff.1 c2 with h | h
              · exact (List.isPrefixOf_iff_prefix.1 h).length_le
              · exact (List.isPrefixOf_iff_prefix.1 h).length_le
            have hst : stepL n r1 os = (pastL [62] r1, os) := by unfold stepL; rw [if_neg c1, if_pos c2]
            have hp := past_any [62] s A n c w.heap.size (.slice S m cS) l r1 w2 HM2.out (by decide) (by rw [← Ha1.out]; exact HS2.out) hr1 hb2 hsB (by omega) hc
            have Hp := Lib.hid hp
            have Hst0 := Lib.hid hst
            have hlt : (pastL [62] r1).length < r1.length := by
              unfold pastL
              split
              · simp; omega
              · rw [List.length_drop]; simp only [List.length_singleton]; omega
            have Hlt := Lib.hid hlt
            by_cases c2a : Lib.hasPrefix r1 [60, 33] = true
            case' pos =>
              rw [c2a] at p2
              have P2 := Lib.hid p2
              clear hp hst c1 c1f c2 c2a p1 p2 p3 hlt
              go_wp2_with fail
              refine (P1.out _).mono ?_
              rintro e w2x ⟨rfl, rfl⟩
              go_wp2_with fail
              refine (P2.out _).mono ?_
              rintro e w2x ⟨rfl, rfl⟩
              go_wp2_with fail
            case' neg =>
              have c2f : Lib.hasPrefix r1 [60, 33] = false := by simpa using c2a
              have c3 : Lib.hasPrefix r1 [60, 63] = true := by rw [c2f, Bool.false_or] at c2; exact c2
              rw [c2f] at p2
              rw [c3] at p3
              have P2 := Lib.hid p2
              have P3 := Lib.hid p3
              clear hp hst c1 c1f c2 c2a c2f c3 p1 p2 p3 hlt
              go_wp2_with fail
              refine (P1.out _).mono ?_
              rintro e w2x ⟨rfl, rfl⟩
              go_wp2_with fail
              refine (P2.out _).mono ?_
              rintro e w2x ⟨rfl, rfl⟩
              go_wp2_with fail
              refine (P3.out _).mono ?_
              rintro e w2x ⟨rfl, rfl⟩
              go_wp2_with fail
            all_goals
              refine Hp.out.mono ?_
              clear Hp
              rintro e w9 ⟨rfl, hS9, hg9⟩
              have hbel9 : Below w.heap.size w w9 := hbel2.grown hg9 hbel2.size (fun k hk => by injection hk with hk; omega)
              have hrow9 := Hrow2.out.kept hg9 (.inr (own_ne_scan HS2.out Hrow2.out))
              obtain ⟨rr, hrrE⟩ : ∃ rr, rr = pastL [62] r1 := ⟨_, rfl⟩
              obtain ⟨os9, m9, S9, c9, hm9, hos9, hm9E, hS9E, hc9E⟩ : ∃ os9 m9 S9 c9, m9 = os9.length ∧ os9 = os ∧ m9 = m ∧ S9 = S ∧ c9 = cS := ⟨os, m, S, cS, Hm.out, rfl, rfl, rfl, rfl⟩
              have hst : stepL n r1 os = (rr, os9) := by rw [Hst0.out, hrrE, hos9]
              have hrr : rr <:+ l := by rw [hrrE]; exact (pastL_suffix _ _).trans hr1
              have hrrlt : rr.length < r.length := by rw [hrrE]; have := Hlt.out; omega
              rw [← hrrE, ← hS9E, ← hm9E, ← hc9E] at hS9
              rw [← hS9E, ← hm9E, ← hc9E, ← hos9] at hrow9
              clear hrrE hos9 hm9E hS9E hc9E hg9 y0 y1 y2 yf
              -- behind the switch
              have hbel9 : Below w.heap.size w w9 := hbel9
              have y2 := hS9.c2
              have HS9 := Lib.hid hS9
              have Hrow9 := Lib.hid hrow9
              have Hm9 := Lib.hid hm9
              have Hst := Lib.hid hst
              have Hat9 := Lib.hid (scan_at hS9)
              have hrr : rr <:+ l := hrr
              have hrrlt : rr.length < r.length := hrrlt
              clear hS9 hrow9 hm9 hst
              by_cases h60' : 60 < m9
              · go_wp2_with fail
                go_ret2
                have hRn : R = none := by
                  rw [← HE.out]
                  exact Hnone.out (by rw [Hst.out, ← Hm9.out]; exact h60')
                rw [hRn]
                exact ⟨none, 0, rfl, World.ownsRow_nil _ _ _ _, hbel9⟩
              · go_wp2_with fail
                refine ⟨⟨rr, f', os9, S9, m9, c9, hrr, Hm9.out, HS9.out, Hrow9.out, hbel9, ?_, by omega, by have := Hm9.out; omega⟩, ?_⟩
                · show _ = R
                  rw [← HE.out, Hmore.out (by rw [Hst.out, ← Hm9.out]; exact h60'), Hst.out]
                · rw [Hat9.out, Hat.out, Ha0.out]
                  omega
          · have c2f : Lib.hasPrefix r1 [60, 33] = false ∧ Lib.hasPrefix r1 [60, 63] = false := by
              cases h : Lib.hasPrefix r1 [60, 33] <;> cases h' : Lib.hasPrefix r1 [60, 63] <;> simp_all
            rw [c2f.1] at p2
            rw [c2f.2] at p3
            have P2 := Lib.hid p2
            have P3 := Lib.hid p3
            clear p1 p2 p3 c1f c2f
            have hL1 := fun W => letter_any (nth r1 1) (nth_lt r1 1) W
            have hL2 := fun W => letter_any (nth r1 2) (nth_lt r1 2) W
            have hos1000 : os.length ≤ 1000 := by omega
            by_cases q1 : 1 < r1.length
            · by_cases q2 : isLet (nth r1 1) = true
              · rw [q2] at hL1
                have HL1 := Lib.hid hL1
                have hst : stepL n r1 os = tagL n (r1.drop 1) false os := by unfold stepL; rw [if_neg c1, if_neg c2, if_pos (by rw [q2]; simpa using q1)]
                have hS3 : ScanIs (w2.setCell ⟨s, 1, none⟩ (.int .i64 ((a1 : Int) + 1))) s (.slice A n c) (n - (r1.drop 1).length) (.slice S m cS) := by
                  have h := HS2.out.set1 (a1 + 1)
                  have e : n - (r1.drop 1).length = a1 + 1 := by rw [List.length_drop]; have := Ha1.out; omega
                  rw [e]
                  exact h
                have hg3 := grown_set w2 s 1 (.int .i64 ((a1 : Int) + 1))
                have hbel3 := hbel2.setCell (p := ⟨s, 1, none⟩) hsB (.int .i64 ((a1 : Int) + 1))
                have hrow3 := Hrow2.out.kept hg3 (.inr (own_ne_scan HS2.out Hrow2.out))
                have hdl : (r1.drop 1).length = r1.length - 1 := List.length_drop ..
                have htag := tag_any s A n c w.heap.size S m cS os l (r1.drop 1) false _ (hM0.below hbel3) hS3 Hm.out hrow3 hos1000 ((List.drop_suffix 1 r1).trans hr1) (hb.below hbel3) hsB hbel3.size (by omega) hc
                have htl := tagL_len n (r1.drop 1) false os (n - (r1.drop 1).length) (by omega)
                have Htag := Lib.hid htag
                have Hst0 := Lib.hid hst
                have Htl := Lib.hid htl
                have Hdl := Lib.hid hdl
                have ha14 : a1 + 1 ≤ n := by have := Ha1.out; omega
                clear htag hS3 hg3 hrow3 hst htl hdl
                clear c1 c2 hL1 hL2
                go_wp2_with fail
                refine (P1.out _).mono ?_
                rintro e w2x ⟨rfl, rfl⟩
                go_wp2_with fail
                refine (P2.out _).mono ?_
                rintro e w2x ⟨rfl, rfl⟩
                go_wp2_with fail
                refine (P3.out _).mono ?_
                rintro e w2x ⟨rfl, rfl⟩
                go_wp2_with fail
                refine (HL1.out _).mono ?_
                rintro e w2x ⟨rfl, rfl⟩
                go_wp2_with fail
                refine Htag.out.mono ?_
                clear Htag
                rintro e w9 ⟨rfl, S9, c9, hS9, hrow9, hb9⟩
                have hbel9 : Below w.heap.size w w9 := hbel3.trans hb9
                obtain ⟨rr, hrrE⟩ : ∃ rr, rr = (tagL n (r1.drop 1) false os).1 := ⟨_, rfl⟩
                obtain ⟨os9, hos9⟩ : ∃ os9, os9 = (tagL n (r1.drop 1) false os).2 := ⟨_, rfl⟩
                obtain ⟨m9, hm9⟩ : ∃ m9, m9 = os9.length := ⟨_, rfl⟩
                have hst : stepL n r1 os = (rr, os9) := by rw [Hst0.out, hrrE, hos9]
                have hrr : rr <:+ l := by rw [hrrE]; exact (Htl.out.2.trans (List.drop_suffix 1 r1)).trans hr1
                have hrrlt : rr.length < r.length := by rw [hrrE]; have := Htl.out.1; have := Hdl.out; omega
                rw [← hrrE, ← hos9, ← hm9] at hS9
                rw [← hos9, ← hm9] at hrow9
                clear hrrE hos9 hb9 y0 y1 y2 yf
                -- behind the switch
                have hbel9 : Below w.heap.size w w9 := hbel9
                have y2 := hS9.c2
                have HS9 := Lib.hid hS9
                have Hrow9 := Lib.hid hrow9
                have Hm9 := Lib.hid hm9
                have Hst := Lib.hid hst
                have Hat9 := Lib.hid (scan_at hS9)
                have hrr : rr <:+ l := hrr
                have hrrlt : rr.length < r.length := hrrlt
                clear hS9 hrow9 hm9 hst
                by_cases h60' : 60 < m9
                · go_wp2_with fail
                  go_ret2
                  have hRn : R = none := by
                    rw [← HE.out]
                    exact Hnone.out (by rw [Hst.out, ← Hm9.out]; exact h60')
                  rw [hRn]
                  exact ⟨none, 0, rfl, World.ownsRow_nil _ _ _ _, hbel9⟩
                · go_wp2_with fail
                  refine ⟨⟨rr, f', os9, S9, m9, c9, hrr, Hm9.out, HS9.out, Hrow9.out, hbel9, ?_, by omega, by have := Hm9.out; omega⟩, ?_⟩
                  · show _ = R
                    rw [← HE.out, Hmore.out (by rw [Hst.out, ← Hm9.out]; exact h60'), Hst.out]
                  · rw [Hat9.out, Hat.out, Ha0.out]
                    omega
              · have q2f : isLet (nth r1 1) = false := by simpa using q2
                rw [q2f] at hL1
                have HL1 := Lib.hid hL1
                by_cases q3 : 2 < r1.length
                · by_cases q4 : nth r1 1 = 47
                  · have d47 : (((nth r1 1 : Nat) : Int) == 47) = true := by rw [q4]; rfl
                    by_cases q5 : isLet (nth r1 2) = true
                    · rw [q5] at hL2
                      have HL2 := Lib.hid hL2
                      have hst : stepL n r1 os = tagL n (r1.drop 2) true os := by unfold stepL; rw [if_neg c1, if_neg c2, if_neg (by rw [q2f]; simp), if_pos (by rw [q5, q4]; simpa using q3)]
                      have Hst9 := Lib.hid hst
                      clear hst q4
                      have hst : stepL n r1 os = tagL n (r1.drop 2) true os := Hst9.out
                      have hS3 : ScanIs (w2.setCell ⟨s, 1, none⟩ (.int .i64 ((a1 : Int) + 2))) s (.slice A n c) (n - (r1.drop 2).length) (.slice S m cS) := by
                        have h := HS2.out.set1 (a1 + 2)
                        have e : n - (r1.drop 2).length = a1 + 2 := by rw [List.length_drop]; have := Ha1.out; omega
                        rw [e]
                        exact h
                      have hg3 := grown_set w2 s 1 (.int .i64 ((a1 : Int) + 2))
                      have hbel3 := hbel2.setCell (p := ⟨s, 1, none⟩) hsB (.int .i64 ((a1 : Int) + 2))
                      have hrow3 := Hrow2.out.kept hg3 (.inr (own_ne_scan HS2.out Hrow2.out))
                      have hdl : (r1.drop 2).length = r1.length - 2 := List.length_drop ..
                      have htag := tag_any s A n c w.heap.size S m cS os l (r1.drop 2) true _ (hM0.below hbel3) hS3 Hm.out hrow3 hos1000 ((List.drop_suffix 2 r1).trans hr1) (hb.below hbel3) hsB hbel3.size (by omega) hc
                      have htl := tagL_len n (r1.drop 2) true os (n - (r1.drop 2).length) (by omega)
                      have Htag := Lib.hid htag
                      have Hst0 := Lib.hid hst
                      have Htl := Lib.hid htl
                      have Hdl := Lib.hid hdl
                      have ha14 : a1 + 2 ≤ n := by have := Ha1.out; omega
                      clear htag hS3 hg3 hrow3 hst htl hdl
                      clear c1 c2 hL1 hL2
                      go_wp2_with fail
                      refine (P1.out _).mono ?_
                      rintro e w2x ⟨rfl, rfl⟩
                      go_wp2_with fail
                      refine (P2.out _).mono ?_
                      rintro e w2x ⟨rfl, rfl⟩
                      go_wp2_with fail
                      refine (P3.out _).mono ?_
                      rintro e w2x ⟨rfl, rfl⟩
                      go_wp2_with fail
                      refine (HL1.out _).mono ?_
                      rintro e w2x ⟨rfl, rfl⟩
                      go_wp2_with fail
                      refine (HL2.out _).mono ?_
                      rintro e w2x ⟨rfl, rfl⟩
                      go_wp2_with fail
                      refine Htag.out.mono ?_
                      clear Htag
                      rintro e w9 ⟨rfl, S9, c9, hS9, hrow9, hb9⟩
                      have hbel9 : Below w.heap.size w w9 := hbel3.trans hb9
                      obtain ⟨rr, hrrE⟩ : ∃ rr, rr = (tagL n (r1.drop 2) true os).1 := ⟨_, rfl⟩
                      obtain ⟨os9, hos9⟩ : ∃ os9, os9 = (tagL n (r1.drop 2) true os).2 := ⟨_, rfl⟩
                      obtain ⟨m9, hm9⟩ : ∃ m9, m9 = os9.length := ⟨_, rfl⟩
                      have hst : stepL n r1 os = (rr, os9) := by rw [Hst0.out, hrrE, hos9]
                      have hrr : rr <:+ l := by rw [hrrE]; exact (Htl.out.2.trans (List.drop_suffix 2 r1)).trans hr1
                      have hrrlt : rr.length < r.length := by rw [hrrE]; have := Htl.out.1; have := Hdl.out; omega
                      rw [← hrrE, ← hos9, ← hm9] at hS9
                      rw [← hos9, ← hm9] at hrow9
                      clear hrrE hos9 hb9 y0 y1 y2 yf
                      -- behind the switch
                      have hbel9 : Below w.heap.size w w9 := hbel9
                      have y2 := hS9.c2
                      have HS9 := Lib.hid hS9
                      have Hrow9 := Lib.hid hrow9
                      have Hm9 := Lib.hid hm9
                      have Hst := Lib.hid hst
                      have Hat9 := Lib.hid (scan_at hS9)
                      have hrr : rr <:+ l := hrr
                      have hrrlt : rr.length < r.length := hrrlt
                      clear hS9 hrow9 hm9 hst
                      by_cases h60' : 60 < m9
                      · go_wp2_with fail
                        go_ret2
                        have hRn : R = none := by
                          rw [← HE.out]
                          exact Hnone.out (by rw [Hst.out, ← Hm9.out]; exact h60')
                        rw [hRn]
                        exact ⟨none, 0, rfl, World.ownsRow_nil _ _ _ _, hbel9⟩
                      · go_wp2_with fail
                        refine ⟨⟨rr, f', os9, S9, m9, c9, hrr, Hm9.out, HS9.out, Hrow9.out, hbel9, ?_, by omega, by have := Hm9.out; omega⟩, ?_⟩
                        · show _ = R
                          rw [← HE.out, Hmore.out (by rw [Hst.out, ← Hm9.out]; exact h60'), Hst.out]
                        · rw [Hat9.out, Hat.out, Ha0.out]
                          omega
                    · have q5f : isLet (nth r1 2) = false := by simpa using q5
                      rw [q5f] at hL2
                      have HL2 := Lib.hid hL2
                      have hst : stepL n r1 os = (r1.drop 1, os) := by unfold stepL; rw [if_neg c1, if_neg c2, if_neg (by rw [q2f]; simp), if_neg (by rw [q5f]; simp)]
                      have Hst9 := Lib.hid hst
                      clear hst q4
                      have hst : stepL n r1 os = (r1.drop 1, os) := Hst9.out
                      have b0 : (r1 == ([] : List UInt8)) = false := by cases r1 with | nil => simp at q1 | cons _ _ => rfl
                      have hl1 : 1 ≤ r1.length := by cases r1 with | nil => cases b0 | cons _ _ => simp
                      obtain ⟨rr, hrrE⟩ : ∃ rr, rr = r1.drop 1 := ⟨_, rfl⟩
                      have hrrl : rr.length = r1.length - 1 := by rw [hrrE, List.length_drop]
                      have ha14 : a1 + 1 ≤ n := by have := Ha1.out; omega
                      have hS9 : ScanIs (w2.setCell ⟨s, 1, none⟩ (.int .i64 ((a1 : Int) + 1))) s (.slice A n c) (n - rr.length) (.slice S m cS) := by
                        have h := HS2.out.set1 (a1 + 1)
                        have e : n - rr.length = a1 + 1 := by rw [hrrl]; have := Ha1.out; omega
                        rw [e]
                        exact h
                      have hbel9 := hbel2.setCell (p := ⟨s, 1, none⟩) hsB (.int .i64 ((a1 : Int) + 1))
                      have hrow9 := Hrow2.out.kept (grown_set w2 s 1 (.int .i64 ((a1 : Int) + 1))) (.inr (own_ne_scan HS2.out Hrow2.out))
                      obtain ⟨os9, m9, S9, c9, hm9, hos9, hm9E, hS9E, hc9E⟩ : ∃ os9 m9 S9 c9, m9 = os9.length ∧ os9 = os ∧ m9 = m ∧ S9 = S ∧ c9 = cS := ⟨os, m, S, cS, Hm.out, rfl, rfl, rfl, rfl⟩
                      have hst : stepL n r1 os = (rr, os9) := by rw [hst, hrrE, hos9]
                      have hrr : rr <:+ l := by rw [hrrE]; exact (List.drop_suffix 1 r1).trans hr1
                      have hrrlt : rr.length < r.length := by omega
                      subst hos9 hm9E hS9E hc9E
                      clear hrrE hrrl
                      clear c1 c2 hL1 hL2
                      go_wp2_with fail
                      refine (P1.out _).mono ?_
                      rintro e w2x ⟨rfl, rfl⟩
                      go_wp2_with fail
                      refine (P2.out _).mono ?_
                      rintro e w2x ⟨rfl, rfl⟩
                      go_wp2_with fail
                      refine (P3.out _).mono ?_
                      rintro e w2x ⟨rfl, rfl⟩
                      go_wp2_with fail
                      refine (HL1.out _).mono ?_
                      rintro e w2x ⟨rfl, rfl⟩
                      go_wp2_with fail
                      refine (HL2.out _).mono ?_
                      rintro e w2x ⟨rfl, rfl⟩
                      -- behind the switch
                      have hbel9 : Below w.heap.size w (w2.setCell ⟨s, 1, none⟩ (.int .i64 ((a1 : Int) + 1))) := hbel9
                      have y2 := hS9.c2
                      have HS9 := Lib.hid hS9
                      have Hrow9 := Lib.hid hrow9
                      have Hm9 := Lib.hid hm9
                      have Hst := Lib.hid hst
                      have Hat9 := Lib.hid (scan_at hS9)
                      have hrr : rr <:+ l := hrr
                      have hrrlt : rr.length < r.length := hrrlt
                      clear hS9 hrow9 hm9 hst
                      by_cases h60' : 60 < m9
                      · exact absurd h60' (by omega)
                      · go_wp2_with fail
                        refine ⟨⟨rr, f', os9, S9, m9, c9, hrr, Hm9.out, HS9.out, Hrow9.out, hbel9, ?_, by omega, by have := Hm9.out; omega⟩, ?_⟩
                        · show _ = R
                          rw [← HE.out, Hmore.out (by rw [Hst.out, ← Hm9.out]; exact h60'), Hst.out]
                        · rw [Hat9.out, Hat.out, Ha0.out]
                          omega
                  · have d47 : (((nth r1 1 : Nat) : Int) == 47) = false := by rw [beq_eq_false_iff_ne]; omega
                    have q4b : (nth r1 1 == 47) = false := by simpa using q4
                    have hst : stepL n r1 os = (r1.drop 1, os) := by unfold stepL; rw [if_neg c1, if_neg c2, if_neg (by rw [q2f]; simp), if_neg (by rw [q4b]; simp)]
                    have Hst9 := Lib.hid hst
                    clear hst q4 q4b
                    have hst : stepL n r1 os = (r1.drop 1, os) := Hst9.out
                    have b0 : (r1 == ([] : List UInt8)) = false := by cases r1 with | nil => simp at q1 | cons _ _ => rfl
                    have hl1 : 1 ≤ r1.length := by cases r1 with | nil => cases b0 | cons _ _ => simp
                    obtain ⟨rr, hrrE⟩ : ∃ rr, rr = r1.drop 1 := ⟨_, rfl⟩
                    have hrrl : rr.length = r1.length - 1 := by rw [hrrE, List.length_drop]
                    have ha14 : a1 + 1 ≤ n := by have := Ha1.out; omega
                    have hS9 : ScanIs (w2.setCell ⟨s, 1, none⟩ (.int .i64 ((a1 : Int) + 1))) s (.slice A n c) (n - rr.length) (.slice S m cS) := by
                      have h := HS2.out.set1 (a1 + 1)
                      have e : n - rr.length = a1 + 1 := by rw [hrrl]; have := Ha1.out; omega
                      rw [e]
                      exact h
                    have hbel9 := hbel2.setCell (p := ⟨s, 1, none⟩) hsB (.int .i64 ((a1 : Int) + 1))
                    have hrow9 := Hrow2.out.kept (grown_set w2 s 1 (.int .i64 ((a1 : Int) + 1))) (.inr (own_ne_scan HS2.out Hrow2.out))
                    obtain ⟨os9, m9, S9, c9, hm9, hos9, hm9E, hS9E, hc9E⟩ : ∃ os9 m9 S9 c9, m9 = os9.length ∧ os9 = os ∧ m9 = m ∧ S9 = S ∧ c9 = cS := ⟨os, m, S, cS, Hm.out, rfl, rfl, rfl, rfl⟩
                    have hst : stepL n r1 os = (rr, os9) := by rw [hst, hrrE, hos9]
                    have hrr : rr <:+ l := by rw [hrrE]; exact (List.drop_suffix 1 r1).trans hr1
                    have hrrlt : rr.length < r.length := by omega
                    subst hos9 hm9E hS9E hc9E
                    clear hrrE hrrl
                    clear c1 c2 hL1 hL2
                    go_wp2_with fail
                    refine (P1.out _).mono ?_
                    rintro e w2x ⟨rfl, rfl⟩
                    go_wp2_with fail
                    refine (P2.out _).mono ?_
                    rintro e w2x ⟨rfl, rfl⟩
                    go_wp2_with fail
                    refine (P3.out _).mono ?_
                    rintro e w2x ⟨rfl, rfl⟩
                    go_wp2_with fail
                    refine (HL1.out _).mono ?_
                    rintro e w2x ⟨rfl, rfl⟩
                    -- behind the switch
                    have hbel9 : Below w.heap.size w (w2.setCell ⟨s, 1, none⟩ (.int .i64 ((a1 : Int) + 1))) := hbel9
                    have y2 := hS9.c2
                    have HS9 := Lib.hid hS9
                    have Hrow9 := Lib.hid hrow9
                    have Hm9 := Lib.hid hm9
                    have Hst := Lib.hid hst
                    have Hat9 := Lib.hid (scan_at hS9)
                    have hrr : rr <:+ l := hrr
                    have hrrlt : rr.length < r.length := hrrlt
                    clear hS9 hrow9 hm9 hst
                    by_cases h60' : 60 < m9
                    · exact absurd h60' (by omega)
                    · go_wp2_with fail
                      refine ⟨⟨rr, f', os9, S9, m9, c9, hrr, Hm9.out, HS9.out, Hrow9.out, hbel9, ?_, by omega, by have := Hm9.out; omega⟩, ?_⟩
                      · show _ = R
                        rw [← HE.out, Hmore.out (by rw [Hst.out, ← Hm9.out]; exact h60'), Hst.out]
                      · rw [Hat9.out, Hat.out, Ha0.out]
                        omega
                · have q3f : ¬ ((decide (2 < r1.length) && nth r1 1 == 47 && isLet (nth r1 2)) = true) := by
                    have : decide (2 < r1.length) = false := by simpa using q3
                    rw [this]; simp
                  have hst : stepL n r1 os = (r1.drop 1, os) := by unfold stepL; rw [if_neg c1, if_neg c2, if_neg (by rw [q2f]; simp), if_neg q3f]
                  have Hst9 := Lib.hid hst
                  clear hst q3f
                  have hst : stepL n r1 os = (r1.drop 1, os) := Hst9.out
                  have b0 : (r1 == ([] : List UInt8)) = false := by cases r1 with | nil => simp at q1 | cons _ _ => rfl
                  have hl1 : 1 ≤ r1.length := by cases r1 with | nil => cases b0 | cons _ _ => simp
                  obtain ⟨rr, hrrE⟩ : ∃ rr, rr = r1.drop 1 := ⟨_, rfl⟩
                  have hrrl : rr.length = r1.length - 1 := by rw [hrrE, List.length_drop]
                  have ha14 : a1 + 1 ≤ n := by have := Ha1.out; omega
                  have hS9 : ScanIs (w2.setCell ⟨s, 1, none⟩ (.int .i64 ((a1 : Int) + 1))) s (.slice A n c) (n - rr.length) (.slice S m cS) := by
                    have h := HS2.out.set1 (a1 + 1)
                    have e : n - rr.length = a1 + 1 := by rw [hrrl]; have := Ha1.out; omega
                    rw [e]
                    exact h
                  have hbel9 := hbel2.setCell (p := ⟨s, 1, none⟩) hsB (.int .i64 ((a1 : Int) + 1))
                  have hrow9 := Hrow2.out.kept (grown_set w2 s 1 (.int .i64 ((a1 : Int) + 1))) (.inr (own_ne_scan HS2.out Hrow2.out))
                  obtain ⟨os9, m9, S9, c9, hm9, hos9, hm9E, hS9E, hc9E⟩ : ∃ os9 m9 S9 c9, m9 = os9.length ∧ os9 = os ∧ m9 = m ∧ S9 = S ∧ c9 = cS := ⟨os, m, S, cS, Hm.out, rfl, rfl, rfl, rfl⟩
                  have hst : stepL n r1 os = (rr, os9) := by rw [hst, hrrE, hos9]
                  have hrr : rr <:+ l := by rw [hrrE]; exact (List.drop_suffix 1 r1).trans hr1
                  have hrrlt : rr.length < r.length := by omega
                  subst hos9 hm9E hS9E hc9E
                  clear hrrE hrrl
                  clear c1 c2 hL1 hL2
                  go_wp2_with fail
                  refine (P1.out _).mono ?_
                  rintro e w2x ⟨rfl, rfl⟩
                  go_wp2_with fail
                  refine (P2.out _).mono ?_
                  rintro e w2x ⟨rfl, rfl⟩
                  go_wp2_with fail
                  refine (P3.out _).mono ?_
                  rintro e w2x ⟨rfl, rfl⟩
                  go_wp2_with fail
                  refine (HL1.out _).mono ?_
                  rintro e w2x ⟨rfl, rfl⟩
                  -- behind the switch
                  have hbel9 : Below w.heap.size w (w2.setCell ⟨s, 1, none⟩ (.int .i64 ((a1 : Int) + 1))) := hbel9
                  have y2 := hS9.c2
                  have HS9 := Lib.hid hS9
                  have Hrow9 := Lib.hid hrow9
                  have Hm9 := Lib.hid hm9
                  have Hst := Lib.hid hst
                  have Hat9 := Lib.hid (scan_at hS9)
                  have hrr : rr <:+ l := hrr
                  have hrrlt : rr.length < r.length := hrrlt
                  clear hS9 hrow9 hm9 hst
                  by_cases h60' : 60 < m9
                  · exact absurd h60' (by omega)
                  · go_wp2_with fail
                    refine ⟨⟨rr, f', os9, S9, m9, c9, hrr, Hm9.out, HS9.out, Hrow9.out, hbel9, ?_, by omega, by have := Hm9.out; omega⟩, ?_⟩
                    · show _ = R
                      rw [← HE.out, Hmore.out (by rw [Hst.out, ← Hm9.out]; exact h60'), Hst.out]
                    · rw [Hat9.out, Hat.out, Ha0.out]
                      omega
            · have q1f : ¬ ((decide (1 < r1.length) && isLet (nth r1 1)) = true) := by
                have : decide (1 < r1.length) = false := by simpa using q1
                rw [this]; simp
              have q3f : ¬ ((decide (2 < r1.length) && nth r1 1 == 47 && isLet (nth r1 2)) = true) := by
                have : decide (2 < r1.length) = false := by simp; omega
                rw [this]; simp
              have q3 : ¬ 2 < r1.length := by omega
              by_cases q0 : r1 = []
              · have b0 : (r1 == ([] : List UInt8)) = true := by rw [q0]; rfl
                have hst : stepL n r1 os = ([], os) := by unfold stepL; rw [if_neg c1, if_neg c2, if_neg q1f, if_neg q3f, q0]; rfl
                obtain ⟨rr, hrrE⟩ : ∃ rr : List UInt8, rr = [] := ⟨_, rfl⟩
                have hS9 : ScanIs w2 s (.slice A n c) (n - rr.length) (.slice S m cS) := by
                  have h := HS2.out
                  have e : n - rr.length = a1 := by rw [hrrE, Ha1.out, q0]
                  rw [e]
                  exact h
                have hbel9 := hbel2
                have hrow9 := Hrow2.out
                obtain ⟨os9, m9, S9, c9, hm9, hos9, hm9E, hS9E, hc9E⟩ : ∃ os9 m9 S9 c9, m9 = os9.length ∧ os9 = os ∧ m9 = m ∧ S9 = S ∧ c9 = cS := ⟨os, m, S, cS, Hm.out, rfl, rfl, rfl, rfl⟩
                have hst : stepL n r1 os = (rr, os9) := by rw [hst, hrrE, hos9]
                have hrr : rr <:+ l := by rw [hrrE]; exact List.nil_suffix
                have hrrlt : rr.length < r.length := by rw [hrrE]; exact hpos
                have HQ0 := Lib.hid q0
                subst hos9 hm9E hS9E hc9E
                clear hrrE q0
                clear c1 c2 hL1 hL2
                go_wp2_with fail
                refine (P1.out _).mono ?_
                rintro e w2x ⟨rfl, rfl⟩
                go_wp2_with fail
                refine (P2.out _).mono ?_
                rintro e w2x ⟨rfl, rfl⟩
                go_wp2_with fail
                refine (P3.out _).mono ?_
                rintro e w2x ⟨rfl, rfl⟩
                -- behind the switch
                have hbel9 : Below w.heap.size w w2 := hbel9
                have y2 := hS9.c2
                have HS9 := Lib.hid hS9
                have Hrow9 := Lib.hid hrow9
                have Hm9 := Lib.hid hm9
                have Hst := Lib.hid hst
                have Hat9 := Lib.hid (scan_at hS9)
                have hrr : rr <:+ l := hrr
                have hrrlt : rr.length < r.length := hrrlt
                clear hS9 hrow9 hm9 hst
                by_cases h60' : 60 < m9
                · exact absurd h60' (by omega)
                · go_wp2_with fail
                  refine ⟨⟨rr, f', os9, S9, m9, c9, hrr, Hm9.out, HS9.out, Hrow9.out, hbel9, ?_, by omega, by have := Hm9.out; omega⟩, ?_⟩
                  · show _ = R
                    rw [← HE.out, Hmore.out (by rw [Hst.out, ← Hm9.out]; exact h60'), Hst.out]
                  · rw [Hat9.out, Hat.out, Ha0.out]
                    omega
              · have b0 : (r1 == ([] : List UInt8)) = false := by simpa using q0
                have hst : stepL n r1 os = (r1.drop 1, os) := by unfold stepL; rw [if_neg c1, if_neg c2, if_neg q1f, if_neg q3f]
                have Hst9 := Lib.hid hst
                clear hst q1f q3f q0
                have hst : stepL n r1 os = (r1.drop 1, os) := Hst9.out
                have hl1 : 1 ≤ r1.length := by cases r1 with | nil => cases b0 | cons _ _ => simp
                obtain ⟨rr, hrrE⟩ : ∃ rr, rr = r1.drop 1 := ⟨_, rfl⟩
                have hrrl : rr.length = r1.length - 1 := by rw [hrrE, List.length_drop]
                have ha14 : a1 + 1 ≤ n := by have := Ha1.out; omega
                have hS9 : ScanIs (w2.setCell ⟨s, 1, none⟩ (.int .i64 ((a1 : Int) + 1))) s (.slice A n c) (n - rr.length) (.slice S m cS) := by
                  have h := HS2.out.set1 (a1 + 1)
                  have e : n - rr.length = a1 + 1 := by rw [hrrl]; have := Ha1.out; omega
                  rw [e]
                  exact h
                have hbel9 := hbel2.setCell (p := ⟨s, 1, none⟩) hsB (.int .i64 ((a1 : Int) + 1))
                have hrow9 := Hrow2.out.kept (grown_set w2 s 1 (.int .i64 ((a1 : Int) + 1))) (.inr (own_ne_scan HS2.out Hrow2.out))
                obtain ⟨os9, m9, S9, c9, hm9, hos9, hm9E, hS9E, hc9E⟩ : ∃ os9 m9 S9 c9, m9 = os9.length ∧ os9 = os ∧ m9 = m ∧ S9 = S ∧ c9 = cS := ⟨os, m, S, cS, Hm.out, rfl, rfl, rfl, rfl⟩
                have hst : stepL n r1 os = (rr, os9) := by rw [hst, hrrE, hos9]
                have hrr : rr <:+ l := by rw [hrrE]; exact (List.drop_suffix 1 r1).trans hr1
                have hrrlt : rr.length < r.length := by omega
                subst hos9 hm9E hS9E hc9E
                clear hrrE hrrl
                clear c1 c2 hL1 hL2
                go_wp2_with fail
                refine (P1.out _).mono ?_
                rintro e w2x ⟨rfl, rfl⟩
                go_wp2_with fail
                refine (P2.out _).mono ?_
                rintro e w2x ⟨rfl, rfl⟩
                go_wp2_with fail
                refine (P3.out _).mono ?_
                rintro e w2x ⟨rfl, rfl⟩
                -- behind the switch
                have hbel9 : Below w.heap.size w (w2.setCell ⟨s, 1, none⟩ (.int .i64 ((a1 : Int) + 1))) := hbel9
                have y2 := hS9.c2
                have HS9 := Lib.hid hS9
                have Hrow9 := Lib.hid hrow9
                have Hm9 := Lib.hid hm9
                have Hst := Lib.hid hst
                have Hat9 := Lib.hid (scan_at hS9)
                have hrr : rr <:+ l := hrr
                have hrrlt : rr.length < r.length := hrrlt
                clear hS9 hrow9 hm9 hst
                by_cases h60' : 60 < m9
                · exact absurd h60' (by omega)
                · go_wp2_with fail
                  refine ⟨⟨rr, f', os9, S9, m9, c9, hrr, Hm9.out, HS9.out, Hrow9.out, hbel9, ?_, by omega, by have := Hm9.out; omega⟩, ?_⟩
                  · show _ = R
                    rw [← HE.out, Hmore.out (by rw [Hst.out, ← Hm9.out]; exact h60'), Hst.out]
                  · rw [Hat9.out, Hat.out, Ha0.out]
                    omega
end Go.Proofs.YtoolfhjlhhcbgaaDoor

import Derived.Deep.CutBlock
import Derived.Test.YtpnolbfnmknhlaaDoorU6
import Derived.Test.YtpnolbfnmknhlaaDoorU5
import Derived.Test.YtpnolbfnmknhlaaDoorU2
import Derived.Test.YtpnolbfnmknhlaaDoorU3
import Derived.Test.YtpnolbfnmknhlaaDoorU4
set_option maxRecDepth 100000
set_option maxHeartbeats 40000000
namespace Go.Proofs.YtpnolbfnmknhlaaDoor
open Go.RowKit
theorem pofail_any (e : Nat) (w : World) : Calls Tryd.prog 29 #[.int .i64 (e : Nat)] w fun r w' => r = .returned (.tuple #[.string ⟨#[]⟩, .slice none 0 0, .int .i64 (e : Nat)]) ∧ w' = w := by
 go_enter Tryd.func29, Tryd.ntmps29
 go_wp2_with fail
 go_ret3
 exact ⟨rfl, rfl⟩
/-- A field in memory. -/
def FB2 (w : World) (b : Nat) (u v : Value) : Prop := w.cell? ⟨b, 0, none⟩ = some u ∧ w.cell? ⟨b, 1, none⟩ = some v ∧ ∀ k, w.frozen? ⟨b, k, none⟩ = false
theorem FB2.new (w : World) (t : TypeId) (u v : Value) : FB2 (w.alloc (.cells #[u, v] t)) w.heap.size u v := by
 have h := heap_alloc_new w (.cells #[u, v] t)
 refine ⟨by unfold World.cell?; rw [h]; rfl, by unfold World.cell?; rw [h]; rfl, fun k => by unfold World.frozen?; rw [h]; simp⟩
theorem FB2.below {w w' : World} {b : Nat} {u v : Value} (h : FB2 w b u v) {B : Nat} (hb : Below B w w') (hB : b < B) : FB2 w' b u v :=
 ⟨(hb.cell (p := ⟨b, 0, none⟩) hB).trans h.1, (hb.cell (p := ⟨b, 1, none⟩) hB).trans h.2.1, fun k => (hb.frozen (p := ⟨b, k, none⟩) hB).trans (h.2.2 k)⟩
theorem FB2.set0 {w : World} {b : Nat} {u v : Value} (h : FB2 w b u v) (x : Value) : FB2 (w.setCell ⟨b, 0, none⟩ x) b x v := by
 refine ⟨?_, ?_, fun k => ?_⟩
 · exact World.cell?_setCell_same _ _ _ h.1
 · rw [World.cell?_setCell_other _ _ _ _ (by simp)]; exact h.2.1
 · simpa using h.2.2 k
theorem FB2.set1 {w : World} {b : Nat} {u v : Value} (h : FB2 w b u v) (x : Value) : FB2 (w.setCell ⟨b, 1, none⟩ x) b u x := by
 refine ⟨?_, ?_, fun k => ?_⟩
 · rw [World.cell?_setCell_other _ _ _ _ (by simp)]; exact h.1
 · exact World.cell?_setCell_same _ _ _ h.2.1
 · simpa using h.2.2 k
theorem own_farF {w : World} {base : Nat} {e : TypeId} {size : Nat} {v : Value} {n : Nat} {xs : List Value} (h : w.ownsRow base e size v n xs) {p : Addr} (hp : v.ownBlock ≠ some p.block) (u : Value) : (w.setCell p u).ownsRow base e size v n xs := by
 rcases h with ⟨hl, h | ⟨g, cap, cur, hv, hb, hg, h1, h2, h3, h4⟩⟩
 · exact ⟨hl, .inl h⟩
 · refine ⟨hl, .inr ⟨g, cap, cur, hv, hb, ?_, h1, h2, h3, h4⟩⟩
   rw [← hg]
   refine heap_setCell_other w p g u fun e => hp ?_
   rw [hv, e]; rfl
theorem nth_head {s : List UInt8} {i : Nat} {c : UInt8} {z : List UInt8} (h : s.drop i = c :: z) : nth s i = c.toNat ∧ i < s.length ∧ s.drop (i + 1) = z := by
 have hl := congrArg List.length h
 rw [List.length_drop, List.length_cons] at hl
 refine ⟨?_, by omega, by rw [← List.drop_drop, h]; rfl⟩
 have := nth_drop s i 0
 rw [h, nth_cons_zero, Nat.add_zero] at this
 exact this.symm
def BkRel (s : List UInt8) (n i1 : Nat) (T : List UInt8) (wS : World) (iv : Value) (wr : World) : Prop :=
 ∃ j : Nat, iv = .int .i64 (j : Nat) ∧ i1 ≤ j ∧ j ≤ n ∧ wr = wS ∧ Hid (Lib.trimLeftS (s.drop j) [32] = T)
/-- At a ; or at the end: the fields so far, and what is to come of the rest. -/
def PoRel (s : List UInt8) (n : Nat) (R : List FieldD × Nat) (w : World) (iv lv : Value) (wr : World) : Prop :=
 ∃ (i m c : Nat) (out : List FieldD) (S : Option Addr), iv = .int .i64 (i : Nat) ∧ lv = .slice S m c ∧ i ≤ n ∧ Hid (PQ (s.drop i) out = R ∧ out.length = m ∧ (s.drop i = [] ∨ ∃ t, s.drop i = 59 :: t) ∧ (∀ f ∈ out, f.name.length ≤ 1000 ∧ f.value.length ≤ 1000)) ∧ m ≤ 20 ∧ m ≤ c ∧
  wr.ownsRow w.heap.size 38 2 (.slice S m c) m (fieldC out) ∧ Below w.heap.size w wr
theorem ParamsOf_any (s : List UInt8) (w : World) (hs : s.length ≤ maxLen) (hU : U8Ok w) :
 Calls Tryd.prog 7 #[str s] w (ParamsRes (paramsF s) w) := by
 obtain ⟨i0, hi0, hz0, hz1, hz2⟩ := info_parts infoField
 have hV := RIsValue_any s w hs
 have eg := enters_of Tryd.func29 (by kernel_rfl) rfl
 obtain ⟨r, hr⟩ : ∃ r, r = paramsF s := ⟨_, rfl⟩
 rw [← hr]
 rw [params_PQ] at hr
 have hvm := fun h => val_mem (s := s) h
 obtain ⟨q, hq⟩ : ∃ q, q = valB s := ⟨_, rfl⟩
 rw [← hq] at hV hr
 have HV := Lib.hid hV
 cases q with
 | false =>
  have hr1 : Hid (r = ([], [], 1)) := by show r = _; rw [hr, if_pos rfl]
  clear hr hvm hq hV
  go_enter Tryd.func7, Tryd.ntmps7
  go_wp2_with fail
  refine HV.out.mono ?_
  rintro e w1 ⟨rfl, rfl⟩
  go_wp2_with fail
  refine (pofail_any 1 _).mono ?_
  rintro e w9 ⟨rfl, rfl⟩
  go_wp2_with fail
  go_ret3
  rw [hr1.out]
  exact ParamsRes.fail 1 (Below.refl _ _)
 | true =>
  obtain ⟨h9, -, hasc⟩ := hvm hq.symm
  rw [if_neg (by simp)] at hr
  obtain ⟨n, hn⟩ : ∃ n, n = s.length := ⟨_, rfl⟩
  have Hn := Lib.hid hn
  rw [← hn] at h9
  have hasc2 : ∀ b ∈ s, b.toNat < 128 := fun b hb => by have := (hasc b hb).2; omega
  have Hasc := Lib.hid hasc2
  obtain ⟨R, hR⟩ : ∃ R, R = PQ (s.dropWhile (· != 59)) [] := ⟨_, rfl⟩
  rw [← hR] at hr
  obtain ⟨hd, hhd⟩ : ∃ h, h = s.takeWhile (fun b => b != 59) := ⟨_, rfl⟩
  have hhl : hd.length ≤ n := by rw [hhd, hn]; exact (List.takeWhile_prefix _).length_le
  have htk : s.take hd.length = hd := by rw [hhd]; exact take_tw s _
  have hdr : s.drop hd.length = s.dropWhile (fun b => b != 59) := by rw [hhd]; exact drop_tw s _
  have hdh := dw_head s 59
  rw [← hdr] at hdh hR
  have hix : Lib.indexByte (s ++ [59]) 59 = (hd.length : Int) := by rw [index_end5, hhd]
  have hI := fun W => Index_chr1 (s ++ [59]) 59 W
  rw [hix] at hI
  have hT := fun W => Trim_any hd [32] W (by unfold maxLen; omega) (by decide) (by decide)
  have htl := trim_len hd [32]
  have hta : ∀ b ∈ Lib.trimS hd [32], b.toNat < 128 := fun b hb => hasc2 b (by
   have h1 := trim_mem hb
   rw [hhd] at h1
   exact (List.takeWhile_prefix _).subset h1)
  have hmn : lowL (Lib.trimS (s.takeWhile (fun b => b != 59)) [32]) = lowL (Lib.trimS hd [32]) := by rw [hhd]
  obtain ⟨th, hth⟩ : ∃ th, th = Lib.trimS hd [32] := ⟨_, rfl⟩
  rw [← hth] at hT htl hta hmn
  have hSm := fun (W : World) (hW : Below w.heap.size w W) => Small_ascii th W (by omega) hta (hU.below hW)
  obtain ⟨mn, hmn2⟩ : ∃ x, x = lowL th := ⟨_, rfl⟩
  rw [← hmn2] at hSm hmn
  have hr2 : r = if R.2 = 0 then (mn, R.1, 0) else ([], [], R.2) := by rw [hr, ← hmn]
  have hmnl : mn.length ≤ 1000 := by rw [hmn2]; unfold lowL; rw [List.length_map]; omega
  have HI := Lib.hid hI
  have HT := Lib.hid hT
  have HSm := Lib.hid hSm
  have Hr := Lib.hid hr2
  have HR := Lib.hid hR
  have Htk := Lib.hid htk
  have Hdh := Lib.hid hdh
  have HU := Lib.hid hU
  obtain ⟨hl, hhl2⟩ : ∃ hl, hl = hd.length := ⟨_, rfl⟩
  rw [← hhl2] at HI hhl Htk HR Hdh
  clear hr hr2 hvm hq hV hn hasc hasc2 hR hhd htk hdr hdh hix hI hT htl hta hmn hth hSm hmn2 hhl2 hU
  have H9 := Lib.hid (And.intro h9 (And.intro hhl hmnl))
  clear h9 hhl hmnl hs
  go_enter Tryd.func7, Tryd.ntmps7
  go_wp2_with fail
  refine HV.out.mono ?_
  rintro e w1 ⟨rfl, hw1⟩
  obtain rfl := hw1.symm
  have hsn : s.length = n := Hn.out.symm
  have hs9 : s.length ≤ 900 := by rw [← Hn.out]; exact H9.out.1
  go_wp2_with fail
  refine (HI.out _).mono ?_
  rintro e w2 ⟨rfl, hw2⟩
  obtain rfl := hw2
  obtain ⟨h9, hhl, hmnl⟩ := H9.out
  have hsl0 : (0 : Int) ≤ (hl : Int) := by omega
  have hsl1 : (hl : Int) ≤ (s.length : Int) := by rw [← Hn.out]; omega
  have hsl2 : hl ≤ s.length := by rw [← Hn.out]; exact hhl
  have htk2 : s.take hl = hd := Htk.out
  go_wp2_with fail
  refine (HT.out _).mono ?_
  rintro e w3 ⟨rfl, hb3⟩
  go_wp2_with fail
  refine (HSm.out _ hb3).mono ?_
  rintro e w4 ⟨rfl, hb4⟩
  have hbel4 := hb3.trans (hb4.mono hb3.size)
  clear htk2 hb3 hb4 hsl0 hsl1 hsl2
  go_wp2_with fail
  go_loopw [6, 8] (PoRel s n R w) (fun iv _ _ => n + 1 - (intOf iv).toNat)
  case atStart => exact ⟨hl, 0, 0, [], none, rfl, rfl, hhl, ⟨HR.out.symm, rfl, Hdh.out, by intro f hf; cases hf⟩, Nat.zero_le _, Nat.le_refl _, World.ownsRow_nil _ _ _ _, hbel4⟩
  case round =>
   clear HR Hdh HI HT HSm Htk
   obtain ⟨i, m, cS, out, S, rfl, rfl, hin, hE, hm20, hmc, hown, hbel⟩ := hrel
   by_cases hi : i < n
   · obtain ⟨t, ht⟩ : ∃ t, s.drop i = 59 :: t := by
      rcases hE.out.2.2.1 with h | h
      · have := congrArg List.length h
        rw [List.length_drop, ← Hn.out] at this
        simp at this
        omega
      · exact h
     have hPQ := hE.out.1
     rw [ht] at hPQ
     have ht1 : s.drop (i + 1) = t := by rw [← List.drop_drop, ht]; rfl
     obtain ⟨T, hT⟩ : ∃ T, T = Lib.trimLeftS t [32] := ⟨_, rfl⟩
     have hTl : T.length ≤ n - (i + 1) := by rw [hT, ← ht1]; have := trimL_len (s.drop (i + 1)) [32]; rw [List.length_drop, ← Hn.out] at this; exact this
     have hTd : s.drop (n - T.length) = T := by rw [hT, ← ht1, Hn.out]; exact trimL_drop s (i + 1)
     have h0 : Lib.trimLeftS (s.drop (i + 1)) [32] = T := by rw [ht1, hT]
     have HPQ := Lib.hid hPQ
     have HT := Lib.hid hT
     have HTd := Lib.hid hTd
     have H0 := Lib.hid h0
     have hi1 : i + 1 ≤ n := hi
     have Hol := Lib.hid (And.intro hE.out.2.1 hE.out.2.2.2)
     have Hown := Lib.hid hown
     clear hPQ hT hTd h0 ht ht1 hE hown
     go_upto_block 2 with fail
     go_cut [6] from 29 to 46 (fun s6 wx => s6 = .int .i64 ((n - (T).length : Nat) : Int) ∧ wr = wx)
     case first =>
      go_wp2_with fail
      go_loopw [6] (BkRel s n (i + 1) (T) wr) (fun iv _ => n - (intOf iv).toNat)
      case atStart => exact ⟨i + 1, by go_num, Nat.le_refl _, hi1, rfl, Lib.hid (H0.out)⟩
      case round =>
       obtain ⟨j, rfl, hj1, hj2, rfl, hTj⟩ := hrel
       by_cases hjn : j < n
       · by_cases h32 : nth s j = 32
         · have t1 : ((nth s j : Int) == 32) = true := by simp [h32]
           have hT3 := hTj.out
           rw [sp_step (by rw [← Hn.out]; exact hjn) h32] at hT3
           have HT3 := Lib.hid hT3
           clear hT3 hTj h32
           go_wp2_with fail
           exact ⟨⟨j + 1, by go_num, by omega, by omega, rfl, HT3⟩, by simp [intOf]; omega⟩
         · have t1 : ((nth s j : Int) == 32) = false := by simp; omega
           have hT3 := hTj.out
           rw [sp_stop (by rw [← Hn.out]; exact hjn) h32] at hT3
           have hjl : j = n - (T).length := by rw [← hT3, List.length_drop, ← Hn.out]; omega
           have Hjl := Lib.hid hjl
           clear hT3 hTj h32 hjl
           go_wp2_with fail
           go_meet
           exact ⟨by rw [← Hjl.out], rfl⟩
       · obtain rfl : j = n := by omega
         have hT3 := hTj.out
         rw [sp_end (by rw [← Hn.out]; exact Nat.le_refl _)] at hT3
         have hjl : j = j - (T).length := by rw [← hT3, List.length_drop, ← Hn.out]; omega
         have Hjl := Lib.hid hjl
         clear hT3 hTj hjl
         go_wp2_with fail
         go_meet
         exact ⟨by rw [← Hjl.out], rfl⟩
     case rest =>
      obtain ⟨rfl, hwx⟩ := hcut
      subst hwx
      obtain ⟨i2, hi2⟩ : ∃ i2, i2 = n - T.length := ⟨_, rfl⟩
      have hi2n : i2 ≤ n := by omega
      have htl : n - i2 = T.length := by omega
      rw [← hi2] at HTd ⊢
      have Htl := Lib.hid htl
      have hi2g : i + 1 ≤ i2 := by omega
      clear hi2 htl
      have hsd2 : s.drop i2 = T := HTd.out
      have hi2a : (0 : Int) ≤ (i2 : Int) := by omega
      have hi2b : (i2 : Int) ≤ (n : Int) := by omega
      have hI2 := fun W => Index_chr1 T 61 W
      have hin2 := @idx_none T 61
      have his2 := fun k => idx_split 61 T k
      have hbd2 := indexByte_bd5 T 61
      generalize Lib.indexByte T 61 = ix2 at hI2 hin2 his2 hbd2
      have HI2 := Lib.hid hI2
      clear hI2
      by_cases hneg : ix2 < 0
      · have d1 : decide (ix2 < 0) = true := by simpa using hneg
        have hr1 : Hid (r = ([], [], 1)) := by
         show r = _
         have h := PQ_noeq (t := t) (l := out) (by rw [← HT.out]; exact hin2 hneg)
         rw [Hr.out, ← HPQ.out, h]
         rfl
        clear hin2 his2 hbd2 hneg
        go_wp2_with fail
        refine (HI2.out _).mono ?_
        rintro e w4 ⟨rfl, hw4⟩
        obtain rfl := hw4
        go_wp2_with fail
        refine (pofail_any 1 _).mono ?_
        rintro e w9 ⟨rfl, rfl⟩
        go_wp2_with fail
        go_ret3
        rw [hr1.out]
        exact ParamsRes.fail 1 hbel
      · obtain ⟨k, rfl⟩ : ∃ k : Nat, ix2 = k := ⟨ix2.toNat, by omega⟩
        obtain ⟨hkT, hsp, hxn⟩ := his2 k rfl
        have htl := Htl.out
        have d1 : decide ((k : Int) < 0) = false := by simp
        obtain ⟨x, hx⟩ : ∃ x, x = T.take k := ⟨_, rfl⟩
        obtain ⟨y, hy⟩ : ∃ y, y = T.drop (k + 1) := ⟨_, rfl⟩
        rw [← hx, ← hy] at hsp
        rw [← hx] at hxn
        have hxl : x.length = k := by rw [hx, List.length_take]; omega
        have hmid : (s.take (i2 + k)).drop i2 = x := by rw [List.drop_take, show i2 + k - i2 = k from by omega, hsd2, hx]
        have hyd : s.drop (i2 + k + 1) = y := by rw [hy, ← hsd2, List.drop_drop]; congr 1
        have hTx := fun W => Trim_any x [32] W (by unfold maxLen; omega) (by decide) (by decide)
        have hta : ∀ b ∈ Lib.trimS x [32], b.toNat < 128 := fun b hb => Hasc.out b (by
         have h1 := trim_mem hb
         rw [hx, ← hsd2] at h1
         exact (List.drop_suffix _ _).subset ((List.take_prefix _ _).subset h1))
        have htl0 := trim_len x [32]
        have hPQn := fun h => PQ_name (t := t) (x := x) (y := y) (l := out) (by rw [← HT.out]; exact hsp) hxn h
        have hPQo := fun (z : List UInt8) h1 h2 h3 => PQ_open (t := t) (x := x) (y := y) (l := out) (z := z) (by rw [← HT.out]; exact hsp) hxn h1 h2 h3
        have hPQq := fun (z v g : List UInt8) h1 h2 h3 h4 => PQ_quote (t := t) (x := x) (y := y) (l := out) (z := z) (v := v) (g := g) (by rw [← HT.out]; exact hsp) hxn h1 h2 h3 h4
        have hPQt := fun h1 h2 => PQ_tok (t := t) (x := x) (y := y) (l := out) (by rw [← HT.out]; exact hsp) hxn h1 h2
        obtain ⟨nm0, hnm0⟩ : ∃ a, a = Lib.trimS x [32] := ⟨_, rfl⟩
        rw [← hnm0] at hTx hta htl0 hPQn hPQo hPQq hPQt
        have hTk := fun W => IsToken_any nm0 W (by unfold maxLen; omega)
        obtain ⟨tk, htk⟩ : ∃ a, a = tokB nm0 := ⟨_, rfl⟩
        rw [← htk] at hTk hPQn hPQo hPQq hPQt
        have hSm2 := fun (W : World) (hW : Below w.heap.size w W) => Small_ascii nm0 W (by omega) hta (HU.out.below hW)
        obtain ⟨nm, hnm⟩ : ∃ a, a = lowL nm0 := ⟨_, rfl⟩
        rw [← hnm] at hSm2 hPQq hPQt
        have hnml : nm.length ≤ 1000 := by rw [hnm]; unfold lowL; rw [List.length_map]; omega
        have hikn : i2 + k ≤ n := by omega
        have hikn1 : i2 + k + 1 ≤ n := by omega
        have hikI : (i2 : Int) ≤ (i2 : Int) + (k : Int) := by omega
        have hikJ : (i2 : Int) + (k : Int) ≤ (n : Int) := by omega
        obtain ⟨T2, hT2⟩ : ∃ T2, T2 = Lib.trimLeftS y [32] := ⟨_, rfl⟩
        rw [← hT2] at hPQo hPQq hPQt
        have hT2l : T2.length ≤ n - (i2 + k + 1) := by rw [hT2, ← hyd]; have := trimL_len (s.drop (i2 + k + 1)) [32]; rw [List.length_drop, ← Hn.out] at this; exact this
        have hT2d : s.drop (n - T2.length) = T2 := by rw [hT2, ← hyd, Hn.out]; exact trimL_drop s (i2 + k + 1)
        have hT20 : Lib.trimLeftS (s.drop (i2 + k + 1)) [32] = T2 := by rw [hyd, hT2]
        have HTx := Lib.hid hTx
        have HTk := Lib.hid hTk
        have HSm2 := Lib.hid hSm2
        have HPQn := Lib.hid hPQn
        have HPQo := Lib.hid hPQo
        have HPQq := Lib.hid hPQq
        have HPQt := Lib.hid hPQt
        have HT2d := Lib.hid hT2d
        have HT20 := Lib.hid hT20
        clear hin2 his2 hbd2 hneg hkT hsp hxn hx hy hyd hTx hta htl0 hPQn hPQo hPQq hPQt hnm0 hTk htk hSm2 hnm hT2 hT2d hT20 hxl htl
        go_wp2_with fail
        refine (HI2.out _).mono ?_
        rintro e w4 ⟨rfl, hw4⟩
        obtain rfl := hw4
        go_wp2_with fail
        refine (HTx.out _).mono ?_
        rintro e w5 ⟨rfl, hb5⟩
        have hbel5 := hbel.trans (hb5.mono hbel.size)
        have hown5 := own_below Hown.out hb5
        obtain ⟨W6, hW6⟩ : ∃ W6, W6 = w5.alloc (.cells #[str nm0, .string ⟨#[]⟩] 38) := ⟨_, rfl⟩
        have hb6 : Below w5.heap.size w5 W6 := by rw [hW6]; exact (Below.refl _ _).alloc (Nat.le_refl _) _
        have hf6 : FB2 W6 w5.heap.size (str nm0) (.string ⟨#[]⟩) := by rw [hW6]; exact FB2.new w5 _ _ _
        have hs6 : w5.heap.size < W6.heap.size := by rw [hW6]; simp
        have hbel6 := hbel5.trans (hb6.mono hbel5.size)
        have hown6 := own_below hown5 hb6
        have Hown6 := Lib.hid hown6
        obtain ⟨fb, hfb⟩ : ∃ fb, fb = w5.heap.size := ⟨_, rfl⟩
        have hsz5 := hbel5.size
        have hofb : ∀ q, Value.ownBlock (.slice S m cS) = some q → q ≠ fb := fun q hq => by have := (hown5.lt q hq).2; omega
        have hfbw : w.heap.size ≤ fb := by omega
        rw [← hfb] at hf6 hs6
        have Hofb := Lib.hid hofb
        clear hown5 hown6 hb6 hb5 hbel5 hofb Hown hsz5 hsd2 hmid
        go_upto_region 15 with fail
        rw [← hW6]
        rw [← hfb]
        clear hW6 hfb
        have ⟨x0, x1, xf⟩ := hf6
        have Hf6 := Lib.hid hf6
        clear hf6
        cases tk with
        | false =>
         have hr1 : Hid (r = ([], [], 1)) := by
          show r = _
          rw [Hr.out, ← HPQ.out, HPQn.out rfl]
          rfl
         clear HPQn HPQo HPQq HPQt
         go_wp2_with fail
         refine (HTk.out _).mono ?_
         rintro e w7 ⟨rfl, hw7⟩
         obtain rfl := hw7.symm
         go_wp2_with fail
         refine (pofail_any 1 _).mono ?_
         rintro e w9 ⟨rfl, rfl⟩
         go_wp2_with fail
         go_ret3
         rw [hr1.out]
         exact ParamsRes.fail 1 hbel6
        | true =>
         clear HPQn
         go_wp2_with fail
         refine (HTk.out _).mono ?_
         rintro e w7 ⟨rfl, hw7⟩
         obtain rfl := hw7.symm
         go_wp2_with fail
         refine (HSm2.out _ hbel6).mono ?_
         rintro e w8 ⟨rfl, hb8⟩
         have hf8 := Hf6.out.below hb8 hs6
         have hbel8 := hbel6.trans (hb8.mono hbel6.size)
         have hown8 := own_below Hown6.out hb8
         have hs8 : fb < w8.heap.size := Nat.lt_of_lt_of_le hs6 hb8.size
         obtain ⟨w9, hw9⟩ : ∃ w9, w9 = w8.setCell ⟨fb, 0, none⟩ (str nm) := ⟨_, rfl⟩
         have hf9 := hf8.set0 (str nm)
         have hown9 := own_farF hown8 (p := ⟨fb, 0, none⟩) (fun e => Hofb.out _ e rfl) (str nm)
         have hbel9 := hbel8.setCell (p := ⟨fb, 0, none⟩) hfbw (str nm)
         have hs9 : fb < w9.heap.size := by rw [hw9]; simpa [World.setCell] using hs8
         rw [← hw9] at hf9 hown9 hbel9
         have Hf9 := Lib.hid hf9
         have Hown9 := Lib.hid hown9
         have ⟨y0, y1, yf⟩ := hf8
         clear x0 x1 xf hf8 hb8 hown8 hbel8 hf9 hown9 hbel6 Hf6 Hown6 hs6
         go_upto_region 18 with fail
         rw [← hw9]
         clear hw9 y0 y1 yf
         go_upto_block 4 with fail
         go_cut [6] from 79 to 94 (fun s6 wx => s6 = .int .i64 ((n - (T2).length : Nat) : Int) ∧ w9 = wx)
         case first =>
          go_wp2_with fail
          go_loopw [6] (BkRel s n (i2 + k + 1) (T2) w9) (fun iv _ => n - (intOf iv).toNat)
          case atStart => exact ⟨i2 + k + 1, by go_num, Nat.le_refl _, hikn1, rfl, Lib.hid (HT20.out)⟩
          case round =>
           obtain ⟨j, rfl, hj1, hj2, rfl, hTj⟩ := hrel
           by_cases hjn : j < n
           · by_cases h32 : nth s j = 32
             · have t1 : ((nth s j : Int) == 32) = true := by simp [h32]
               have hT3 := hTj.out
               rw [sp_step (by rw [← Hn.out]; exact hjn) h32] at hT3
               have HT3 := Lib.hid hT3
               clear hT3 hTj h32
               go_wp2_with fail
               exact ⟨⟨j + 1, by go_num, by omega, by omega, rfl, HT3⟩, by simp [intOf]; omega⟩
             · have t1 : ((nth s j : Int) == 32) = false := by simp; omega
               have hT3 := hTj.out
               rw [sp_stop (by rw [← Hn.out]; exact hjn) h32] at hT3
               have hjl : j = n - (T2).length := by rw [← hT3, List.length_drop, ← Hn.out]; omega
               have Hjl := Lib.hid hjl
               clear hT3 hTj h32 hjl
               go_wp2_with fail
               go_meet
               exact ⟨by rw [← Hjl.out], rfl⟩
           · obtain rfl : j = n := by omega
             have hT3 := hTj.out
             rw [sp_end (by rw [← Hn.out]; exact Nat.le_refl _)] at hT3
             have hjl : j = j - (T2).length := by rw [← hT3, List.length_drop, ← Hn.out]; omega
             have Hjl := Lib.hid hjl
             clear hT3 hTj hjl
             go_wp2_with fail
             go_meet
             exact ⟨by rw [← Hjl.out], rfl⟩
         case rest =>
          obtain ⟨rfl, hwx⟩ := hcut
          subst hwx
          obtain ⟨i3, hi3⟩ : ∃ i3, i3 = n - T2.length := ⟨_, rfl⟩
          have hi3n : i3 ≤ n := by omega
          have htl3 : n - i3 = T2.length := by omega
          rw [← hi3] at HT2d ⊢
          have Htl3 := Lib.hid htl3
          have hi3g : i2 + k + 1 ≤ i3 := by omega
          clear hi3 htl3
          obtain ⟨qb, hqb⟩ : ∃ q, q = (T2.head? == some 34) := ⟨_, rfl⟩
          have Hqb := Lib.hid hqb
          clear hqb
          go_upto_region 21 with fail
          go_cut [104] from 95 to 103 (fun s104 wx => s104 = .bool qb ∧ w9 = wx)
          case first =>
           have ht3 := Htl3.out
           have hd3 := HT2d.out
           have hq := Hqb.out
           cases hT2c : T2 with
           | nil =>
            rw [hT2c] at ht3 hq
            obtain rfl : i3 = n := by simp at ht3; omega
            have Hq := Lib.hid (show qb = false by rw [hq]; rfl)
            clear ht3 hd3 hq hT2c
            go_wp2_with fail
            go_meet
            exact ⟨by rw [Hq.out], rfl⟩
           | cons c z =>
            rw [hT2c] at ht3 hq hd3
            obtain ⟨hc, hlt, _⟩ := nth_head hd3
            rw [← Hn.out] at hlt
            have hcI : ((nth s i3 : Nat) : Int) = (c.toNat : Int) := by rw [hc]
            have hq2 : ((nth s i3 : Int) == 34) = qb := by
             rw [hq, hcI]
             show _ = (some c == some 34)
             rw [Bool.eq_iff_iff, beq_iff_eq, beq_iff_eq]
             constructor
             · intro h
               have : c = 34 := UInt8.toNat_inj.1 (by show c.toNat = 34; omega)
               rw [this]
             · intro h; injection h with h; rw [h]; rfl
            clear ht3 hd3 hq hT2c hc hcI
            go_wp2_with fail
            go_meet
            exact ⟨rfl, rfl⟩
          case rest =>
           obtain ⟨rfl, hwx⟩ := hcut
           subst hwx
           go_upto_if 104 with fail
           go_cut [6, 11, 12] from 105 to 181 (fun s6 s11 s12 wx => ∃ (i5 : Nat) (v5 : List UInt8), s6 = .int .i64 (i5 : Nat) ∧ FB2 wx fb (str nm) (str v5) ∧ wx.ownsRow w.heap.size 38 2 (.slice S m cS) m (fieldC out) ∧ Below w.heap.size w wx ∧ fb < wx.heap.size ∧ i3 ≤ i5 ∧ i5 ≤ n ∧ v5.length ≤ 1000 ∧
            Hid (R = if 20 < (out ++ [FieldD.mk nm v5]).length then ([], 2) else PQ (s.drop i5) (out ++ [FieldD.mk nm v5])) ∧ Hid (s.drop i5 = [] ∨ ∃ t, s.drop i5 = 59 :: t))
           case first =>
            have hsd3 : s.drop i3 = T2 := HT2d.out
            have hi3a : (0 : Int) ≤ (i3 : Int) := by omega
            have hi3b : (i3 : Int) ≤ (n : Int) := by omega
            have ht3 := Htl3.out
            have ⟨y0, y1, yf⟩ := Hf9.out
            cases qb with
            | true =>
             obtain ⟨z, hz⟩ : ∃ z, T2 = 34 :: z := by
              have hq := Hqb.out
              cases T2 with
              | nil => simp at hq
              | cons c z => simp at hq; exact ⟨z, by rw [hq]⟩
             rw [hz] at hsd3 ht3
             obtain ⟨_, hlt3, hdz⟩ := nth_head hsd3
             rw [← Hn.out] at hlt3
             rw [List.length_cons] at ht3
             have hi3c : (0 : Int) ≤ (i3 : Int) + 1 := by omega
             have hi3d : (i3 : Int) + 1 ≤ (n : Int) := by omega
             have hI3 := fun W => Index_chr1 z 34 W
             have hin3 := @idx_none z 34
             have his3 := fun k => idx_split 34 z k
             have hbd3 := indexByte_bd5 z 34
             have hPo := fun h => HPQo.out z trivial hz h
             have hPq := fun v g h1 h2 => HPQq.out z v g trivial hz h1 h2
             generalize Lib.indexByte z 34 = ix3 at hI3 hin3 his3 hbd3
             have HI3 := Lib.hid hI3
             have HZ := Lib.hid hz
             clear hI3 hsd3 hz
             by_cases hneg : ix3 < 0
             · have d3 : decide (ix3 < 0) = true := by simpa using hneg
               have hr1 : Hid (r = ([], [], 1)) := by
                show r = _
                rw [Hr.out, ← HPQ.out, hPo (hin3 hneg)]
                rfl
               clear hin3 his3 hbd3 hneg hPo hPq ht3
               go_wp2_with fail
               refine (HI3.out _).mono ?_
               rintro e w10 ⟨rfl, hw10⟩
               obtain rfl := hw10
               go_wp2_with fail
               refine (pofail_any 1 _).mono ?_
               rintro e w9 ⟨rfl, rfl⟩
               go_wp2_with fail
               go_ret3
               rw [hr1.out]
               exact ParamsRes.fail 1 hbel9
             · obtain ⟨k3, rfl⟩ : ∃ k : Nat, ix3 = k := ⟨ix3.toNat, by omega⟩
               obtain ⟨hkz, hspz, hvn⟩ := his3 k3 rfl
               have d3 : decide ((k3 : Int) < 0) = false := by simp
               obtain ⟨v, hv⟩ : ∃ v, v = z.take k3 := ⟨_, rfl⟩
               obtain ⟨g, hg⟩ : ∃ g, g = z.drop (k3 + 1) := ⟨_, rfl⟩
               rw [← hv, ← hg] at hspz
               rw [← hv] at hvn
               have hvl : v.length ≤ 1000 := by rw [hv, List.length_take]; omega
               have hmid3 : (s.take (i3 + 1 + k3)).drop (i3 + 1) = v := by rw [List.drop_take, show i3 + 1 + k3 - (i3 + 1) = k3 from by omega, hdz, hv]
               have hgd : s.drop (i3 + k3 + 2) = g := by rw [hg, ← hdz, List.drop_drop]; congr 1; omega
               have hq5 := hPq v g hspz hvn
               obtain ⟨T3, hT3⟩ : ∃ T3, T3 = Lib.trimLeftS g [32] := ⟨_, rfl⟩
               have hgi := gap_iff g
               have hgp := fun h => gap_drop g h
               rw [← hT3] at hgi hgp
               have hT3l : T3.length ≤ n - (i3 + k3 + 2) := by rw [hT3, ← hgd]; have := trimL_len (s.drop (i3 + k3 + 2)) [32]; rw [List.length_drop, ← Hn.out] at this; exact this
               have hT3d : s.drop (n - T3.length) = T3 := by rw [hT3, ← hgd, Hn.out]; exact trimL_drop s (i3 + k3 + 2)
               have hT30 : Lib.trimLeftS (s.drop (i3 + k3 + 2)) [32] = T3 := by rw [hgd, hT3]
               have hik2 : i3 + k3 + 2 ≤ n := by omega
               have hikI3 : (i3 : Int) + 1 ≤ (i3 : Int) + 1 + (k3 : Int) := by omega
               have hikJ3 : (i3 : Int) + 1 + (k3 : Int) ≤ (n : Int) := by omega
               have HT3d := Lib.hid hT3d
               have HT30 := Lib.hid hT30
               have HQ5 := Lib.hid hq5
               have Hgi := Lib.hid hgi
               have Hgp := Lib.hid hgp
               obtain ⟨w10, hw10⟩ : ∃ w10, w10 = w9.setCell ⟨fb, 1, none⟩ (str v) := ⟨_, rfl⟩
               have hf10 := Hf9.out.set1 (str v)
               have hown10 := own_farF Hown9.out (p := ⟨fb, 1, none⟩) (fun e => Hofb.out _ e rfl) (str v)
               have hbel10 := hbel9.setCell (p := ⟨fb, 1, none⟩) hfbw (str v)
               have hs10 : fb < w10.heap.size := by rw [hw10]; simpa [World.setCell] using hs9
               rw [← hw10] at hf10 hown10 hbel10
               have Hf10 := Lib.hid hf10
               have Hown10 := Lib.hid hown10
               clear hin3 his3 hbd3 hneg hkz hspz hvn hv hg hgd hq5 hT3 hgi hgp hT3d hT30 hPo hPq hf10 hown10 ht3
               go_wp2_with fail
               refine (HI3.out _).mono ?_
               rintro e wi ⟨rfl, hwi⟩
               obtain rfl := hwi
               go_upto_region 26 with fail
               rw [← hw10]
               clear hw10 y0 y1 yf hmid3 hdz
               go_upto_block 6 with fail
               go_cut [6] from 127 to 141 (fun s6 wx => s6 = .int .i64 ((n - (T3).length : Nat) : Int) ∧ w10 = wx)
               case first =>
                go_wp2_with fail
                go_loopw [6] (BkRel s n (i3 + k3 + 2) (T3) w10) (fun iv _ => n - (intOf iv).toNat)
                case atStart => exact ⟨i3 + k3 + 2, by go_num, Nat.le_refl _, hik2, rfl, Lib.hid (HT30.out)⟩
                case round =>
                 obtain ⟨j, rfl, hj1, hj2, rfl, hTj⟩ := hrel
                 by_cases hjn : j < n
                 · by_cases h32 : nth s j = 32
                   · have t1 : ((nth s j : Int) == 32) = true := by simp [h32]
                     have hT3 := hTj.out
                     rw [sp_step (by rw [← Hn.out]; exact hjn) h32] at hT3
                     have HT3 := Lib.hid hT3
                     clear hT3 hTj h32
                     go_wp2_with fail
                     exact ⟨⟨j + 1, by go_num, by omega, by omega, rfl, HT3⟩, by simp [intOf]; omega⟩
                   · have t1 : ((nth s j : Int) == 32) = false := by simp; omega
                     have hT3 := hTj.out
                     rw [sp_stop (by rw [← Hn.out]; exact hjn) h32] at hT3
                     have hjl : j = n - (T3).length := by rw [← hT3, List.length_drop, ← Hn.out]; omega
                     have Hjl := Lib.hid hjl
                     clear hT3 hTj h32 hjl
                     go_wp2_with fail
                     go_meet
                     exact ⟨by rw [← Hjl.out], rfl⟩
                 · obtain rfl : j = n := by omega
                   have hT3 := hTj.out
                   rw [sp_end (by rw [← Hn.out]; exact Nat.le_refl _)] at hT3
                   have hjl : j = j - (T3).length := by rw [← hT3, List.length_drop, ← Hn.out]; omega
                   have Hjl := Lib.hid hjl
                   clear hT3 hTj hjl
                   go_wp2_with fail
                   go_meet
                   exact ⟨by rw [← Hjl.out], rfl⟩
               case rest =>
                obtain ⟨rfl, hwx⟩ := hcut
                subst hwx
                obtain ⟨i4, hi4⟩ : ∃ i4, i4 = n - T3.length := ⟨_, rfl⟩
                have hi4n : i4 ≤ n := by omega
                have hi4g : i3 ≤ i4 := by omega
                have htl4 : n - i4 = T3.length := by omega
                rw [← hi4] at HT3d ⊢
                clear hi4
                have hd4 := HT3d.out
                by_cases hgap : ∀ c r, T3 = c :: r → c = 59
                · have hz0 := Hgi.out.2 hgap
                  have hq6 := HQ5.out
                  rw [if_neg (fun h => h hz0), HPQ.out, Hgp.out hgap, ← hd4] at hq6
                  have HQ6 := Lib.hid hq6
                  cases hT3c : T3 with
                  | nil =>
                   rw [hT3c] at htl4 hd4
                   obtain rfl : i4 = n := by simp at htl4; omega
                   have Hd4 := Lib.hid hd4
                   clear hgap hz0 hq6 hd4 hT3c htl4
                   go_wp2_with fail
                   go_meet
                   exact ⟨_, v, rfl, Hf10.out, Hown10.out, hbel10, hs10, hi4g, Nat.le_refl _, hvl, HQ6, Lib.hid (.inl Hd4.out)⟩
                  | cons c t3 =>
                   rw [hT3c] at hd4
                   obtain rfl := hgap c t3 hT3c
                   obtain ⟨hc4, hlt4, _⟩ := nth_head hd4
                   rw [← Hn.out] at hlt4
                   have t4 : ((nth s i4 : Int) == 59) = true := by rw [hc4]; rfl
                   have Hd4 := Lib.hid hd4
                   clear hgap hz0 hq6 hd4 hT3c htl4 hc4
                   go_wp2_with fail
                   go_meet
                   exact ⟨i4, v, rfl, Hf10.out, Hown10.out, hbel10, hs10, hi4g, hi4n, hvl, HQ6, Lib.hid (.inr ⟨_, Hd4.out⟩)⟩
                · have hz0 : Lib.trimS (Lib.cut g [59]).1 [32] ≠ [] := fun h => hgap (Hgi.out.1 h)
                  have hq6 := HQ5.out
                  rw [if_pos hz0, HPQ.out] at hq6
                  have hr1 : Hid (r = ([], [], 1)) := by
                   show r = _
                   rw [Hr.out, hq6]
                   rfl
                  cases hT3c : T3 with
                  | nil => exact absurd (fun c r h => by rw [hT3c] at h; cases h) hgap
                  | cons c t3 =>
                   rw [hT3c] at hd4
                   have hc59 : c ≠ 59 := fun h => hgap (fun c' r h' => by rw [hT3c] at h'; injection h' with h1 _; rw [← h1]; exact h)
                   obtain ⟨hc4, hlt4, _⟩ := nth_head hd4
                   rw [← Hn.out] at hlt4
                   have t4 : ((nth s i4 : Int) == 59) = false := by
                    rw [hc4]
                    have : c.toNat ≠ 59 := fun h => hc59 (UInt8.toNat_inj.1 h)
                    simp; omega
                   clear hgap hz0 hq6 hd4 hT3c htl4 hc4 hc59
                   go_wp2_with fail
                   refine (pofail_any 1 _).mono ?_
                   rintro e w9 ⟨rfl, rfl⟩
                   go_wp2_with fail
                   go_ret3
                   rw [hr1.out]
                   exact ParamsRes.fail 1 hbel10
            | false =>
             have hh : T2.head? ≠ some 34 := fun h => by have hq := Hqb.out; rw [h] at hq; simp at hq
             have hPt := HPQt.out trivial hh
             obtain ⟨tw, htw⟩ : ∃ x, x = T2.takeWhile (fun b => b != 59) := ⟨_, rfl⟩
             rw [← htw] at hPt
             have hI4 := fun W => Index_chr1 (T2 ++ [59]) 59 W
             rw [index_end5, ← htw] at hI4
             have htk4 : T2.take tw.length = tw := by rw [htw]; exact take_tw T2 _
             have hdr4 : T2.drop tw.length = T2.dropWhile (fun b => b != 59) := by rw [htw]; exact drop_tw T2 _
             have hdh4 := dw_head T2 59
             rw [← hdr4] at hdh4 hPt
             have htwl : tw.length ≤ T2.length := by rw [htw]; exact (List.takeWhile_prefix _).length_le
             have hTr := fun W => TrimRight_any tw [32] W (by unfold maxLen; omega) (by decide) (by decide)
             have htrl := trimR_len tw [32]
             obtain ⟨v5, hv5⟩ : ∃ x, x = Lib.trimRightS tw [32] := ⟨_, rfl⟩
             rw [← hv5] at hTr htrl hPt
             have hv5l : v5.length ≤ 1000 := by omega
             have hTk5 := fun W => IsToken_any v5 W (by unfold maxLen; omega)
             obtain ⟨tk5, htk5⟩ : ∃ x, x = tokB v5 := ⟨_, rfl⟩
             rw [← htk5] at hTk5 hPt
             obtain ⟨k4, hk4⟩ : ∃ k, k = tw.length := ⟨_, rfl⟩
             rw [← hk4] at hI4 htk4 hPt htwl hdh4
             have hmid4 : (s.take (i3 + k4)).drop i3 = tw := by rw [List.drop_take, show i3 + k4 - i3 = k4 from by omega, hsd3, htk4]
             have hd5 : s.drop (i3 + k4) = T2.drop k4 := by rw [← hsd3, List.drop_drop]
             rw [← hd5] at hPt hdh4
             have hik4 : i3 + k4 ≤ n := by omega
             have hikI4 : (i3 : Int) ≤ (i3 : Int) + (k4 : Int) := by omega
             have hikJ4 : (i3 : Int) + (k4 : Int) ≤ (n : Int) := by omega
             have hT2s : T2.length ≤ 900 := by omega
             have HI4 := Lib.hid hI4
             have HTr := Lib.hid hTr
             have HTk5 := Lib.hid hTk5
             have HPt := Lib.hid hPt
             have Hdh4 := Lib.hid hdh4
             clear hh hPt htw hI4 htk4 hdr4 hdh4 hTr htrl hv5 hTk5 htk5 hk4 hd5 ht3 htwl
             go_wp2_with fail
             refine (HI4.out _).mono ?_
             rintro e wi ⟨rfl, hwi⟩
             obtain rfl := hwi
             go_wp2_with fail
             refine (HTr.out _).mono ?_
             rintro e w10 ⟨rfl, hb10⟩
             have hf10 := Hf9.out.below hb10 hs9
             have hbel10 := hbel9.trans (hb10.mono hbel9.size)
             have hown10 := own_below Hown9.out hb10
             have hs10 : fb < w10.heap.size := Nat.lt_of_lt_of_le hs9 hb10.size
             obtain ⟨w11, hw11⟩ : ∃ w11, w11 = w10.setCell ⟨fb, 1, none⟩ (str v5) := ⟨_, rfl⟩
             have hf11 := hf10.set1 (str v5)
             have hown11 := own_farF hown10 (p := ⟨fb, 1, none⟩) (fun e => Hofb.out _ e rfl) (str v5)
             have hbel11 := hbel10.setCell (p := ⟨fb, 1, none⟩) hfbw (str v5)
             have hs11 : fb < w11.heap.size := by rw [hw11]; simpa [World.setCell] using hs10
             rw [← hw11] at hf11 hown11 hbel11
             have Hf11 := Lib.hid hf11
             have Hown11 := Lib.hid hown11
             clear y0 y1 yf
             have ⟨y0, y1, yf⟩ := hf10
             clear hf10 hb10 hbel10 hown10 hf11 hown11 hmid4 hsd3
             go_upto_region 33 with fail
             rw [← hw11]
             clear hw11 y0 y1 yf
             have ⟨z0, z1, _⟩ := Hf11.out
             cases tk5 with
             | false =>
              have hr1 : Hid (r = ([], [], 1)) := by
               show r = _
               rw [Hr.out, ← HPQ.out, HPt.out]
               rfl
              clear HPt
              go_wp2_with fail
              refine (HTk5.out _).mono ?_
              rintro e w12 ⟨rfl, hw12⟩
              obtain rfl := hw12.symm
              go_wp2_with fail
              refine (pofail_any 1 _).mono ?_
              rintro e w9 ⟨rfl, rfl⟩
              go_wp2_with fail
              go_ret3
              rw [hr1.out]
              exact ParamsRes.fail 1 hbel11
             | true =>
              have hq6 := HPt.out
              rw [if_neg (by simp), HPQ.out] at hq6
              have HQ6 := Lib.hid hq6
              clear hq6 HPt
              go_wp2_with fail
              refine (HTk5.out _).mono ?_
              rintro e w12 ⟨rfl, hw12⟩
              obtain rfl := hw12.symm
              go_wp2_with fail
              go_meet
              exact ⟨i3 + k4, v5, by go_num, Hf11.out, Hown11.out, hbel11, hs11, by omega, hik4, hv5l, HQ6, Hdh4⟩
           case rest =>
            obtain ⟨i5, v5, rfl, hf5, hown5, hbel5, hs5, hi5g, hi5n, hv5l, hQ5, hD5⟩ := hcut
            have ⟨z0, z1, _⟩ := hf5
            have hml : (out ++ [FieldD.mk nm v5]).length = m + 1 := by simp [Hol.out.1]
            have hq5 := hQ5.out
            rw [hml] at hq5
            have HQ5 := Lib.hid hq5
            have Hml := Lib.hid hml
            have Hown5 := Lib.hid hown5
            have h63 : m + 1 ≤ maxLen := by unfold maxLen; omega
            have h47 : (m + 1) * 32 ≤ 140737488355328 := by omega
            have hone : ∀ u ∈ [str nm, str v5], u.oneCell' = true := by intro u hu; simp at hu; rcases hu with rfl | rfl <;> rfl
            have Hone := Lib.hid hone
            have hsz5 := hbel5.size
            clear hf5 hml hq5 hQ5 hown5 hone
            go_wp2_with (at_builtin; refine wpList_app rfl _ _ 22 rfl w.heap.size 38 i0 (.agg #[.string ⟨#[]⟩, .string ⟨#[]⟩]) 2 32 Tryd.underlying22 hi0 hz0 hz1 hz2 rfl (by decide) S m cS (fieldC out) rfl (Hown5.out.alloc _) _ _ 1 1 [str nm, str v5] rfl (Sl.row _ _ 2 1 _ rfl) Hone.out h63 h47 ?c2 ?_)
            case c2 => simp; omega
            intro S' c' w12 hown12 hb12 _
            have hc' := own_cap hown12
            have hbel12 := (hbel5.alloc hsz5 (.cells #[str nm, str v5] 38)).trans hb12
            rw [show fieldC out ++ [str nm, str v5] = fieldC (out ++ [⟨nm, v5⟩]) from by rw [fieldC_app]; rfl] at hown12
            have Hown12 := Lib.hid hown12
            clear hown12 hb12 z0 z1
            by_cases h20 : 20 < m + 1
            · have d20 : decide ((20 : Int) < (m : Int) + 1) = true := by simp; omega
              have hr1 : Hid (r = ([], [], 2)) := by show r = _; rw [Hr.out, HQ5.out, if_pos h20]; rfl
              go_wp2_with fail
              refine (pofail_any 2 _).mono ?_
              rintro e w9 ⟨rfl, rfl⟩
              go_wp2_with fail
              go_ret3
              rw [hr1.out]
              exact ParamsRes.fail 2 hbel12
            · have d20 : decide ((20 : Int) < (m : Int) + 1) = false := by simp; omega
              have hR3 : Hid (PQ (s.drop i5) (out ++ [⟨nm, v5⟩]) = R) := by show _ = R; rw [HQ5.out, if_neg h20]
              have hall : ∀ f ∈ out ++ [FieldD.mk nm v5], f.name.length ≤ 1000 ∧ f.value.length ≤ 1000 := by
               intro f hf
               rcases List.mem_append.1 hf with hf | hf
               · exact Hol.out.2 f hf
               · simp only [List.mem_cons, List.not_mem_nil, or_false] at hf; rw [hf]; exact ⟨hnml, hv5l⟩
              have Hall := Lib.hid hall
              clear hall
              go_wp2_with fail
              exact ⟨⟨i5, m + 1, c', _, S', rfl, rfl, hi5n, ⟨hR3.out, Hml.out, hD5.out, Hall.out⟩, by omega, hc', Hown12.out, hbel12⟩, by simp [intOf]; omega⟩
   · obtain rfl : i = n := by omega
     have hfin := hE.out.1
     rw [List.drop_of_length_le (by rw [← Hn.out]; exact Nat.le_refl _), PQ] at hfin
     have hol := hE.out.2.1
     have hsm : smallF out := fun f hf => by have := hE.out.2.2.2 f hf; unfold maxLen; omega
     have hr1 : Hid (r = (mn, out, 0)) := by show r = _; rw [Hr.out, ← hfin]; rfl
     have hslw := Sl.of_own hown
     have hcm2 := own_capF hown
     have Hslw := Lib.hid hslw
     have Hol := Lib.hid hol
     have Hsm := Lib.hid hsm
     clear hfin hE hown hslw hol hsm
     go_wp2_with fail
     go_ret3
     rw [hr1.out]
     exact ⟨S, cS, by rw [← Hol.out]; rfl, by rw [show (mn, out, 0).2.1.length = m from Hol.out]; exact Hslw.out, Hsm.out, by show out.length ≤ cS; rw [Hol.out]; exact hmc, hcm2, hbel⟩
theorem loopP_len : ∀ (k : Nat) (rest : List UInt8) (more : Bool) (l : List FieldD), l.length ≤ 20 → (loopP k rest more l).1.length ≤ 20
 | 0, _, _, _, _ => by rw [loopP]; simp
 | k + 1, rest, more, l, h => by
  rw [loopP]
  split
  · exact h
  · simp only
    split
    · simp
    · split
      · split
        · simp
        · split
          · simp
          · split
            · simp
            · rename_i h20
              exact loopP_len k _ _ _ (by omega)
      · split
        · simp
        · split
          · simp
          · rename_i h20
            exact loopP_len k _ _ _ (by omega)
theorem params_len (s : List UInt8) : (paramsF s).2.1.length ≤ 20 := by
 unfold paramsF
 split
 · simp
 · simp only
   split
   · exact loopP_len _ _ _ [] (by simp)
   · simp
theorem parse_okH {b : List UInt8} {l : List FieldD} {k e : Nat} (h : parseF b = (l, k, e)) (he : e ≠ 0) : l = [] ∧ k = 0 := by
 unfold parseF at h
 split at h
 · injection h with h1 h2
   injection h2 with h2 h3
   exact ⟨h1.symm, h2.symm⟩
 · split at h
   · injection h with h1 h2
     injection h2 with h2 h3
     exact absurd h3.symm he
   · injection h with h1 h2
     injection h2 with h2 h3
     exact ⟨h1.symm, h2.symm⟩
theorem parse_len20 (b : List UInt8) : (parseF b).1.length ≤ 20 := by
 obtain ⟨l, k, e, h⟩ : ∃ l k e, parseF b = (l, k, e) := ⟨_, _, _, rfl⟩
 rw [h]
 by_cases he : e = 0
 · subst he
   exact (chk_len (parse_back h).1).1
 · rw [(parse_okH h he).1]; simp
theorem headerSays_walk (l : List FieldD) (A0 : Option Addr) (n0 c0 : Nat) (b : List UInt8) (A1 : Option Addr) (n1 c1 : Nat) (name s : List UInt8) (w : World)
 (h0 : Sl w w.heap.size 2 A0 n0 (fieldC l)) (hs0 : smallF l) (hn0 : n0 ≤ c0) (hm0 : c0 ≤ maxLen) (h1 : By w w.heap.size A1 n1 b) (hn1 : n1 ≤ c1) (hm1 : c1 ≤ maxLen) (hnm : name.length ≤ maxLen) (hs : s.length ≤ maxLen) (hU : U8Ok w) (hF : FoldOk w) :
 Calls Tryd.prog 3 #[.slice A0 n0 c0, .slice A1 n1 c1, str name, str s] w fun e w' => e = .returned (.bool true) ∧ Below w.heap.size w w' := by
 have hl1 := h1.len
 have hm0' := hm0
 have hn0m : n0 ≤ maxLen := by omega
 have hSl := fun W (hb : Below w.heap.size w W) => (h0.below hb : Sl W w.heap.size 2 A0 n0 (fieldC l))
 have KP := Lib.hid (fun W (hb : Below w.heap.size w W) => FPrint_any l A0 n0 c0 w.heap.size W (hSl W hb) hb.size hs0 hn0m)
 have KC := Lib.hid (fun W (hb : Below w.heap.size w W) => FCheck_any l A0 n0 c0 w.heap.size W (hSl W hb) hb.size hs0 hn0m)
 have KR := Lib.hid (fun W (hb : Below w.heap.size w W) => RCheckFields_any l A0 n0 c0 w.heap.size W (hSl W hb) hb.size hs0 hn0m)
 have KT := Lib.hid (fun W (hb : Below w.heap.size w W) (hlen : (textF l).length ≤ 1000000) => FieldsText_any l A0 n0 c0 w.heap.size W (hSl W hb) hb.size hn0m hlen)
 have hq := fun W (hb : Below w.heap.size w W) (x : FieldD) (hx : x ∈ l) W' (hb' : Below W.heap.size W W') => qF_any name x W' (hs0 x hx).1 hnm (hF.below (hb.trans (hb'.mono hb.size))) (hU.below (hb.trans (hb'.mono hb.size)))
 have KG := Lib.hid (fun W (hb : Below w.heap.size w W) => QGet_any (qF name) l name A0 n0 c0 w.heap.size W (hSl W hb) hb.size hn0m (fun x hx W' hb' => hq W hb x hx W' hb'))
 have KH := Lib.hid (fun W (hb : Below w.heap.size w W) => Got_any (qF name) l name A0 n0 c0 w.heap.size W (hSl W hb) hb.size hn0m (fun x hx W' hb' => hq W hb x hx W' hb'))
 have hby := fun W (hb : Below w.heap.size w W) => (h1.below hb).more hb.size
 have hpl := parse_len20 b
 have hql := params_len s
 rcases hpb : parseF b with ⟨m, k, f⟩
 rcases hpp : paramsF s with ⟨mn, ps, g⟩
 rw [hpb] at hpl
 rw [hpp] at hql
 have K5 := Lib.hid (fun W (hb : Below w.heap.size w W) => show Calls _ _ _ _ (ParseRes (m, k, f) W) from hpb ▸ Parse_fields b A1 n1 c1 W (hby W hb) hn1 (by omega))
 have K6 := Lib.hid (fun W (hb : Below w.heap.size w W) (h4 : n1 ≤ 40000) => show Calls _ _ _ _ (ParseRes (m, k, f) W) from hpb ▸ RFieldsRead_any b A1 n1 c1 W (hby W hb) hn1 hm1 h4)
 have K7 := Lib.hid (fun W (_ : Below w.heap.size w W) => show Calls _ _ _ _ (ParamsRes (mn, ps, g) W) from hpp ▸ Params_any s W hs)
 have K8 := Lib.hid (fun W (hb : Below w.heap.size w W) => show Calls _ _ _ _ (ParamsRes (mn, ps, g) W) from hpp ▸ ParamsOf_any s W hs (hU.below hb))
 have Ktok := Lib.hid (fun W => Token_any s W hs)
 have KtokR := Lib.hid (fun W => IsToken_any s W hs)
 have Kval := Lib.hid (fun W => Value_any s W hs)
 have KvalR := Lib.hid (fun W => RIsValue_any s W hs)
 have hmany : 40000 < n1 → m = [] ∧ k = 0 ∧ f = 2 := by
  intro h4
  have := parse_many (b := b) (by omega)
  rw [hpb] at this
  injection this with a1 a2
  injection a2 with a2 a3
  exact ⟨a1, a2, a3⟩
 have Hmany := Lib.hid hmany
 obtain ⟨ck, hck⟩ : ∃ c, c = chkF l := ⟨_, rfl⟩
 have hpr : printF l = if ck = 0 then (textF l, 0) else ([], ck) := by rw [hck]; rfl
 obtain ⟨pt, hpt⟩ : ∃ p, p = printF l := ⟨_, rfl⟩
 rw [← hpt] at hpr
 obtain ⟨p1, p2⟩ := pt
 obtain ⟨T, hT⟩ : ∃ t, t = textF l := ⟨_, rfl⟩
 rw [← hT] at hpr
 have hp2 : p2 = ck := by
  by_cases h : ck = 0
  · rw [if_pos h] at hpr; injection hpr with _ a; omega
  · rw [if_neg h] at hpr; injection hpr
 subst p2
 have hp1 : p1 = if ck = 0 then T else [] := by
  by_cases h : ck = 0
  · rw [if_pos h] at hpr ⊢; injection hpr
  · rw [if_neg h] at hpr ⊢; injection hpr
 have Hp1 := Lib.hid hp1
 obtain ⟨tv, htv⟩ : ∃ t, t = tokB s := ⟨_, rfl⟩
 obtain ⟨vv, hvv⟩ : ∃ t, t = valB s := ⟨_, rfl⟩
 obtain ⟨gv, hgv⟩ : ∃ t, t = getQ (qF name) l := ⟨_, rfl⟩
 have hlt : ck = 0 → T.length ≤ 1000000 := by
  intro h
  rw [hT]
  have := @text_len l (by rw [← hck]; exact h)
  omega
 have Hlt := Lib.hid hlt
 rw [← hpt] at KP
 rw [← hT] at KT
 rw [← hck] at KC KR
 rw [← hgv] at KG KH
 rw [← htv] at Ktok KtokR
 rw [← hvv] at Kval KvalR
 have b1 : (tv != tv) = false := by simp
 have b2 : (vv != vv) = false := by simp
 have b3 : ((ck : Int) != (ck : Int)) = false := by simp
 have b4 : (gv != gv) = false := by simp
 have b5 : (mn != mn) = false := by simp
 have b6 : ((g : Int) != (g : Int)) = false := by simp
 have b4' : (gv == gv) = true := by simp
 have b5' : (mn == mn) = true := by simp
 have b7 : ((f : Int) == (f : Int)) = true := by simp
 have b8 : ((k : Int) == (k : Int)) = true := by simp
 have b9 : (tv == tv) = true := by simp
 have b10 : (vv == vv) = true := by simp
 simp only at hpl hql
 clear h0 hs0 h1 hSl hq hby hpb hpp hmany hck hpr hpt hp1 hT htv hvv hgv hlt hU hF hl1
 go_enter Tryd.func3, Tryd.ntmps3
 go_wp2_with fail
 refine (KP.out w (Below.refl _ _)).mono ?_
 rintro e w1 ⟨rfl, hb1⟩
 go_wp2_with fail
 refine (K5.out w1 hb1).mono ?_
 rintro e w2 ⟨S2, e2, rfl, hsl2, _, _, _, hb2⟩
 simp only at hsl2 ⊢
 have Hb2 := Lib.hid (hb1.trans (hb2.mono hb1.size))
 have Hsl2 := Lib.hid hsl2
 clear hb2 hsl2 hb1
 go_wp2_with fail
 refine (K7.out w2 Hb2.out).mono ?_
 rintro e w3 ⟨S3, e3, rfl, hsl3, _, _, _, hb3⟩
 simp only at hsl3 ⊢
 have Hb3 := Lib.hid (Hb2.out.trans (hb3.mono Hb2.out.size))
 have Hsl2 := Lib.hid ((Hsl2.out.below hb3).more hb3.size)
 have Hsl3 := Lib.hid hsl3
 clear hb3 hsl3
 go_wp2_with fail
 refine (K8.out w3 Hb3.out).mono ?_
 rintro e w4 ⟨S4, e4, rfl, hsl4, _, _, _, hb4⟩
 simp only at hsl4 ⊢
 have Hb4 := Lib.hid (Hb3.out.trans (hb4.mono Hb3.out.size))
 have Hsl2 := Lib.hid ((Hsl2.out.below hb4).more hb4.size)
 have Hsl3 := Lib.hid ((Hsl3.out.below hb4).more hb4.size)
 have Hsl4 := Lib.hid hsl4
 clear hb4 hsl4
 go_wp2_with fail
 refine (KR.out w4 Hb4.out).mono ?_
 rintro e w5 ⟨rfl, hb5⟩
 have Hb5 := Lib.hid (Hb4.out.trans (hb5.mono Hb4.out.size))
 have Hsl2 := Lib.hid ((Hsl2.out.below hb5).more hb5.size)
 have Hsl3 := Lib.hid ((Hsl3.out.below hb5).more hb5.size)
 have Hsl4 := Lib.hid ((Hsl4.out.below hb5).more hb5.size)
 clear hb5
 go_upto_region 6 with fail
 go_cut [93] from 49 to 93 (fun s93 wx => s93 = .bool false ∧ Below w5.heap.size w5 wx)
 case first =>
  have hp1 := Hp1.out
  by_cases hk : ck = 0
  · subst hk
    rw [if_pos rfl] at hp1
    subst hp1
    have hTl := Hlt.out rfl
    have t1 : (p1 != p1) = false := by simp
    have t2 : (p1 == p1) = true := by simp
    go_wp2_with fail
    refine (headed_any w5).mono ?_
    rintro e w6 ⟨rfl, hb6⟩
    go_wp2_with fail
    refine (Ktok.out w6).mono ?_
    rintro e w7 ⟨rfl, hb7⟩
    have Hc7 := Lib.hid (hb6.trans (hb7.mono hb6.size))
    clear hb6 hb7
    go_wp2_with fail
    refine (KtokR.out w7).mono ?_
    rintro e w8 ⟨rfl, hw8⟩
    subst w8
    go_wp2_with fail
    refine (Kval.out w7).mono ?_
    rintro e w9 ⟨rfl, hb9⟩
    have Hc9 := Lib.hid (Hc7.out.trans (hb9.mono Hc7.out.size))
    clear hb9
    go_wp2_with fail
    refine (KvalR.out w9).mono ?_
    rintro e w10 ⟨rfl, hw10⟩
    subst w10
    go_wp2_with fail
    refine (KC.out w9 (Hb5.out.trans (Hc9.out.mono Hb5.out.size))).mono ?_
    rintro e w11 ⟨rfl, hb11⟩
    have Hc11 := Lib.hid (Hc9.out.trans (hb11.mono Hc9.out.size))
    clear hb11
    go_wp2_with fail
    refine (KT.out w11 (Hb5.out.trans (Hc11.out.mono Hb5.out.size)) hTl).mono ?_
    rintro e w12 ⟨rfl, hb12⟩
    have Hc12 := Lib.hid (Hc11.out.trans (hb12.mono Hc11.out.size))
    clear hb12
    go_wp2_with fail
    go_meet
    exact ⟨rfl, Hc12.out⟩
  · rw [if_neg hk] at hp1
    have t1 : p1.isEmpty = true := by rw [hp1]; rfl
    have t2 : (p1 == []) = true := by rw [hp1]; rfl
    have t3 : (p1 != []) = false := by rw [hp1]; rfl
    have t4 : ((ck : Int) == 0) = false := by simp; omega
    have t5 : ((ck : Int) != 0) = true := by simp; omega
    clear hp1 hk
    go_wp2_with fail
    refine (headed_any w5).mono ?_
    rintro e w6 ⟨rfl, hb6⟩
    go_wp2_with fail
    refine (Ktok.out w6).mono ?_
    rintro e w7 ⟨rfl, hb7⟩
    have Hc7 := Lib.hid (hb6.trans (hb7.mono hb6.size))
    clear hb6 hb7
    go_wp2_with fail
    refine (KtokR.out w7).mono ?_
    rintro e w8 ⟨rfl, hw8⟩
    subst w8
    go_wp2_with fail
    refine (Kval.out w7).mono ?_
    rintro e w9 ⟨rfl, hb9⟩
    have Hc9 := Lib.hid (Hc7.out.trans (hb9.mono Hc7.out.size))
    clear hb9
    go_wp2_with fail
    refine (KvalR.out w9).mono ?_
    rintro e w10 ⟨rfl, hw10⟩
    subst w10
    go_wp2_with fail
    refine (KC.out w9 (Hb5.out.trans (Hc9.out.mono Hb5.out.size))).mono ?_
    rintro e w11 ⟨rfl, hb11⟩
    have Hc11 := Lib.hid (Hc9.out.trans (hb11.mono Hc9.out.size))
    clear hb11
    go_wp2_with fail
    go_meet
    exact ⟨rfl, Hc11.out⟩
 case rest =>
  obtain ⟨rfl, hb6⟩ := hcut
  obtain ⟨w6, rfl⟩ : ∃ x, x = wc := ⟨_, rfl⟩
  have Hb6 := Lib.hid (Hb5.out.trans (hb6.mono Hb5.out.size))
  have Hsl2 := Lib.hid ((Hsl2.out.below hb6).more hb6.size)
  have Hsl3 := Lib.hid ((Hsl3.out.below hb6).more hb6.size)
  have Hsl4 := Lib.hid ((Hsl4.out.below hb6).more hb6.size)
  clear hb6
  go_wp2_with fail
  refine (KG.out w6 Hb6.out).mono ?_
  rintro e w7 ⟨rfl, hb7⟩
  have Hb7 := Lib.hid (Hb6.out.trans (hb7.mono Hb6.out.size))
  have Hsl2 := Lib.hid ((Hsl2.out.below hb7).more hb7.size)
  have Hsl3 := Lib.hid ((Hsl3.out.below hb7).more hb7.size)
  have Hsl4 := Lib.hid ((Hsl4.out.below hb7).more hb7.size)
  clear hb7
  go_wp2_with fail
  refine (KH.out w7 Hb7.out).mono ?_
  rintro e w8 ⟨rfl, hb8⟩
  have Hb8 := Lib.hid (Hb7.out.trans (hb8.mono Hb7.out.size))
  have Hsl2 := Lib.hid ((Hsl2.out.below hb8).more hb8.size)
  have Hsl3 := Lib.hid ((Hsl3.out.below hb8).more hb8.size)
  have Hsl4 := Lib.hid ((Hsl4.out.below hb8).more hb8.size)
  clear hb8
  go_wp2_with fail
  have heq := Equal_fields S3 S4 ps.length e3 ps.length e4 _ _ ps ps w8 Hsl3.out Hsl4.out (by omega) (by omega)
  rw [show (ps == ps) = true by simp] at heq
  refine heq.mono ?_
  rintro e w9 ⟨rfl, q9, rfl⟩
  have Hb9 := Lib.hid (belN Hb8.out q9)
  have Hsl2 := Lib.hid (Hsl2.out.below (belN (Below.refl _ w8) q9))
  clear heq
  by_cases h4 : 40000 < n1
  · obtain ⟨rfl, rfl, rfl⟩ := Hmany.out h4
    have d4 : decide ((40000 : Int) < (n1 : Int)) = true := by simp; omega
    have d4' : (40000 : Int) < (n1 : Int) := by omega
    clear h4
    go_wp2_with fail
    go_ret
    exact ⟨rfl, Hb9.out⟩
  · have d4 : decide ((40000 : Int) < (n1 : Int)) = false := by simp; omega
    have d4' : ¬ (40000 : Int) < (n1 : Int) := by omega
    have h4' : n1 ≤ 40000 := by omega
    clear h4
    go_wp2_with fail
    refine (K6.out _ Hb9.out h4').mono ?_
    rintro e w10 ⟨S5, e5, rfl, hsl5, _, _, _, hb10⟩
    simp only at hsl5 ⊢
    have Hb10 := Lib.hid (Hb9.out.trans (hb10.mono Hb9.out.size))
    have heq := Equal_fields S2 S5 m.length e2 m.length e5 _ _ m m w10 ((Hsl2.out.below hb10).more hb10.size) hsl5 (by omega) (by omega)
    rw [show (m == m) = true by simp] at heq
    have Heq := Lib.hid heq
    clear heq hsl5 hb10
    go_wp2_with fail
    refine Heq.out.mono ?_
    rintro e w11 ⟨rfl, q11, rfl⟩
    have Hb11 := Lib.hid (belN Hb10.out q11)
    go_wp2_with fail
    go_ret
    exact ⟨rfl, Hb11.out⟩
end Go.Proofs.YtpnolbfnmknhlaaDoor

import Derived.Test.YtinfjdfhkfhgjaaGreatDoorU8
import Derived.Test.YtinfjdfhkfhgjaaGreatDoorU3
import Derived.Test.YtinfjdfhkfhgjaaGreatDoorU2
import Derived.BigQuiet
import Derived.Deep.RegionHeld
import Derived.Test.YtinfjdfhkfhgjaaGreatDoorU7
import Derived.Test.YtinfjdfhkfhgjaaGreatDoorU5
import Derived.Test.YtinfjdfhkfhgjaaGreatDoorU1
set_option maxRecDepth 100000
set_option maxHeartbeats 40000000
namespace Go.Proofs.YtinfjdfhkfhgjaaGreatDoor
open Go.RowKit
theorem cutF_bytes (w : World) (A : Option Addr) (n c : Nat) (ki : IntKind) (k : Int) (h0 : 0 ≤ k) (h1 : k ≤ n) :
 (Instr.slice 22 (.slice A n c) (some (.int ki k)) none none).run Tryz.prog w = .ok (.slice (cutA A c k.toNat 1) (n - k.toNat) (c - k.toNat)) w :=
 run_cut w _ _ 1 Tryz.underlying22 (Tryz.sizeOf5 w) A n c ki k h0 h1
theorem midF_bytes (w : World) (A : Option Addr) (n c : Nat) (ki kj : IntKind) (i j : Int) (h0 : 0 ≤ i) (h1 : i ≤ j) (h2 : j ≤ n) (hc : n ≤ c) :
 (Instr.slice 22 (.slice A n c) (some (.int ki i)) (some (.int kj j)) none).run Tryz.prog w = .ok (.slice (cutA A c i.toNat 1) (j.toNat - i.toNat) (c - i.toNat)) w :=
 run_mid w _ _ 1 Tryz.underlying22 (Tryz.sizeOf5 w) A n c ki kj i j h0 h1 h2 hc
attribute [local go_sem high] midF_bytes cutF_bytes
theorem idxB_at (x : UInt8) : ∀ (l : List UInt8) (k : Nat), k < l.length → nth l k = x.toNat → (∀ j, j < k → nth l j ≠ x.toNat) → Lib.indexByte l x = k
 | [], k, h, _, _ => absurd h (by simp)
 | b :: l, 0, _, h, _ => by
  rw [nth_cons_zero] at h
  have : b = x := UInt8.toNat_inj.1 h
  rw [Lib.indexByte, if_pos (by simp [this])]
  rfl
 | b :: l, k + 1, hk, h, hj => by
  have h0 := hj 0 (by omega)
  rw [nth_cons_zero] at h0
  have hne : ¬ (b == x) = true := by simp; exact fun e => h0 (by rw [e])
  have ih := idxB_at x l k (by simpa using hk) (by rw [nth_cons_succ] at h; exact h) (fun j hjk => by have := hj (j + 1) (by omega); rwa [nth_cons_succ] at this)
  rw [Lib.indexByte, if_neg hne, ih, if_neg (by simp)]
  rfl
theorem idxB_none (x : UInt8) : ∀ (l : List UInt8), (∀ j, j < l.length → nth l j ≠ x.toNat) → Lib.indexByte l x = -1
 | [], _ => rfl
 | b :: l, h => by
  have h0 := h 0 (by simp)
  rw [nth_cons_zero] at h0
  have hne : ¬ (b == x) = true := by simp; exact fun e => h0 (by rw [e])
  have ih := idxB_none x l (fun j hj => by have := h (j + 1) (by simpa using hj); rwa [nth_cons_succ] at this)
  rw [Lib.indexByte, if_neg hne, ih]
  rfl
theorem IndexU8_any (x : UInt8) (A : Option Addr) (n c B : Nat) (l : List UInt8) (w : World) (hb : By w B A n l) (hm : n ≤ maxLen) :
 Calls Tryz.prog 78 #[.slice A n c, .int .u8 (x.toNat : Int)] w fun e w' => e = .returned (.int .i64 (Lib.indexByte l x)) ∧ w' = w := by
 have hl := hb.len
 have h1 := idxB_at x l
 have h2 := idxB_none x l
 generalize Lib.indexByte l x = r at h1 h2 ⊢
 have hx := x.toNat_lt
 generalize x.toNat = q at hx h1 h2 ⊢
 have H1 := Lib.hid h1
 have H2 := Lib.hid h2
 have Hl := Lib.hid hl
 clear h1 h2 hl
 unfold maxLen at hm
 go_enter Tryz.func78, Tryz.ntmps78
 go_wp2_with fail
 go_loopw [8] (fun iv wr => ∃ k : Nat, k ≤ n ∧ iv = .int .i64 k ∧ wr = w ∧ Hid (∀ j, j < k → nth l j ≠ q)) (fun iv _ => n - (intOf iv).toNat)
 case atStart => exact ⟨0, by omega, rfl, rfl, fun j hj => absurd hj (by omega)⟩
 case round =>
  obtain ⟨k, hk, rfl, rfl, hz⟩ := hrel
  by_cases hkn : k < n
  · obtain ⟨b, off, rfl, _, hcell⟩ := hb.at_ hkn
    have d : ((q : Int) == ((nth l k : Nat) : Int)) = (q == nth l k) := by
     rw [Bool.eq_iff_iff, beq_iff_eq, beq_iff_eq]; omega
    by_cases he : q = nth l k
    · have e : (q == nth l k) = true := by simpa using he
      rw [e] at d
      have Hr := Lib.hid (H1.out k (by rw [Hl.out]; exact hkn) he.symm hz.out)
      clear he e
      go_wp2_with fail
      go_ret
      exact ⟨by rw [Hr.out]; rfl, rfl⟩
    · have e : (q == nth l k) = false := by simpa using he
      rw [e] at d
      have He := Lib.hid he
      clear he e
      go_wp2_with fail
      refine ⟨⟨k + 1, by omega, by go_num, trivial, fun j hj => ?_⟩, by simp [intOf]; omega⟩
      rcases Nat.lt_or_ge j k with h | h
      · exact hz.out j h
      · rw [show j = k from by omega]; exact fun h => He.out h.symm
  · have Hr := Lib.hid (H2.out fun k hk => hz.out k (by rw [Hl.out] at hk; omega))
    go_wp2_with fail
    go_ret
    exact ⟨by rw [Hr.out]; rfl, rfl⟩
theorem rffail_any (e : Nat) (w : World) : Calls Tryz.prog 77 #[.int .i64 (e : Nat)] w fun r w' => r = .returned (.tuple #[.slice none 0 0, .int .i64 0, .int .i64 (e : Nat)]) ∧ w' = w := by
 go_enter Tryz.func77, Tryz.ntmps77
 go_wp2_with fail
 go_ret3
 exact ⟨rfl, rfl⟩
theorem blank_ix : ∀ x : Fin 256, decide (0 ≤ Lib.indexByte [32, 9] (UInt8.ofNat x.val)) = blankF x.val := by decide +kernel
theorem ContainsB_any (x : Nat) (hx : x < 256) (w : World) : Calls Tryz.prog 32 #[.string ⟨#[32, 9]⟩, str [UInt8.ofNat x]] w fun e w' => e = .returned (.bool (blankF x)) ∧ w = w' := by
 have h := blank_ix ⟨x, hx⟩
 simp only at h
 rw [← h]
 have hI : Calls Tryz.prog 67 #[str [32, 9], .string ⟨#[UInt8.ofNat x]⟩] w fun e w' => e = .returned (.int .i64 (Lib.indexByte [32, 9] (UInt8.ofNat x))) ∧ w = w' := Index_chr1 [32, 9] (UInt8.ofNat x) w
 generalize Lib.indexByte [32, 9] (UInt8.ofNat x) = i at hI ⊢
 have HI := Lib.hid hI
 clear hI h
 have e1 : str [UInt8.ofNat x] = .string ⟨#[UInt8.ofNat x]⟩ := rfl
 rw [e1]
 generalize UInt8.ofNat x = y at HI ⊢
 go_enter Tryz.func32, Tryz.ntmps32
 go_wp2_with fail
 refine HI.out.mono ?_
 rintro e w1 ⟨rfl, rfl⟩
 go_wp2_with fail
 go_ret
 exact ⟨rfl, rfl⟩
theorem take1 {l : List UInt8} (h : 0 < l.length) : l.take 1 = [UInt8.ofNat (nth l 0)] := by
 cases l with
 | nil => simp at h
 | cons a l => rw [nth_cons_zero, ofNat_toNat8]; rfl
def RFRel (b : List UInt8) (n : Nat) (R : List FieldD × List UInt8 × Nat) (w : World) (lv av : Value) (wr : World) : Prop :=
 ∃ (p m c fu : Nat) (out : List FieldD) (S : Option Addr), lv = .slice S m c ∧ av = .int .i64 (p : Nat) ∧ p ≤ n ∧ Hid (linesF fu (b.drop p) out = R ∧ out.length = m ∧ wtF out + (n - p) ≤ n ∧ n - p < fu) ∧ m ≤ 20 ∧ m ≤ c ∧
  wr.ownsRow w.heap.size 100 2 (.slice S m c) m (fieldC out) ∧ Below w.heap.size w wr
theorem RFieldsRead_any (b : List UInt8) (A : Option Addr) (n c : Nat) (w : World) (hb : By w w.heap.size A n b) (hnc : n ≤ c) (_hcm : c ≤ maxLen) (h4 : n ≤ 40000) :
 Calls Tryz.prog 38 #[.slice A n c] w (ParseRes (parseF b) w) := by
 obtain ⟨i0, hi0, hz0, hz1, hz2⟩ := info_parts infoField
 have hl := hb.len
 rw [parseF_fin (by omega), hl]
 obtain ⟨R, hR⟩ : ∃ R, linesF (n + 1) b [] = R := ⟨_, rfl⟩
 rw [hR]
 obtain ⟨r, hr⟩ : ∃ r, r = finF n R := ⟨_, rfl⟩
 rw [← hr]
 have Hr := Lib.hid hr
 have HR := Lib.hid hR
 have Hl := Lib.hid hl
 have Hb := Lib.hid hb
 have eg := enters_of Tryz.func77 (by kernel_rfl) rfl
 clear hR hl hb hr
 go_enter Tryz.func38, Tryz.ntmps38
 go_wp2_with fail
 go_loopw [6, 7] (RFRel b n R w) (fun _ av _ => n + 1 - (intOf av).toNat)
 case atStart => exact ⟨0, 0, 0, n + 1, [], none, rfl, rfl, Nat.zero_le _, ⟨by rw [List.drop_zero]; exact HR.out, rfl, by simp [wtF], by omega⟩, Nat.zero_le _, Nat.le_refl _, World.ownsRow_nil _ _ _ _, Below.refl _ _⟩
 case round =>
  clear HR
  obtain ⟨p, m, cS, fu, out, S, rfl, rfl, hpn, hE, hm20, hmc, hown, hbel⟩ := hrel
  obtain ⟨fu, rfl⟩ : ∃ k', fu = k' + 1 := ⟨fu - 1, by have := hE.out.2.2.2; omega⟩
  have hp0 : (0 : Int) ≤ (p : Int) := by omega
  have hp1 : (p : Int) ≤ (n : Int) := by omega
  have hbyr := Hb.out.below hbel
  have hcutb := By.cut hbyr hpn hnc
  have hslen : (b.drop p).length = n - p := by rw [List.length_drop, Hl.out]
  have hix := fun X (hX : X = wr) => IndexU8_any 10 (cutA A c p 1) (n - p) (c - p) w.heap.size (b.drop p) X (hX ▸ hcutb) (by unfold maxLen; omega)
  have l1 := @lines_no fu (b.drop p) out
  have l2 := @lines_end fu (b.drop p) out
  have l3 := @lines_bad fu (b.drop p) out
  have l4 := fun m' => @lines_go fu (b.drop p) out m'
  have cy := fun k => @cut_one_yes (b.drop p) 10 k
  have cn := @cut_one_no (b.drop p) 10
  have hbd := indexByte_bd (b.drop p) 10
  rw [hslen] at hbd
  generalize hixg : Lib.indexByte (b.drop p) 10 = ix at hix cy cn hbd
  have HIx := Lib.hid (fun X => hix X)
  by_cases hneg : ix < 0
  · have d1 : decide (ix < 0) = true := by simpa using hneg
    rw [cn hneg] at l1
    have hr1 : Hid (r = ([], 0, 1)) := by show r = _; rw [Hr.out, ← hE.out.1, l1 rfl]; rfl
    clear hix l1 l2 l3 l4 cy cn hE hown hbyr hcutb hslen hixg hneg
    go_wp2_with fail
    refine (HIx.out _ rfl).mono ?_
    rintro e w1 ⟨rfl, rfl⟩
    go_wp2_with fail
    refine (rffail_any 1 _).mono ?_
    rintro e w9 ⟨rfl, rfl⟩
    go_wp2_with fail
    go_ret3
    rw [hr1.out]
    exact ParseRes.fail 1 hbel
  · obtain ⟨k, rfl⟩ : ∃ k : Nat, ix = k := ⟨ix.toNat, by omega⟩
    have hk : k < n - p := by omega
    have d1 : decide ((k : Int) < 0) = false := by simp
    rw [cy k rfl] at l1 l2 l3 l4
    simp only at l1 l2 l3 l4
    have hrest : (b.drop p).drop (k + 1) = b.drop (p + k + 1) := by rw [List.drop_drop]; congr 1
    rw [hrest] at l2 l4
    obtain ⟨line0, hline0⟩ : ∃ x, x = (b.drop p).take k := ⟨_, rfl⟩
    rw [← hline0] at l2 l3 l4
    have hl0l : line0.length = k := by rw [hline0, List.length_take, hslen]; omega
    have hbyl : By wr w.heap.size (cutA A c p 1) k line0 := by rw [hline0]; exact By.upto hcutb (by omega)
    have hts := run_toStr (P := Tryz.prog) wr 22 9 5 _ (cutA A c p 1) k (c - p) line0 hbyl Tryz.underlying22 Tryz.underlying5 Tryz.underlying9
    have hcA : cutA A c p 1 = Option.map (fun x => x.add p) A := by unfold cutA; rw [if_neg (by omega), Nat.mul_one]
    rw [hcA] at hts
    have hSx := fun X => HasSuffix_any line0 [13] X (by unfold maxLen; omega)
    have hpk1 : p + k + 1 ≤ n := by omega
    obtain ⟨line, hline⟩ : ∃ x, x = chopF line0 := ⟨_, rfl⟩
    have hcl := chop_len line0
    rw [← hline] at l2 l3 l4 hcl
    have hchop : line = if Lib.hasSuffix line0 [13] then line0.take (line0.length - 1) else line0 := hline
    have hsle : Lib.hasSuffix line0 [13] = true → 1 ≤ line0.length := fun h => by
     have := Lib.hasSuffix_le h
     simpa using this
    obtain ⟨sf, hsf⟩ : ∃ s, s = Lib.hasSuffix line0 [13] := ⟨_, rfl⟩
    rw [← hsf] at hSx hchop hsle
    have HSx := Lib.hid hSx
    have Hchop := Lib.hid hchop
    have Hl0l := Lib.hid hl0l
    have e1 : ((p + k : Nat) : Int) = (p : Int) + (k : Int) := by omega
    have e2 : ((p : Int) + (k : Int)).toNat - ((p : Int)).toNat = k := by omega
    clear hcA hix l1 cy cn hbyr hcutb hslen hixg hneg hSx hchop hline0 hbyl hsf hline hrest hbd
    go_wp2_with fail
    refine (HIx.out _ rfl).mono ?_
    rintro e w1 ⟨rfl, rfl⟩
    go_wp2_with fail
    refine (HSx.out _).mono ?_
    rintro e w2 ⟨rfl, rfl⟩
    go_upto_if 36 with fail
    go_cut [9] from 13 to 41 (fun s9 wx => s9 = str line ∧ w1 = wx)
    case first =>
     cases sf with
     | true =>
      have hch := Hchop.out
      rw [if_pos rfl] at hch
      have h1l := hsle rfl
      have Hch := Lib.hid hch
      clear hch hsle
      go_wp2_with fail
      go_meet
      exact ⟨by rw [Hch.out]; congr 2; omega, rfl⟩
     | false =>
      have hch := Hchop.out
      rw [if_neg (by simp)] at hch
      have Hch := Lib.hid hch
      clear hch hsle
      go_wp2_with fail
      go_meet
      exact ⟨by rw [Hch.out], rfl⟩
    case rest =>
     obtain ⟨rfl, hwx⟩ := hcut
     subst hwx
     have hrl : (b.drop (p + k + 1)).length = n - (p + k + 1) := by rw [List.length_drop, Hl.out]
     obtain ⟨rs, hrs⟩ : ∃ x, x = b.drop (p + k + 1) := ⟨_, rfl⟩
     rw [← hrs] at l2 l4 hrl
     have hl0k := Hl0l.out
     clear hsle
     by_cases hl0 : line = []
     · have hRv : R = if chkF out = 0 then (out, rs, 0) else ([], [], chkF out) := by rw [← hE.out.1]; exact l2 trivial hl0
       have hol := hE.out.2.1
       have hwt := hE.out.2.2.1
       have hsm : smallF out := wtF_small (N := 40000) (by omega) (by unfold maxLen; omega)
       have d0 : (line == []) = true := by simpa using hl0
       have hck := RCheckFields_any out S m cS w1.heap.size w1 (Sl.of_own hown) (Nat.le_refl _) hsm (by unfold maxLen; omega)
       have hslw := Sl.of_own hown
       have hcm2 := own_capF hown
       have hrS : r = if chkF out = 0 then (out, p + k + 1, 0) else ([], 0, chkF out) := by
        rw [Hr.out, hRv]
        unfold finF
        by_cases h0 : chkF out = 0
        · rw [if_pos h0, if_pos h0, if_pos rfl]
          simp only [hrl]
          rw [show n - (n - (p + k + 1)) = p + k + 1 from by omega]
        · rw [if_neg h0, if_neg h0, if_neg (by simpa using h0)]
       generalize chkF out = e0 at hck hrS
       have Hck := Lib.hid hck
       have Hslw := Lib.hid hslw
       have Hsm := Lib.hid hsm
       have Hol := Lib.hid hol
       clear l2 l3 l4 hE hown hRv hck hslw hsm hol hwt hl0 hrl hrs
       by_cases he0 : e0 = 0
       · subst he0
         have hr1 : Hid (r = (out, p + k + 1, 0)) := by show r = _; rw [hrS, if_pos rfl]
         clear hrS
         go_wp2_with fail
         refine Hck.out.mono ?_
         rintro e w3 ⟨rfl, hb3⟩
         go_wp2_with fail
         go_ret3
         rw [hr1.out]
         exact ⟨S, cS, by rw [← Hol.out]; simp; omega, by rw [show (out, p + k + 1, 0).1.length = m from Hol.out]; exact (Hslw.out.below hb3).more hb3.size, Hsm.out, by show out.length ≤ cS; rw [Hol.out]; exact hmc, hcm2, hbel.trans (hb3.mono hbel.size)⟩
       · have hr1 : Hid (r = ([], 0, e0)) := by show r = _; rw [hrS, if_neg he0]
         have de : ((e0 : Int) != 0) = true := by simp; omega
         clear hrS he0
         go_wp2_with fail
         refine Hck.out.mono ?_
         rintro e w3 ⟨rfl, hb3⟩
         go_wp2_with fail
         refine (rffail_any e0 _).mono ?_
         rintro e w9 ⟨rfl, rfl⟩
         go_wp2_with fail
         go_ret3
         rw [hr1.out]
         exact ParseRes.fail e0 (hbel.trans (hb3.mono hbel.size))
     · have d0 : (line == []) = false := by simpa using hl0
       have hll : 0 < line.length := List.length_pos_iff.2 hl0
       have hi0' : (0 : Int) ≤ 1 := by omega
       have hi1' : (1 : Int) ≤ line.length := by omega
       have l3 := l3 trivial hl0
       have l4 := fun m' => l4 m' trivial hl0
       have ht1 := take1 hll
       have hCt := fun X => ContainsB_any (nth line 0) (nth_lt _ _) X
       rw [← ht1] at hCt
       obtain ⟨bl, hbl⟩ : ∃ x, x = blankF (nth line 0) := ⟨_, rfl⟩
       rw [← hbl] at hCt
       have HCt := Lib.hid hCt
       have Hwt := Lib.hid hE.out.2.2.1
       have hfu : n - (p + k + 1) < fu := by have := hE.out.2.2.2; omega
       clear l2 hl0 ht1 hCt
       cases bl with
       | true =>
        by_cases hm0 : m = 0
        · have hout : out = [] := List.eq_nil_of_length_eq_zero (by rw [hE.out.2.1]; exact hm0)
          have hr1 : Hid (r = ([], 0, 1)) := by show r = _; rw [Hr.out, ← hE.out.1, l3 (goF_blank0 hbl.symm hout)]; rfl
          subst hm0
          clear l3 l4 hE hown hbl hout hrs
          go_wp2_with fail
          refine (HCt.out _).mono ?_
          rintro e w3 ⟨rfl, rfl⟩
          go_wp2_with fail
          refine (rffail_any 1 _).mono ?_
          rintro e w9 ⟨rfl, rfl⟩
          go_wp2_with fail
          go_ret3
          rw [hr1.out]
          exact ParseRes.fail 1 hbel
        · have hout : out ≠ [] := fun e => hm0 (by rw [← hE.out.2.1, e]; rfl)
          obtain ⟨init, f, rfl⟩ : ∃ init f, out = init ++ [f] := ⟨out.dropLast, out.getLast hout, (List.dropLast_concat_getLast hout).symm⟩
          have hmi : m = init.length + 1 := by rw [← hE.out.2.1]; simp
          have hgo := l4 _ (goF_blank hbl.symm hout)
          have hwt := more_wt init f line
          have hms := more_snoc init f line
          obtain ⟨g, cap, hv, hgb, hgl⟩ := hown.form (by omega)
          injection hv with hS2 _ hcap
          subst hS2
          subst hcap
          have hj : m - 1 = init.length := by omega
          have q1 : w1.cell? ⟨g, (m - 1) * 2 + 1, none⟩ = some (str f.value) := by
           rw [hown.cellAt _ (by omega), fieldC_app, List.getElem?_append_right (by rw [fieldC_len]; omega), fieldC_len, hj, show init.length * 2 + 1 - init.length * 2 = 1 from by omega]
           rfl
          have f1 : w1.frozen? ⟨g, (m - 1) * 2 + 1, none⟩ = false := hown.frozenAt _
          have htl := trim_len line [32, 9]
          have hT1 := fun W => Trim_any line [32, 9] W (by unfold maxLen; omega) (by decide) (by decide)
          have hfv : f.value.length ≤ 40000 := by
           have h1 := hE.out.2.2.1
           have h2 := @wtF_mem (init ++ [f]) f (by simp)
           omega
          generalize hT1d : Lib.trimS line [32, 9] = t1 at hT1 htl hms
          have hT2 := fun W => Trim_any (f.value ++ 32 :: t1) [32] W (by unfold maxLen; simp only [List.length_append, List.length_cons]; omega) (by decide) (by decide)
          generalize hT2d : Lib.trimS (f.value ++ 32 :: t1) [32] = t2 at hT2 hms
          have HT1 := Lib.hid hT1
          have HT2 := Lib.hid hT2
          have hput : (fieldC (init ++ [f])).set ((m - 1) * 2 + 1) (str t2) = fieldC (moreF (init ++ [f]) line) := by rw [hj, fieldC_put, hms]
          have hml : (moreF (init ++ [f]) line).length = m := by rw [hms, hmi]; simp
          have hR2 : Hid (R = if 20 < m then ([], [], 2) else linesF fu rs (moreF (init ++ [f]) line)) := by show R = _; rw [← hE.out.1, hgo, hml]
          have hwt2 : Hid (wtF (moreF (init ++ [f]) line) + (n - (p + k + 1)) ≤ n) := by
           show _ ≤ _
           have := Hwt.out
           omega
          generalize moreF (init ++ [f]) line = out2 at hput hml hR2 hwt2
          have Hown := Lib.hid hown
          have Hput := Lib.hid hput
          have Hml := Lib.hid hml
          have hm1 : 0 < m := by omega
          have Hrs := Lib.hid hrs
          have Hrl := Lib.hid hrl
          clear l3 l4 hE hown hbl hgo hwt hms hT1 hT2 hput hml hT1d hT2d hm0 hmi hj hrs hrl hout
          go_wp2_with fail
          refine (HCt.out _).mono ?_
          rintro e w3 ⟨rfl, rfl⟩
          have hb1 := belN (Below.refl w1.heap.size w1) 1
          have hszd : g < w1.drew.heap.size := hgl
          go_wp2_with fail
          go_region_with (first
           | (go_at_call 79; (with_reducible refine (HT1.out _).mono ?_); rintro e w4 ⟨rfl, hb4⟩; have q4 := (hb4.cell (p := ⟨g, (m - 1) * 2 + 1, none⟩) hszd).trans q1; have f4 := (hb4.frozen (p := ⟨g, (m - 1) * 2 + 1, none⟩) hszd).trans f1; have hsz4 := Nat.lt_of_lt_of_le hszd hb4.size)
           | (go_at_call 79; (with_reducible refine (HT2.out _).mono ?_); rintro e w5 ⟨rfl, hb5⟩; have q5 := (hb5.cell (p := ⟨g, (m - 1) * 2 + 1, none⟩) hsz4).trans q4; have f5 := (hb5.frozen (p := ⟨g, (m - 1) * 2 + 1, none⟩) hsz4).trans f4))
          all_goals
           have hbw := hb1.trans ((hb4.trans (hb5.mono hb4.size)).mono (show w1.heap.size ≤ w1.drew.heap.size from Nat.le_refl _))
           have hown5 := (own_below Hown.out hbw).stored ((m - 1) * 2 + 1) (str t2) |>.1
           rw [Hput.out] at hown5
           have hbel5 := (hbel.trans (hbw.mono hbel.size)).setCell (p := ⟨g, (m - 1) * 2 + 1, none⟩) hgb (str t2)
           have d20 : decide ((20 : Int) < (m : Int)) = false := by simp; omega
           have hR3 : Hid (linesF fu rs out2 = R) := by show _ = R; rw [hR2.out, if_neg (by omega)]
           have Hown5 := Lib.hid hown5
           clear hown5 q1 f1 q4 f4 q5 f5 hb1 hb4 hb5 hbw
           go_wp2_with fail
           exact ⟨⟨p + k + 1, m, cS, fu, out2, some ⟨g, 0, none⟩, rfl, by go_num, hpk1, ⟨by rw [← Hrs.out]; exact hR3.out, Hml.out, hwt2.out, hfu⟩, hm20, hmc, Hown5.out, hbel5⟩, by simp [intOf]; omega⟩
       | false =>
        have hix2 := fun X => Index_chr1 line 58 X
        have cy := fun k => @cut_one_yes line 58 k
        have cn := @cut_one_no line 58
        have hc1 := @goF_none out line hbl.symm
        have hc2 := @goF_new out line hbl.symm
        have hc3 := new_wt out line
        have hbd := indexByte_bd line 58
        generalize Lib.indexByte line 58 = ic at hix2 cy cn hbd
        have HIx2 := Lib.hid hix2
        by_cases hneg : ic < 0
        · have d2 : decide (ic < 0) = true := by simpa using hneg
          rw [cn hneg] at hc1
          have hr1 : Hid (r = ([], 0, 1)) := by show r = _; rw [Hr.out, ← hE.out.1, l3 (hc1 rfl)]; rfl
          clear l3 l4 hE hown hbl hix2 cy cn hc1 hc2 hc3 hbd hneg hrs hrl
          go_wp2_with fail
          refine (HCt.out _).mono ?_
          rintro e w3 ⟨rfl, rfl⟩
          go_wp2_with fail
          refine (HIx2.out _).mono ?_
          rintro e w4 ⟨rfl, rfl⟩
          go_wp2_with fail
          refine (rffail_any 1 _).mono ?_
          rintro e w9 ⟨rfl, rfl⟩
          go_wp2_with fail
          go_ret3
          rw [hr1.out]
          exact ParseRes.fail 1 hbel
        · obtain ⟨j, rfl⟩ : ∃ j : Nat, ic = j := ⟨ic.toNat, by omega⟩
          have hj : j < line.length := by omega
          have d2 : decide ((j : Int) < 0) = false := by simp
          rw [cy j rfl] at hc2 hc3
          simp only at hc2 hc3
          have hgo := l4 _ (hc2 trivial)
          have hwt := hc3 trivial
          have hT1 := fun W => Trim_any (line.drop (j + 1)) [32, 9] W (by rw [List.length_drop]; unfold maxLen; omega) (by decide) (by decide)
          have hR2 : Hid (R = if 20 < m + 1 then ([], [], 2) else linesF fu rs (out ++ [⟨line.take j, Lib.trimS (line.drop (j + 1)) [32, 9]⟩])) := by
           show R = _
           rw [← hE.out.1, hgo]
           simp only [List.length_append, List.length_cons, List.length_nil, hE.out.2.1, Nat.zero_add]
          have hwt2 : Hid (wtF (out ++ [⟨line.take j, Lib.trimS (line.drop (j + 1)) [32, 9]⟩]) + (n - (p + k + 1)) ≤ n) := by
           show _ ≤ _
           have := Hwt.out
           omega
          generalize Lib.trimS (line.drop (j + 1)) [32, 9] = t at hT1 hR2 hwt2
          have hml : Hid ((out ++ [FieldD.mk (line.take j) t]).length = m + 1) := by show _ = _; simp [hE.out.2.1]
          have HT1 := Lib.hid hT1
          have Hown := Lib.hid hown
          have h63 : m + 1 ≤ maxLen := by unfold maxLen; omega
          have h47 : (m + 1) * 32 ≤ 140737488355328 := by omega
          have hone : ∀ u ∈ [str (line.take j), str t], u.oneCell' = true := by intro u hu; simp at hu; rcases hu with rfl | rfl <;> rfl
          have Hone := Lib.hid hone
          have Hrs := Lib.hid hrs
          have hj0 : (0 : Int) ≤ (j : Int) := by omega
          have hj1 : (j : Int) ≤ line.length := by omega
          have hj2 : (0 : Int) ≤ (j : Int) + 1 := by omega
          have hj3 : (j : Int) + 1 ≤ line.length := by omega
          have hj4 : j ≤ line.length := by omega
          have hj5 : j + 1 ≤ line.length := by omega
          have hwj : IntKind.i64.wrap ((j : Int) + 1) = (j : Int) + 1 := by rw [IntKind.wrap_i64]; omega
          clear l3 l4 hE hown hbl hix2 cy cn hc1 hc2 hc3 hbd hneg hrs hrl hgo hwt hT1 hone
          go_wp2_with fail
          refine (HCt.out _).mono ?_
          rintro e w3 ⟨rfl, rfl⟩
          go_wp2_with fail
          refine (HIx2.out _).mono ?_
          rintro e w4 ⟨rfl, rfl⟩
          go_wp2_with fail
          refine wp_region_held (S := fun _ => True) (by kernel_rfl) ?_
          change wpAnyH _ _ _ _ _ _ _ _ (World.drew w1)
          have hS : True := trivial
          refine tkH (i := 0) (v := ?_) rfl ?_ hS ?_
          rotate_left 1
          · intro W' hb'; go_simp; try exact rfl
          refine tkH (i := 1) (v := ?_) rfl ?_ hS ?_
          rotate_left 1
          · intro W' hb'; go_simp; try exact rfl
          refine tkH (i := 2) (v := ?_) rfl ?_ hS ?_
          rotate_left 1
          · intro W' hb'; go_simp; try exact rfl
          refine tkH (i := 3) (v := ?_) rfl ?_ hS ?_
          rotate_left 1
          · intro W' hb'; go_simp; try exact rfl
          refine tkH (i := 4) (v := ?_) rfl ?_ hS ?_
          rotate_left 1
          · intro W' hb'; go_simp; try exact rfl
          refine tkH (i := 5) (v := ?_) rfl ?_ hS ?_
          rotate_left 1
          · intro W' hb'; go_simp; try exact rfl
          refine tkH (i := 6) (v := ?_) rfl ?_ hS ?_
          rotate_left 1
          · intro W' hb'; go_simp; try exact rfl
          refine tkH (i := 7) (v := ?_) rfl ?_ hS ?_
          rotate_left 1
          · intro W' hb'; go_simp; try exact rfl
          refine wpAnyH_all (rs := [8]) (by kernel_rfl) (by simp) ?_
          intro kk hkk
          simp only [List.mem_singleton] at hkk
          subst hkk
          go_simp
          refine wpOp_callF rfl (by kernel_rfl) 79 #[str (line.drop (j + 1)), .string ⟨#[32, 9]⟩] (by go_simp) _ _ (HT1.out _) ?_
          intro w5 hb5
          refine tkH (i := 9) (v := ?_) rfl ?_ hS ?_
          rotate_left 1
          · intro W' hb'; go_simp; try exact rfl
          refine wpAnyH_all (rs := [10]) (by kernel_rfl) (by simp) ?_
          intro kk hkk
          simp only [List.mem_singleton] at hkk
          subst hkk
          go_simp
          refine wpOp_runv rfl (by kernel_rfl) (.slice (some ⟨w5.heap.size, 0, none⟩) 1 1) (w5.alloc (.cells #[str (line.take j), str t] 100)) (by go_simp) ?_
          have hbd1 : Below w1.heap.size w1 w5 := (belN (Below.refl w1.heap.size w1) 1).trans hb5
          have hbA : Below w5.heap.size w5 (w5.alloc (.cells #[str (line.take j), str t] 100)) := (Below.refl _ _).alloc (Nat.le_refl _) _
          have hb1A := hbd1.trans (hbA.mono hbd1.size)
          have hown5 := own_below Hown.out hb1A
          have hsz := hbel.size
          have hszA := hb1A.size
          obtain ⟨S8, c8, w8, hrun8, hown8, hg8, _⟩ := run_app (P := Tryz.prog) (w5.alloc (.cells #[str (line.take j), str t] 100)) w.heap.size 59 59 100 i0 (.agg #[.string ⟨#[]⟩, .string ⟨#[]⟩]) 2 32 Tryz.underlying59 hi0 hz0 hz1 hz2 rfl (by decide) S m cS (fieldC out) hown5 _ _ 1 1 [str (line.take j), str t] (Sl.row _ _ 2 1 _ rfl) Hone.out h63 h47 (by omega)
          have hbel8 := (hbel.trans (hb1A.mono hsz)).grown hg8 (by omega) (fun q hq => (hown5.lt q hq).1)
          rw [show fieldC out ++ [str (line.take j), str t] = fieldC (out ++ [⟨line.take j, t⟩]) from by rw [fieldC_app]; rfl] at hown8
          have hc8 := own_cap hown8
          have Hown8 := Lib.hid hown8
          clear hbd1 hbA hb1A hown5 hown8 hg8 hb5
          refine wpAnyH_all (rs := [11]) (by kernel_rfl) (by simp) ?_
          intro kk hkk
          simp only [List.mem_singleton] at hkk
          subst hkk
          go_simp
          refine wpOp_appRun rfl (by kernel_rfl) _ _ _ rfl (.slice S m cS) (.slice (some ⟨w5.heap.size, 0, none⟩) 1 1) (by go_simp) (by go_simp) _ w8 hrun8 ?_
          refine tkH (i := 12) (v := ?_) rfl ?_ hS ?_
          rotate_left 1
          · intro W' hb'; go_simp; try exact rfl
          refine wpAnyH_done (by kernel_rfl) ?_ _
          go_simp
          by_cases h20 : 20 < m + 1
          · have d20 : decide ((20 : Int) < (m : Int) + 1) = true := by simp; omega
            have hr1 : Hid (r = ([], 0, 2)) := by show r = _; rw [Hr.out, hR2.out, if_pos h20]; rfl
            go_wp2_with fail
            refine (rffail_any 2 _).mono ?_
            rintro e w9 ⟨rfl, rfl⟩
            go_wp2_with fail
            go_ret3
            rw [hr1.out]
            exact ParseRes.fail 2 hbel8
          · have d20 : decide ((20 : Int) < (m : Int) + 1) = false := by simp; omega
            have hR3 : Hid (linesF fu rs (out ++ [⟨line.take j, t⟩]) = R) := by show _ = R; rw [hR2.out, if_neg h20]
            go_wp2_with fail
            exact ⟨⟨p + k + 1, m + 1, c8, fu, _, S8, rfl, by go_num, hpk1, ⟨by rw [← Hrs.out]; exact hR3.out, hml.out, hwt2.out, hfu⟩, by omega, hc8, Hown8.out, hbel8⟩, by simp [intOf]; omega⟩
end Go.Proofs.YtinfjdfhkfhgjaaGreatDoor
namespace Go.Proofs.YtinfjdfhkfhgjaaGreatDoor
open Go.RowKit
theorem getF_low {n m : List UInt8} (h : lowL n = lowL m) : ∀ l : List FieldD, getF l n = getF l m
 | [] => rfl
 | f :: r => by
  have e : Lib.equalFold f.name n = Lib.equalFold f.name m := by rw [Bool.eq_iff_iff, fold_iff, fold_iff, h]
  rw [getF, getF, getF_low h r, e]
theorem RGot_ascii (l : List FieldD) (name m : List UInt8) (A : Option Addr) (n c B : Nat) (w : World) (hlo : lowL name = lowL m) (h : Sl w B 2 A n (fieldC l)) (hB : B ≤ w.heap.size) (hn : n ≤ maxLen) (ha : ∀ f ∈ l, asciiL f.name) (hna : asciiL name) :
 Calls Tryz.prog 39 #[.slice A n c, str name] w fun e w' => e = .returned (str (getF l m)) ∧ Below w.heap.size w w' := by
 have k := Got_any (fun f => Lib.equalFold f.name name) l name A n c B w h hB hn (fun x hx W' _ => (EqualFold_ascii x.name name W' (ha x hx) hna).mono fun _ _ ⟨h1, h2⟩ => ⟨h1, h2 ▸ Below.refl _ _⟩)
 rw [getQ_F, getF_low hlo] at k
 exact k
def ctL : List UInt8 := [99, 111, 110, 116, 101, 110, 116, 45, 116, 121, 112, 101]
def idL : List UInt8 := [99, 111, 110, 116, 101, 110, 116, 45, 105, 100]
def locL : List UInt8 := [99, 111, 110, 116, 101, 110, 116, 45, 108, 111, 99, 97, 116, 105, 111, 110]
def cteL : List UInt8 := [99, 111, 110, 116, 101, 110, 116, 45, 116, 114, 97, 110, 115, 102, 101, 114, 45, 101, 110, 99, 111, 100, 105, 110, 103]
theorem BoxF.m2 {w : World} {b : Nat} {v0 v1 v2 v3 v4 v5 v6 : Value} (h : BoxF w b v0 v1 v2 v3 v4 v5 v6) (u : Value) : BoxF (w.setCell ⟨b, 2, none⟩ u) b v0 v1 u v3 v4 v5 v6 := by
 obtain ⟨⟨h0, h1, h2, h3, h4, h5, h6⟩, hf⟩ := h
 have far : ∀ k v, k ≠ 2 → w.cell? ⟨b, k, none⟩ = some v → (w.setCell ⟨b, 2, none⟩ u).cell? ⟨b, k, none⟩ = some v := fun k v h5 h => by
  rw [World.cell?_setCell_other _ _ _ _ (by simp <;> omega)]; exact h
 exact ⟨⟨far 0 _ (by omega) h0, far 1 _ (by omega) h1, World.cell?_setCell_same _ _ _ h2, far 3 _ (by omega) h3, far 4 _ (by omega) h4, far 5 _ (by omega) h5, far 6 _ (by omega) h6⟩, fun k => by simpa using hf k⟩
theorem below_set8 {B : Nat} {w w' : World} (h : Below B w w') {b : Nat} (hb : B ≤ b) (k : Nat) (u : Value) : Below B w (w'.setCell ⟨b, k, none⟩ u) :=
 ⟨h.os, h.tape, h.output, by simpa [World.setCell] using h.size, fun j hj => (Below.heap_setCell w' ⟨b, k, none⟩ u j (by show j ≠ b; omega)).trans (h.block j hj)⟩
theorem idM_test {s : List UInt8} (h2 : 2 ≤ s.length) : (Lib.hasPrefix s [60] && Lib.hasSuffix s [62]) = true ↔ nth s 0 = 60 ∧ nth s (s.length - 1) = 62 := by
 rw [Bool.and_eq_true, pre_one, suf_one, List.head?_eq_getElem?, List.getLast?_eq_getElem?, List.getElem?_eq_getElem (by omega), List.getElem?_eq_getElem (by omega), nth_of s 0 (by omega), nth_of s (s.length - 1) (by omega)]
 have e : ∀ (a : UInt8) (c : UInt8), (some a == some c) = true ↔ a.toNat = c.toNat := fun a c => by simp [← UInt8.toNat_inj]
 rw [e, e]
 rfl
theorem idM_yes {s : List UInt8} (h2 : 2 ≤ s.length) (h : nth s 0 = 60) (k : nth s (s.length - 1) = 62) : idM s = (s.take (s.length - 1)).drop 1 := by
 unfold idM
 rw [if_pos ((idM_test h2).2 ⟨h, k⟩)]
theorem idM_no {s : List UInt8} (h : ¬ 2 ≤ s.length ∨ nth s 0 ≠ 60 ∨ nth s (s.length - 1) ≠ 62) : idM s = s := by
 unfold idM
 by_cases h2 : 2 ≤ s.length
 · rw [if_neg (fun e => by have := (idM_test h2).1 e; omega)]
 · match s, h2 with
   | [], _ => rfl
   | [a], _ =>
    rw [if_neg]
    rw [Bool.and_eq_true, pre_one, suf_one]
    rintro ⟨e1, e2⟩
    simp at e1 e2
    rw [e1] at e2
    exact absurd e2 (by decide)
   | a :: b :: r, h2 => exact absurd (by simp) h2
theorem low_names : lowL ctL = lowL ctN ∧ lowL idL = lowL idN ∧ lowL locL = lowL locN ∧ lowL cteL = lowL cteN := by decide
end Go.Proofs.YtinfjdfhkfhgjaaGreatDoor
namespace Go.Proofs.YtinfjdfhkfhgjaaGreatDoor
/-- How many letters stand in the line, where 'a' bytes are behind. -/
def wd (a : Nat) : Nat := if a % 57 = 0 then (if a = 0 then 0 else 76) else a % 57 / 3 * 4
theorem wd_step (a : Nat) (h : a % 3 = 0) : after (wd a) = wd (a + 3) := by
 unfold wd after
 by_cases h0 : a % 57 = 0
 · by_cases h1 : a = 0
   · subst h1; decide
   · rw [if_pos h0, if_neg h1, if_pos rfl, if_neg (by omega)]; omega
 · rw [if_neg h0, if_neg (by omega)]
   by_cases h2 : (a + 3) % 57 = 0
   · rw [if_pos h2, if_neg (by omega)]; omega
   · rw [if_neg h2]; omega
theorem wd_brk (a : Nat) : brk (wd a) = if 0 < a ∧ a % 57 = 0 then [13, 10] else [] := by
 unfold wd brk
 by_cases h0 : a % 57 = 0
 · by_cases h1 : a = 0
   · subst h1; decide
   · rw [if_pos h0, if_neg h1, if_pos rfl, if_pos ⟨by omega, h0⟩]
 · rw [if_neg h0, if_neg (by omega), if_neg (by omega)]
/-- Bit t of bytes, from the first one's highest on. -/
def bitAt (l : List UInt8) (t : Nat) : Nat := nth l (t / 8) / 2 ^ (7 - t % 8) % 2
def bitsTo (l : List UInt8) (k : Nat) : Nat → Nat
 | 0 => 0
 | j + 1 => bitsTo l k j * 2 + bitAt l (6 * k + j)
theorem bitsTo_lt (l : List UInt8) (k j : Nat) : bitsTo l k j < 2 ^ j := by
 induction j with
 | zero => simp [bitsTo]
 | succ j ih =>
  have : bitAt l (6 * k + j) < 2 := Nat.mod_lt _ (by omega)
  simp only [bitsTo, Nat.pow_succ]
  omega
theorem bitAt_val (l : List UInt8) (t : Nat) (ht : t < 24) : bitAt l t = val3 l / 2 ^ (23 - t) % 2 := by
 have h0 := nth_lt l 0
 have h1 := nth_lt l 1
 have h2 := nth_lt l 2
 unfold bitAt val3
 rcases (by omega : t < 8 ∨ (8 ≤ t ∧ t < 16) ∨ 16 ≤ t) with h | h | h
 · rw [show t / 8 = 0 by omega, show t % 8 = t by omega, show 23 - t = 16 + (7 - t) by omega, Nat.pow_add, ← Nat.div_div_eq_div_mul]
   congr 2; omega
 · rw [show t / 8 = 1 by omega, show t % 8 = t - 8 by omega, show 23 - t = 8 + (7 - (t - 8)) by omega, Nat.pow_add, ← Nat.div_div_eq_div_mul]
   rw [show (nth l 0 * 65536 + nth l 1 * 256 + nth l 2) / 2 ^ 8 = nth l 1 + nth l 0 * 2 ^ 8 by omega]
   generalize hm : 7 - (t - 8) = m
   have hm8 : m < 8 := by omega
   rcases (by omega : m = 0 ∨ m = 1 ∨ m = 2 ∨ m = 3 ∨ m = 4 ∨ m = 5 ∨ m = 6 ∨ m = 7) with rfl | rfl | rfl | rfl | rfl | rfl | rfl | rfl <;> omega
 · rw [show t / 8 = 2 by omega, show t % 8 = t - 16 by omega, show 23 - t = 7 - (t - 16) by omega]
   generalize hm : 7 - (t - 16) = m
   have hm8 : m < 8 := by omega
   rcases (by omega : m = 0 ∨ m = 1 ∨ m = 2 ∨ m = 3 ∨ m = 4 ∨ m = 5 ∨ m = 6 ∨ m = 7) with rfl | rfl | rfl | rfl | rfl | rfl | rfl | rfl <;> omega
theorem bitsTo_val (l : List UInt8) (k : Nat) (hk : k < 4) (j : Nat) (hj : j ≤ 6) : bitsTo l k j = val3 l / 2 ^ (24 - 6 * k - j) % 2 ^ j := by
 induction j with
 | zero => simp [bitsTo, Nat.mod_one]
 | succ j ih =>
  simp only [bitsTo]
  rw [ih (by omega), bitAt_val l _ (by omega), show 24 - 6 * k - j = (24 - 6 * k - (j + 1)) + 1 by omega, show 23 - (6 * k + j) = 24 - 6 * k - (j + 1) by omega]
  generalize 24 - 6 * k - (j + 1) = m
  rw [Nat.pow_succ 2 m, ← Nat.div_div_eq_div_mul, Nat.pow_succ 2 j, Nat.mul_comm (2 ^ j) 2, Nat.mod_mul]
  omega
theorem bits_six (l : List UInt8) (k : Nat) (hk : k < 4) : bitsTo l k 6 = val3 l / 2 ^ (18 - 6 * k) % 64 := by
 rw [bitsTo_val l k hk 6 (Nat.le_refl _), show 24 - 6 * k - 6 = 18 - 6 * k by omega]
end Go.Proofs.YtinfjdfhkfhgjaaGreatDoor
namespace Go.Proofs.YtinfjdfhkfhgjaaGreatDoor
theorem indexByte_mem (l : List UInt8) (c : UInt8) : 0 ≤ Lib.indexByte l c ↔ c ∈ l := by
 induction l with
 | nil => simp [Lib.indexByte]
 | cons b l ih =>
  have hb := indexByte_bd l c
  simp only [Lib.indexByte, List.mem_cons]
  by_cases h : b = c
  · subst h; simp
  · have h1 : (b == c) = false := by simp [h]
    rw [h1]
    have h2 : ¬ c = b := fun e => h e.symm
    by_cases h3 : Lib.indexByte l c = -1
    · simp only [h3, beq_self_eq_true, if_true]
      have : ¬ c ∈ l := fun hm => by have := ih.2 hm; omega
      simp [this, h2]
    · have h4 : (Lib.indexByte l c == -1) = false := by simp [h3]
      rw [h4]
      have : c ∈ l := ih.1 (by omega)
      simp only [this, or_true, iff_true]
      simp
      omega
theorem ofNat_eq (x c : Nat) (hx : x < 256) (hc : c < 256) : UInt8.ofNat x = UInt8.ofNat c ↔ x = c := by
 rw [← UInt8.toNat_inj, UInt8.toNat_ofNat', UInt8.toNat_ofNat']; omega
theorem idx_blank (x : Nat) (hx : x < 256) : (0 ≤ idxI [32, 9, 13, 10] x) ↔ blankN x = true := by
 unfold idxI
 rw [indexByte_mem]
 simp only [List.mem_cons, List.not_mem_nil, or_false, blankN, Bool.or_eq_true, beq_iff_eq]
 have h32 := ofNat_eq x 32 hx (by omega)
 have h9 := ofNat_eq x 9 hx (by omega)
 have h13 := ofNat_eq x 13 hx (by omega)
 have h10 := ofNat_eq x 10 hx (by omega)
 rw [← h32, ← h9, ← h13, ← h10]
 constructor
 · rintro (h | h | h | h)
   · exact .inl (.inl (.inl h))
   · exact .inl (.inl (.inr h))
   · exact .inl (.inr h)
   · exact .inr h
 · rintro (((h | h) | h) | h)
   · exact .inl h
   · exact .inr (.inl h)
   · exact .inr (.inr (.inl h))
   · exact .inr (.inr (.inr h))
/-- The six bits of a letter's value. -/
def six (v : Nat) : List Nat := [v / 32 % 2, v / 16 % 2, v / 8 % 2, v / 4 % 2, v / 2 % 2, v % 2]
def bits6 (l : List Nat) : List Nat := l.flatMap six
theorem bits6_len (l : List Nat) : (bits6 l).length = 6 * l.length := by
 induction l with
 | nil => rfl
 | cons a l ih =>
  show (six a ++ bits6 l).length = _
  simp only [List.length_append, ih, six, List.length_cons, List.length_nil]; omega
theorem bits6_snoc (l : List Nat) (v : Nat) : bits6 (l ++ [v]) = bits6 l ++ six v := by simp [bits6]
theorem six_take (v e : Nat) (h1 : 1 ≤ e) (h6 : e ≤ 6) : (six v).take (6 - e) ++ [v / 2 ^ (e - 1) % 2] = (six v).take (6 - (e - 1)) := by
 rcases (by omega : e = 1 ∨ e = 2 ∨ e = 3 ∨ e = 4 ∨ e = 5 ∨ e = 6) with rfl | rfl | rfl | rfl | rfl | rfl <;> simp [six]
theorem nthN_drop (l : List Nat) (i k : Nat) : nthN (l.drop i) k = nthN l (i + k) := by simp [nthN, List.getD]
/-- The number of bits, the highest first. -/
def binTo (l : List Nat) : Nat → Nat
 | 0 => 0
 | j + 1 => 2 * binTo l j + nthN l j
theorem binTo_lt (l : List Nat) (h : ∀ x ∈ l, x < 2) (j : Nat) : binTo l j < 2 ^ j := by
 induction j with
 | zero => simp [binTo]
 | succ j ih =>
  have := nthN_lt l j 2 (by omega) h
  simp only [binTo, Nat.pow_succ]; omega
def bytes8 : Nat → List Nat → List UInt8
 | 0, _ => []
 | k + 1, l => UInt8.ofNat (binTo l 8) :: bytes8 k (l.drop 8)
theorem six_lt (v : Nat) : ∀ x ∈ six v, x < 2 := by
 intro x hx
 simp only [six, List.mem_cons, List.not_mem_nil, or_false] at hx
 rcases hx with rfl | rfl | rfl | rfl | rfl | rfl <;> exact Nat.mod_lt _ (by omega)
theorem bits6_lt (l : List Nat) : ∀ x ∈ bits6 l, x < 2 := by
 intro x hx
 simp only [bits6, List.mem_flatMap] at hx
 obtain ⟨v, _, h⟩ := hx
 exact six_lt v x h
theorem bytes8_four (a b c d : Nat) (r : List Nat) (k : Nat) (ha : a < 64) (hb : b < 64) (hc : c < 64) (hd : d < 64) :
 bytes8 (k + 3) (bits6 (a :: b :: c :: d :: r)) = three (num4 a b c d) ++ bytes8 k (bits6 r) := by
 show bytes8 (k + 3) (six a ++ (six b ++ (six c ++ (six d ++ bits6 r)))) = _
 generalize bits6 r = rr
 simp only [bytes8, six, List.cons_append, List.nil_append, List.drop_succ_cons, List.drop_zero, binTo, nthN, List.getD_cons_succ, List.getD_cons_zero, three, num4]
 have e1 : ∀ x y : Nat, x % 256 = y % 256 → UInt8.ofNat x = UInt8.ofNat y := fun x y h => by
  rw [← UInt8.toNat_inj, UInt8.toNat_ofNat', UInt8.toNat_ofNat']; exact h
 have n0 : (a * 262144 + b * 4096 + c * 64 + d) / 65536 = 4 * a + b / 16 := by omega
 have n1 : (a * 262144 + b * 4096 + c * 64 + d) / 256 % 256 = (b % 16) * 16 + c / 4 := by omega
 have n2 : (a * 262144 + b * 4096 + c * 64 + d) % 256 = (c % 4) * 64 + d := by omega
 have ka : a = 32 * (a / 32 % 2) + 16 * (a / 16 % 2) + 8 * (a / 8 % 2) + 4 * (a / 4 % 2) + 2 * (a / 2 % 2) + a % 2 := by omega
 have kd : d = 32 * (d / 32 % 2) + 16 * (d / 16 % 2) + 8 * (d / 8 % 2) + 4 * (d / 4 % 2) + 2 * (d / 2 % 2) + d % 2 := by omega
 have kb1 : b / 16 = 2 * (b / 32 % 2) + b / 16 % 2 := by omega
 have kb2 : b % 16 = 8 * (b / 8 % 2) + 4 * (b / 4 % 2) + 2 * (b / 2 % 2) + b % 2 := by omega
 have kc1 : c / 4 = 8 * (c / 32 % 2) + 4 * (c / 16 % 2) + 2 * (c / 8 % 2) + c / 4 % 2 := by omega
 have kc2 : c % 4 = 2 * (c / 2 % 2) + c % 2 := by omega
 rw [n0]
 generalize (a * 262144 + b * 4096 + c * 64 + d) / 256 = N1 at *
 generalize a * 262144 + b * 4096 + c * 64 + d = N2 at *
 generalize a / 32 % 2 = a5 at *; generalize a / 16 % 2 = a4 at *; generalize a / 8 % 2 = a3 at *; generalize a / 4 % 2 = a2 at *; generalize a / 2 % 2 = a1 at *; generalize a % 2 = a0 at *
 generalize d / 32 % 2 = d5 at *; generalize d / 16 % 2 = d4 at *; generalize d / 8 % 2 = d3 at *; generalize d / 4 % 2 = d2 at *; generalize d / 2 % 2 = d1 at *; generalize d % 2 = d0 at *
 generalize b / 32 % 2 = b5 at *; generalize b / 16 % 2 = b4 at *; generalize b / 8 % 2 = b3 at *; generalize b / 4 % 2 = b2 at *; generalize b / 2 % 2 = b1 at *; generalize b % 2 = b0 at *
 generalize c / 32 % 2 = c5 at *; generalize c / 16 % 2 = c4 at *; generalize c / 8 % 2 = c3 at *; generalize c / 4 % 2 = c2 at *; generalize c / 2 % 2 = c1 at *; generalize c % 2 = c0 at *
 generalize b / 16 = bq at *; generalize b % 16 = br at *; generalize c / 4 = cq at *; generalize c % 4 = cr at *
 have f0 : UInt8.ofNat (2 * (2 * (2 * (2 * (2 * (2 * (2 * (2 * 0 + a5) + a4) + a3) + a2) + a1) + a0) + b5) + b4) = UInt8.ofNat (4 * a + bq) := e1 _ _ (by omega)
 have f1 : UInt8.ofNat (2 * (2 * (2 * (2 * (2 * (2 * (2 * (2 * 0 + b3) + b2) + b1) + b0) + c5) + c4) + c3) + c2) = UInt8.ofNat N1 := e1 _ _ (by omega)
 have f2 : UInt8.ofNat (2 * (2 * (2 * (2 * (2 * (2 * (2 * (2 * 0 + c1) + c0) + d5) + d4) + d3) + d2) + d1) + d0) = UInt8.ofNat N2 := e1 _ _ (by omega)
 rw [f0, f1, f2]
theorem bytes8_bytes3 (k : Nat) : ∀ l : List Nat, l.length = 4 * k → (∀ x ∈ l, x < 64) → bytes8 (3 * k) (bits6 l) = bytes3 l := by
 induction k with
 | zero => intro l h _; have : l = [] := List.eq_nil_of_length_eq_zero (by omega); subst this; rfl
 | succ k ih =>
  intro l h hx
  match l, h, hx with
  | a :: b :: c :: d :: r, h, hx =>
   rw [show 3 * (k + 1) = 3 * k + 3 by omega, bytes8_four a b c d r (3 * k) (hx a (by simp)) (hx b (by simp)) (hx c (by simp)) (hx d (by simp)), ih r (by simp at h; omega) (fun x h => hx x (by simp [h]))]
   rfl
theorem bytes8_step (k : Nat) (l : List Nat) : bytes8 (k + 1) l = UInt8.ofNat (binTo l 8) :: bytes8 k (l.drop 8) := rfl
theorem take_len (l : List UInt8) (n : Nat) (h : l.length = n) : l.take n = l := by subst h; exact List.take_length
/-- cutPad, from the end on. -/
theorem cutPad_bad2 (out : List UInt8) (pad q e : Nat) (hq : q + pad = out.length) (h1 : 1 ≤ e) (he : e ≤ pad) (h : nth out (q + e - 1) ≠ 0) : cutPad out pad = ([], 1) :=
 cutPad_bad out pad q (e - 1) hq (by omega) (by rw [nth_drop, show q + (e - 1) = q + e - 1 by omega]; exact h)
theorem cutPad_ok2 (out : List UInt8) (pad q : Nat) (hq : q + pad = out.length) (h : ∀ k, q ≤ k → k < out.length → nth out k = 0) : cutPad out pad = if 4000 < q then ([], 2) else (out.take q, 0) :=
 cutPad_ok out pad q hq (fun k hk => by rw [nth_drop]; exact h _ (by omega) (by omega))
theorem nth_take (l : List UInt8) (m k : Nat) (h : k < m) : nth (l.take m) k = nth l k := by
 simp [nth, List.getD, h]
end Go.Proofs.YtinfjdfhkfhgjaaGreatDoor
namespace Go.Proofs.YtinfjdfhkfhgjaaGreatDoor
open Go.RowKit
theorem mid_intsF (w : World) (A : Option Addr) (n c : Nat) (ki kj : IntKind) (i j : Int) (h0 : 0 ≤ i) (h1 : i ≤ j) (h2 : j ≤ n) (hc : n ≤ c) :
 (Instr.slice 108 (.slice A n c) (some (.int ki i)) (some (.int kj j)) none).run Tryz.prog w = .ok (.slice (cutA A c i.toNat 1) (j.toNat - i.toNat) (c - i.toNat)) w :=
 run_mid w _ _ 1 Tryz.underlying108 (Tryz.sizeOf3 w) A n c ki kj i j h0 h1 h2 hc
attribute [local go_sem high] cut_bytes upto_bytes mid_intsF
def RRel1 (n : Nat) (s : List UInt8) (R : Option (List Nat × Nat)) (w : World) (bv ev lv iv : Value) (wr : World) : Prop :=
 ∃ i pad m mb c vals V, bv = .slice V mb c ∧ ev = .int .i64 (pad : Nat) ∧ lv = .int .i64 (m : Nat) ∧ iv = .int .i64 (i : Nat) ∧ i ≤ n ∧ pad ≤ m ∧ m ≤ i ∧ mb = 6 * m ∧ Hid (vals.length = m ∧ (∀ x ∈ vals, x < 64) ∧ scanB vals pad (s.drop i) = R) ∧
  wr.ownsRow w.heap.size 3 1 (.slice V mb c) mb (intCells (bits6 vals)) ∧ Below w.heap.size w wr
def RRelB (mb v : Nat) (bs : List Nat) (w : World) (bv kv : Value) (wr : World) : Prop :=
 ∃ (e mc c : Nat) (V : Option Addr), bv = .slice V mc c ∧ kv = .int .i64 ((e : Int) - 1) ∧ e ≤ 6 ∧ mc + e = mb + 6 ∧ wr.ownsRow w.heap.size 3 1 (.slice V mc c) mc (intCells (bs ++ (six v).take (6 - e))) ∧ Below w.heap.size w wr
def RRel3 (mb : Nat) (bs : List Nat) (w2 : World) (ov iv : Value) (wr : World) : Prop :=
 ∃ (p ol oc : Nat) (out : List UInt8) (O : Option Addr), ov = .slice O ol oc ∧ iv = .int .i64 (p : Nat) ∧ p ≤ mb ∧ p = 8 * ol ∧ ol ≤ oc ∧ Hid (out.length = ol ∧ out ++ bytes8 ((mb - p) / 8) (bs.drop p) = bytes8 (mb / 8) bs) ∧
  wr.ownsRow w2.heap.size 5 1 (.slice O ol oc) ol (Lib.byteCells out) ∧ Below w2.heap.size w2 wr
theorem IndexByteF_any (l : List UInt8) (x : Nat) (_hx : x < 256) (w : World) :
 Calls Tryz.prog 89 #[str l, .int .u8 (x : Int)] w fun e w' => e = .returned (.int .i64 (idxI l x)) ∧ w = w' := by
 refine (Go.Proofs.Tryz.strings_IndexByte ⟨l.toArray⟩ (x : Int) w).mono ?_
 rintro e w' ⟨rfl, rfl⟩
 refine ⟨?_, rfl⟩
 show Ending.returned (.int .i64 (Lib.indexByte l (((x : Int).toNat).toUInt8))) = _
 rfl
theorem SlS.uptoF {S : Nat → Prop} {w : World} {A : Option Addr} {n k : Nat} {l : List UInt8} (h : SlS S w 1 A n (Lib.byteCells l)) (hk : k ≤ n) : SlS S w 1 A k (Lib.byteCells (l.take k)) := by
 have hl : l.length = n := by have := h.1; simp [Lib.byteCells] at this; omega
 refine ⟨by simp [Lib.byteCells]; omega, fun hn => ?_⟩
 obtain ⟨b, off, e, hb, hc⟩ := h.2 (by omega)
 refine ⟨b, off, e, hb, fun j u hu => hc j u ?_⟩
 rw [show Lib.byteCells (l.take k) = (Lib.byteCells l).take k from by simp [Lib.byteCells, List.map_take], List.getElem?_take] at hu
 split at hu
 · exact hu
 · cases hu
theorem RBaseReadF_any (s : List UInt8) (w : World) (hs : s.length ≤ 9223372036854775807) :
 Calls Tryz.prog 42 #[str s] w (BytesResF w (readB s)) := by
 obtain ⟨i0, hi0, hz0, hz1, hz2⟩ := info_parts infoInt
 obtain ⟨j0, hj0, hjz0, hjz1, hjz2⟩ := info_parts infoByte
 by_cases h8 : 8000 < s.length
 · have hr : readB s = ([], 2) := by unfold readB; rw [if_pos h8]
   rw [hr]
   go_enter Tryz.func42, Tryz.ntmps42
   go_wp2_with fail
   go_ret2
   exact BytesResF.fail 2 (Below.refl _ _)
 · obtain ⟨R, hR⟩ : ∃ R, R = scanB [] 0 s := ⟨_, rfl⟩
   obtain ⟨r, hr⟩ : ∃ r, r = readB s := ⟨_, rfl⟩
   have hr2 : Hid (r = readFin R) := by
    show r = _
    rw [hr, hR]; unfold readB; rw [if_neg h8]
   rw [← hr]
   have HR := Lib.hid hR; clear hR hr
   have hlen : s.length ≤ 8000 := by omega
   clear h8 hs
   go_enter Tryz.func42, Tryz.ntmps42
   go_wp2_with fail
   go_loopw [4, 5, 6, 21] (RRel1 s.length s R w) (fun _ _ _ iv _ => s.length - (intOf iv).toNat)
   case atStart =>
    refine ⟨0, 0, 0, 0, 0, [], _, rfl, rfl, rfl, rfl, by omega, by omega, by omega, rfl, ⟨rfl, by simp, by rw [HR.out]; rfl⟩, ?_, (Below.refl _ _).alloc (Nat.le_refl _) _⟩
    exact ⟨rfl, .inr ⟨w.heap.size, 0, #[], rfl, Nat.le_refl _, heap_alloc_new w _, Nat.le_refl _, Nat.zero_le _, rfl, rfl⟩⟩
   case round =>
    obtain ⟨i, pad, m, mb, c4, vals, V, rfl, rfl, rfl, rfl, hi, hpm, hmi, hmb, hE, hown, hb2⟩ := hrel
    by_cases hin : i < s.length
    · have hx8 := nth_lt s i
      have HMB := Lib.hid hmb
      have hmb2 : mb ≤ 48000 := by omega
      clear hmb
      go_wp2_with fail
      refine (IndexByteF_any [32, 9, 13, 10] _ hx8 _).mono ?_
      rintro e w2 ⟨rfl, rfl⟩
      have hib := idx_blank (nth s i) hx8
      by_cases hbk : blankN (nth s i) = true
      · have h0 := hib.2 hbk
        have Hbk := Lib.hid hbk
        clear hib hbk
        go_wp2_with fail
        exact ⟨⟨i + 1, pad, m, mb, c4, vals, V, rfl, rfl, rfl, by go_num, by omega, by omega, by omega, HMB.out, ⟨hE.out.1, hE.out.2.1, by rw [← scan_blank hin Hbk.out]; exact hE.out.2.2⟩, hown, hb2⟩, by simp [intOf]; omega⟩
      · have h0 : ¬ 0 ≤ idxI [32, 9, 13, 10] (nth s i) := fun h => hbk (hib.1 h)
        have hbk2 : blankN (nth s i) = false := by simpa using hbk
        have Hbk := Lib.hid hbk2
        clear hib hbk hbk2
        by_cases he : nth s i = 61
        · have he1 : ((nth s i : Int) == 61) = true := by simp [he]
          have HE := Lib.hid he; clear he
          go_wp2_with fail
          go_loopw [4, 9] (RRelB mb 0 (bits6 vals) w) (fun _ kv _ => (intOf kv + 1).toNat)
          case atStart => exact ⟨6, mb, c4, V, rfl, rfl, by omega, rfl, by simpa using hown, hb2⟩
          case round =>
           obtain ⟨e, mc, c5, V5, rfl, rfl, he6, hmc, hown5, hb5⟩ := hrel
           by_cases he1 : 1 ≤ e
           · have h63 : mc + 1 ≤ maxLen := by unfold maxLen; omega
             have h47 : (mc + 1) * 8 ≤ 140737488355328 := by omega
             have htn : ((e : Int) - 1).toNat = e - 1 := by omega
             obtain ⟨q, hq⟩ : ∃ q, q = 0 / 2 ^ (e - 1) % 2 := ⟨_, rfl⟩
             have hand : bits .and .i64 0 1 = (q : Int) := by rw [hq]; simp; decide
             have Hq := Lib.hid hq; clear hq
             have HMC := Lib.hid hmc
             have hmc2 : mc ≤ mb + 6 := by omega
             clear hmc
             go_wp2_with (at_builtin; refine wpList_app rfl _ _ 108 rfl w.heap.size 3 i0 (.int .i64 0) 1 8 Tryz.underlying108 hi0 hz0 hz1 hz2 rfl (by decide) V5 mc c5 _ rfl (hown5.alloc _) _ _ 1 1 [.int .i64 (q : Int)] rfl (Sl.one _ _ _) ?_ h63 h47 ?_ ?_)
             · intro u hu; simp at hu; subst hu; rfl
             · have := hb5.size; simp; omega
             intro S' c' w3 hown3 hb3 _
             go_wp2_with fail
             refine ⟨⟨e - 1, mc + 1, c', S', rfl, by first | go_num | (congr 1; omega), by omega, by have := HMC.out; omega, ?_, (hb5.alloc hb5.size _).trans hb3⟩, by simp [intOf]; omega⟩
             rw [← six_take 0 e he1 he6, ← Hq.out, ← List.append_assoc, intCells_append]
             exact hown3
           · obtain rfl : e = 0 := by omega
             have hmc0 : mc = mb + 6 := by omega
             subst hmc0
             have hown6 : wr.ownsRow w.heap.size 3 1 (.slice V5 (mb + 6) c5) (mb + 6) (intCells (bits6 (vals ++ [0]))) := by
              rw [bits6_snoc]; simpa [six] using hown5
             go_wp2_with fail
             refine ⟨⟨i + 1, pad + 1, m + 1, mb + 6, c5, vals ++ [0], V5, rfl, by go_num, by go_num, by go_num, by omega, by omega, by omega, by have := HMB.out; omega,
              ⟨by simp [hE.out.1], ?_, by rw [← scan_eq hin Hbk.out HE.out]; exact hE.out.2.2⟩, hown6, hb5⟩, by simp [intOf]; omega⟩
             intro x hx
             simp at hx
             rcases hx with hx | hx
             · exact hE.out.2.1 x hx
             · omega
        · have he1 : ((nth s i : Int) == 61) = false := by simp; omega
          have HE := Lib.hid he; clear he
          go_wp2_with fail
          refine (IndexByteF_any letters _ hx8 _).mono ?_
          rintro e w2 ⟨rfl, rfl⟩
          have hbd := idxI_bd letters (nth s i)
          rw [letters_len] at hbd
          obtain ⟨hbd1, hbd2⟩ := hbd
          by_cases hk0 : idxI letters (nth s i) < 0
          · have hR0 : R = none := by rw [← hE.out.2.2]; exact scan_bad hin Hbk.out HE.out (.inl hk0)
            have hr0 : Hid (r = ([], 1)) := by show r = _; rw [hr2.out, hR0]; rfl
            clear hR0
            go_wp2_with fail
            go_ret2
            rw [hr0.out]
            exact BytesResF.fail 1 hb2
          · by_cases hp0 : 0 < pad
            · have hR0 : R = none := by rw [← hE.out.2.2]; exact scan_bad hin Hbk.out HE.out (.inr hp0)
              have hr0 : Hid (r = ([], 1)) := by show r = _; rw [hr2.out, hR0]; rfl
              clear hR0
              go_wp2_with fail
              go_ret2
              rw [hr0.out]
              exact BytesResF.fail 1 hb2
            · obtain ⟨v, hv⟩ : ∃ v : Nat, idxI letters (nth s i) = (v : Int) := ⟨(idxI letters (nth s i)).toNat, by omega⟩
              have hv64 : v < 64 := by omega
              rw [hv]
              have HV := Lib.hid hv
              clear hv hk0 hbd1 hbd2
              go_wp2_with fail
              go_loopw [4, 9] (RRelB mb v (bits6 vals) w) (fun _ kv _ => (intOf kv + 1).toNat)
              case atStart => exact ⟨6, mb, c4, V, rfl, rfl, by omega, rfl, by simpa using hown, hb2⟩
              case round =>
               obtain ⟨e, mc, c5, V5, rfl, rfl, he6, hmc, hown5, hb5⟩ := hrel
               by_cases he1 : 1 ≤ e
               · have h63 : mc + 1 ≤ maxLen := by unfold maxLen; omega
                 have h47 : (mc + 1) * 8 ≤ 140737488355328 := by omega
                 have htn : ((e : Int) - 1).toNat = e - 1 := by omega
                 obtain ⟨q, hq⟩ : ∃ q, q = v / 2 ^ (e - 1) % 2 := ⟨_, rfl⟩
                 have hand : bits .and .i64 ((v : Int) / 2 ^ (e - 1)) 1 = (q : Int) := by
                  have h := i64_and (v / 2 ^ (e - 1)) 1 (Nat.lt_of_le_of_lt (Nat.div_le_self _ _) (by omega)) (by omega)
                  rw [Nat.and_one_is_mod, ← hq] at h
                  simpa using h
                 have Hq := Lib.hid hq; clear hq
                 have HMC := Lib.hid hmc
                 have hmc2 : mc ≤ mb + 6 := by omega
                 clear hmc
                 go_wp2_with (at_builtin; refine wpList_app rfl _ _ 108 rfl w.heap.size 3 i0 (.int .i64 0) 1 8 Tryz.underlying108 hi0 hz0 hz1 hz2 rfl (by decide) V5 mc c5 _ rfl (hown5.alloc _) _ _ 1 1 [.int .i64 (q : Int)] rfl (Sl.one _ _ _) ?_ h63 h47 ?_ ?_)
                 · intro u hu; simp at hu; subst hu; rfl
                 · have := hb5.size; simp; omega
                 intro S' c' w3 hown3 hb3 _
                 go_wp2_with fail
                 refine ⟨⟨e - 1, mc + 1, c', S', rfl, by first | go_num | (congr 1; omega), by omega, by have := HMC.out; omega, ?_, (hb5.alloc hb5.size _).trans hb3⟩, by simp [intOf]; omega⟩
                 rw [← six_take v e he1 he6, ← Hq.out, ← List.append_assoc, intCells_append]
                 exact hown3
               · obtain rfl : e = 0 := by omega
                 have hmc0 : mc = mb + 6 := by omega
                 subst hmc0
                 have hown6 : wr.ownsRow w.heap.size 3 1 (.slice V5 (mb + 6) c5) (mb + 6) (intCells (bits6 (vals ++ [v]))) := by
                  rw [bits6_snoc]; simpa [six] using hown5
                 go_wp2_with fail
                 refine ⟨⟨i + 1, pad, m + 1, mb + 6, c5, vals ++ [v], V5, rfl, rfl, by go_num, by go_num, by omega, by omega, by omega, by have := HMB.out; omega,
                  ⟨by simp [hE.out.1], ?_, by rw [show v = (idxI letters (nth s i)).toNat from by rw [HV.out]; rfl, ← scan_val hin Hbk.out HE.out (by rw [HV.out]; omega) (by omega)]; exact hE.out.2.2⟩, hown6, hb5⟩, by simp [intOf]; omega⟩
                 intro x hx
                 simp at hx
                 rcases hx with hx | hx
                 · exact hE.out.2.1 x hx
                 · omega
    · have hRv : R = some (vals, pad) := by rw [← hE.out.2.2, List.drop_of_length_le (by omega)]; rfl
      have hr3 : r = if m % 4 != 0 || decide (2 < pad) then ([], 1) else cutPad (bytes3 vals) pad := by rw [hr2.out, hRv, ← hE.out.1]; rfl
      clear HR hRv hr2
      by_cases h4 : m % 4 = 0
      · have h4b : ((m : Int) % 4 != 0) = false := by simp; omega
        by_cases hp2 : 2 < pad
        · have hr4 : Hid (r = ([], 1)) := by show r = _; rw [hr3]; simp [hp2]
          clear hr3
          go_wp2_with fail
          go_ret2
          rw [hr4.out]
          exact BytesResF.fail 1 hb2
        · have hr4 : Hid (r = cutPad (bytes8 (3 * (m / 4)) (bits6 vals)) pad) := by
           show r = _
           rw [hr3, bytes8_bytes3 (m / 4) vals (by have := hE.out.1; omega) hE.out.2.1]
           simp [h4]; omega
          have hbl : Hid ((bits6 vals).length = mb) := by show _ = _; rw [bits6_len, hE.out.1, hmb]
          have H4 := Lib.hid h4
          have HMB := Lib.hid hmb
          have hmb2 : mb ≤ 48000 := by omega
          have hmb8 : mb % 24 = 0 := by omega
          clear hr3 h4 hmb hE
          go_wp2_with fail
          obtain ⟨w2, rfl⟩ : ∃ w2 : World, w2 = wr := ⟨_, rfl⟩
          have hSv := Sl.of_own hown
          go_loopw [10, 11] (RRel3 mb (bits6 vals) w2) (fun _ iv _ => mb - (intOf iv).toNat)
          case atStart => exact ⟨0, 0, 0, [], none, rfl, rfl, by omega, rfl, by omega, ⟨rfl, rfl⟩, World.ownsRow_nil _ _ _ _, Below.refl _ _⟩
          case round =>
           obtain ⟨p, ol, oc, out, O, rfl, rfl, hp, hol, hoc, hE, hown3, hb3⟩ := hrel
           by_cases hpm : p < mb
           · obtain ⟨g, off, rfl, hg, hcells⟩ := ints_opn hSv (by omega)
             have hx : ∀ k, k < mb → wr.cell? ⟨g, off + k, none⟩ = some (.int .i64 (nthN (bits6 vals) k : Nat)) := fun k hk => (hb3.cell (p := ⟨g, _, none⟩) hg).trans (hcells k hk)
             clear hcells
             have hmbc : mb ≤ c4 := by
              rcases hown.2 with ⟨hv, _⟩ | ⟨g', cap', cur', hv', _, _, hnc', _⟩
              · injection hv with hv1; cases hv1
              · injection hv' with _ _ hcc; omega
             have q1 : (p : Int) + 8 ≤ mb := by omega
             have q2 : (p : Int) ≤ p + 8 := by omega
             have hcut : cutA (some (⟨g, off, none⟩ : Addr)) c4 p 1 = some ⟨g, off + p, none⟩ := by
              unfold cutA; rw [if_neg (by omega), Option.map_some, Addr.add_lit, Nat.mul_one]
             have HOL := Lib.hid hol
             have hol2 : ol ≤ 6000 := by omega
             clear hol
             go_wp2_with fail
             go_loop [12, 78] (fun cv kv => ∃ k : Nat, k ≤ 8 ∧ kv = .int .i64 k ∧ cv = .int .i64 (binTo ((bits6 vals).drop p) k : Nat)) (fun _ kv => 8 - (intOf kv).toNat)
             case atStart => exact ⟨0, by omega, rfl, rfl⟩
             case round =>
              obtain ⟨k, hk8, rfl, rfl⟩ := hrel
              by_cases hk : k < 8
              · have hck : wr.cell? ⟨g, off + p + k, none⟩ = some (.int .i64 (nthN (bits6 vals) (p + k) : Nat)) := by
                 rw [Nat.add_assoc]; exact hx (p + k) (by omega)
                have hbv : binTo ((bits6 vals).drop p) k < 256 := by
                 have h1 := binTo_lt ((bits6 vals).drop p) (fun x hx => bits6_lt vals x (List.mem_of_mem_drop hx)) k
                 have h2 : 2 ^ k ≤ 2 ^ 8 := Nat.pow_le_pow_right (by omega) (by omega)
                 omega
                have hnv : nthN (bits6 vals) (p + k) < 2 := nthN_lt _ _ 2 (by omega) (bits6_lt vals)
                have hst : Hid (binTo ((bits6 vals).drop p) (k + 1) = 2 * binTo ((bits6 vals).drop p) k + nthN (bits6 vals) (p + k)) := by
                 show 2 * binTo ((bits6 vals).drop p) k + nthN ((bits6 vals).drop p) k = _
                 rw [nthN_drop]
                clear hx
                go_wp2_with fail
                exact ⟨⟨k + 1, by omega, by go_num, by rw [hst.out]; go_num⟩, by simp [intOf]; omega⟩
              · have hk88 : k = 8 := by omega
                have hbv : binTo ((bits6 vals).drop p) k < 256 := by
                 have h1 := binTo_lt ((bits6 vals).drop p) (fun x hx => bits6_lt vals x (List.mem_of_mem_drop hx)) k
                 rw [hk88] at h1 ⊢; exact h1
                have HK := Lib.hid hk88; clear hk88 hx
                have h63 : ol + 1 ≤ maxLen := by unfold maxLen; omega
                have h47 : (ol + 1) * 1 ≤ 140737488355328 := by omega
                generalize hV : binTo ((bits6 vals).drop p) k = V at hbv ⊢
                have HV := Lib.hid hV; clear hV
                go_wp2_with (at_builtin; refine wpList_app rfl _ _ 22 rfl w2.heap.size 5 j0 (.int .u8 0) 1 1 Tryz.underlying22 hj0 hjz0 hjz1 hjz2 rfl (by decide) O ol oc (Lib.byteCells out) rfl (hown3.alloc _) _ _ 1 1 [.int .u8 (V : Int)] rfl (Sl.one _ _ _) ?c5 h63 h47 ?c6 ?_)
                case c5 => first | rfl | (intro u hu; simp at hu; subst hu; rfl)
                case c6 => have := hb3.size; simp; omega
                intro S' c' w4 hown4 hb4 _
                have hc' : ol + 1 ≤ c' := by
                 rcases hown4.2 with ⟨_, h0⟩ | ⟨g', cap', cur', hv', _, _, hnc', _⟩
                 · omega
                 · injection hv' with _ _ hcc; omega
                go_wp2_with fail
                refine ⟨⟨p + 8, ol + 1, c', out ++ [UInt8.ofNat V], S', rfl, by go_num, by omega, by have := HOL.out; omega, hc', ?_, ?_, (hb3.alloc hb3.size _).trans hb4⟩, by simp [intOf]; omega⟩
                · refine ⟨by simp [hE.out.1], ?_⟩
                  have h2 := hE.out.2
                  have hol' := HOL.out
                  rw [show (mb - p) / 8 = (mb - (p + 8)) / 8 + 1 by omega, bytes8_step, List.drop_drop, ← HK.out, HV.out, HK.out] at h2
                  rw [← h2]; simp
                · rw [byteCells_append]
                  have e : ((UInt8.ofNat V).toNat : Int) = (V : Int) := by rw [UInt8.toNat_ofNat']; omega
                  show World.ownsRow _ _ _ _ _ _ (_ ++ [Value.int .u8 ((UInt8.ofNat V).toNat : Int)])
                  rw [e]; exact hown4
           · have hpe : p = mb := by omega
             have hE2 := hE.out.2
             rw [hpe, Nat.sub_self] at hE2
             have hout : out = bytes8 (mb / 8) (bits6 vals) := by rw [← hE2]; simp [bytes8]
             have hmm : mb / 8 = 3 * (m / 4) := by have := HMB.out; have := H4.out; omega
             have hr5 : Hid (r = cutPad out pad) := by show r = _; rw [hr4.out, hout, hmm]
             have hol3 : Hid (out.length = ol) := hE.out.1
             have hpol : pad ≤ ol := by have := HMB.out; omega
             have hbel2 := hb2.trans (hb3.mono hb2.size)
             have hByO := By.of_own hown3
             have hFrO : Hid (SlS (fun b => w.heap.size ≤ b ∧ b < wr.heap.size) wr 1 O ol (Lib.byteCells out) ∧ oc ≤ maxLen) := Lib.hid ⟨SlS.change (own_slsR hown3) (fun b hb => ⟨Nat.le_trans hb2.size hb.1, hb.2⟩) (fun _ _ => rfl), own_capR hown3⟩
             have hol8 : ol ≤ 6000 := by omega
             obtain ⟨q, hq⟩ : ∃ q, Hid (q + pad = ol) := ⟨ol - pad, by show _ = _; omega⟩
             clear hr4 hE2 hout hmm hE hpe hol hown hown3 hb2 hb3 hSv hbl H4 HMB hmb8
             go_wp2_with fail
             go_loop [5, 10] (fun ev ov => ∃ (e k : Nat) (A' : Option Addr), ev = .int .i64 (e : Nat) ∧ ov = .slice A' k oc ∧ By wr wr.heap.size A' k (out.take k) ∧ e ≤ pad ∧ k ≤ ol ∧ Hid (SlS (fun b => w.heap.size ≤ b ∧ b < wr.heap.size) wr 1 A' k (Lib.byteCells (out.take k))) ∧ Hid (q + e = k ∧ ∀ j, k ≤ j → j < ol → nth out j = 0)) (fun ev _ => (intOf ev).toNat)
             case atStart => exact ⟨pad, ol, O, rfl, rfl, by rw [take_len _ _ hol3.out]; exact hByO, Nat.le_refl _, Nat.le_refl _, by show SlS _ _ _ _ _ _; rw [take_len _ _ hol3.out]; exact hFrO.out.1, ⟨hq.out, fun j h1 h2 => absurd h1 (by omega)⟩⟩
             case round =>
              obtain ⟨e, k, A', rfl, rfl, hbA, hep, hkl, hFrA, hz⟩ := hrel
              have hqe := hz.out.1
              by_cases he1 : 0 < e
              · have hk1 : 1 ≤ k := by omega
                have HQE := Lib.hid hqe; clear hqe
                obtain ⟨b, off, rfl, _, hc⟩ := hbA.at_ (k := k - 1) (by omega)
                rw [nth_take _ _ _ (by omega)] at hc
                have i1 : ((k : Int) - 1).toNat = k - 1 := by omega
                have i2 : 0 ≤ (k : Int) - 1 := by omega
                have i3 : (k : Int) - 1 ≤ k := by omega
                have i4 : k ≤ oc := by omega
                by_cases hx0 : nth out (k - 1) = 0
                · have hxb : ((nth out (k - 1) : Int) != 0) = false := by simp [hx0]
                  have HX := Lib.hid hx0; clear hx0
                  go_wp2_with fail
                  refine ⟨⟨e - 1, k - 1, _, by first | go_num | (congr 1; omega), rfl, ?_, by omega, by omega, ?_, by have := HQE.out; omega, fun j h1 h2 => ?_⟩, by simp [intOf]; omega⟩
                  · have h := hbA.upto (k := k - 1) (by omega)
                    rw [List.take_take, Nat.min_eq_left (by omega)] at h
                    exact h
                  · have h := hFrA.out.uptoF (k := k - 1) (by omega)
                    rw [List.take_take, Nat.min_eq_left (by omega)] at h
                    exact h
                  · rcases Nat.lt_or_ge j k with h | h
                    · rw [show j = k - 1 by omega]; exact HX.out
                    · exact hz.out.2 j h h2
                · have hxb : ((nth out (k - 1) : Int) != 0) = true := by simp; omega
                  have hr6 : Hid (r = ([], 1)) := by
                   show r = _
                   rw [hr5.out]
                   exact cutPad_bad2 _ pad q e (by rw [hol3.out]; exact hq.out) (by omega) hep (by rw [HQE.out]; exact hx0)
                  clear hx0
                  go_wp2_with fail
                  go_ret2
                  rw [hr6.out]
                  exact BytesResF.fail 1 hbel2
              · obtain rfl : e = 0 := by omega
                have hkq : k = q := by omega
                subst hkq
                have hr6 := cutPad_ok2 out pad k (by rw [hol3.out]; exact hq.out) (fun j h1 h2 => hz.out.2 j h1 (by rw [hol3.out] at h2; exact h2))
                rw [← hr5.out] at hr6
                clear hqe
                have hlk : (out.take k).length = k := hbA.len
                have HLK := Lib.hid hlk; clear hlk
                by_cases hq4 : 4000 < k
                · have hr7 : Hid (r = ([], 2)) := by show r = _; rw [hr6, if_pos hq4]
                  clear hr6
                  go_wp2_with fail
                  go_ret2
                  rw [hr7.out]
                  exact BytesResF.fail 2 hbel2
                · have hr7 : Hid (r = (out.take k, 0)) := by show r = _; rw [hr6, if_neg hq4]
                  clear hr6
                  go_wp2_with fail
                  go_ret2
                  rw [hr7.out]
                  refine ⟨A', oc, ?_, ?_, ?_, hFrO.out.2, hbel2⟩
                  · show _ = Ending.returned (.tuple #[.slice _ (out.take k).length _, .int .i64 ((0 : Nat) : Int)])
                    rw [HLK.out]; rfl
                  · show SlS _ _ _ _ (out.take k).length (Lib.byteCells (out.take k))
                    rw [HLK.out]; exact hFrA.out
                  · show (out.take k).length ≤ oc
                    rw [HLK.out]; omega
      · have h4b : ((m : Int) % 4 != 0) = true := by simp; omega
        have hr4 : Hid (r = ([], 1)) := by show r = _; rw [hr3]; simp [h4]
        clear hr3
        go_wp2_with fail
        go_ret2
        rw [hr4.out]
        exact BytesResF.fail 1 hb2
end Go.Proofs.YtinfjdfhkfhgjaaGreatDoor
namespace Go.Proofs.YtinfjdfhkfhgjaaGreatDoor
theorem trim_allQ (l cs : List UInt8) : (Lib.trimS l cs == []) = l.all (fun b => cs.contains b) := by
 have h1 : ∀ l : List UInt8, (l.dropWhile (cs.contains ·) == []) = l.all (fun b => cs.contains b) := by
  intro l
  induction l with
  | nil => rfl
  | cons a l ih =>
   rw [List.dropWhile_cons, List.all_cons]
   cases h : cs.contains a
   · rfl
   · rw [if_pos rfl, Bool.true_and]; exact ih
 have h2 : (Lib.trimRightS l cs).all (fun b => cs.contains b) = l.all (fun b => cs.contains b) := by
  unfold Lib.trimRightS
  rw [List.all_reverse]
  have h3 : ∀ l : List UInt8, (l.dropWhile (cs.contains ·)).all (fun b => cs.contains b) = l.all (fun b => cs.contains b) := by
   intro l
   induction l with
   | nil => rfl
   | cons a l ih =>
    rw [List.dropWhile_cons, List.all_cons]
    cases h : cs.contains a
    · rw [if_neg (by simp), List.all_cons, h]
    · rw [if_pos rfl, Bool.true_and]; exact ih
  rw [h3, List.all_reverse]
 unfold Lib.trimS Lib.trimLeftS
 rw [h1, h2]
theorem afterC_get (c : UInt8) : ∀ (L : List (List UInt8)) (i : Nat) (h : i < L.length), (afterC c L)[i]? = some (if i + 1 < L.length then L[i] ++ [c] else L[i])
 | [x], 0, _ => rfl
 | [x], i + 1, h => by simp at h
 | x :: y :: r, 0, _ => by rw [afterC]; simp
 | x :: y :: r, i + 1, h => by
  have ih := afterC_get c (y :: r) i (by simpa using h)
  rw [afterC, List.getElem?_cons_succ, ih]
  simp
theorem joinC_mem (c : UInt8) : ∀ (L : List (List UInt8)) (x : List UInt8), x ∈ L → x.length ≤ (joinC c L).length
 | [y], x, h => by simp at h; subst h; exact Nat.le_refl _
 | y :: z :: r, x, h => by
  rw [joinC_cons]
  simp only [List.length_append, List.length_cons]
  rcases List.mem_cons.1 h with rfl | h
  · omega
  · have := joinC_mem c (z :: r) x h; omega
theorem splitC_le (s x : List UInt8) (h : x ∈ splitC 10 s) : x.length ≤ s.length := by
 have := joinC_mem 10 _ x h
 rwa [join_split] at this
theorem suffix_one (x : List UInt8) (c : UInt8) : Lib.hasSuffix (x ++ [c]) [c] = true := by
 unfold Lib.hasSuffix
 rw [List.isSuffixOf_iff_suffix]
 exact List.suffix_append _ _
theorem suffix_not (x : List UInt8) (c : UInt8) (h : c ∉ x) : Lib.hasSuffix x [c] = false := by
 cases hs : Lib.hasSuffix x [c] with
 | false => rfl
 | true =>
  unfold Lib.hasSuffix at hs
  rw [List.isSuffixOf_iff_suffix] at hs
  exact absurd (hs.subset (by simp)) h
theorem last_split (y : List UInt8) (h : y ≠ []) : ∃ z d, y = z ++ [d] ∧ y.take (y.length - 1) = z ∧ y.drop (y.length - 1) = [d] := by
 refine ⟨y.dropLast, y.getLast h, (List.dropLast_concat_getLast h).symm, ?_, ?_⟩
 · rw [List.dropLast_eq_take]
 · have e := (List.dropLast_concat_getLast h).symm
   have : y.dropLast.length = y.length - 1 := by simp
   conv => lhs; rw [e]
   simp
theorem trimQ_blank (z : List UInt8) (d : UInt8) (h : ([32, 9, 13] : List UInt8).contains d = true) : trimQ (z ++ [d]) = trimQ z := by
 unfold trimQ Lib.trimRightS
 rw [List.reverse_append]
 show (List.dropWhile _ (d :: z.reverse)).reverse = _
 have h' : ([32, 9, 13] : List UInt8).contains d = ([32, 9, 13] : List UInt8).contains d := rfl
 rw [List.dropWhile_cons]
 by_cases e : d = 32 ∨ d = 9 ∨ d = 13
 · rcases e with rfl | rfl | rfl <;> rfl
 · simp at h; exact absurd h e
theorem trimQ_stop (z : List UInt8) (d : UInt8) (h : ([32, 9, 13] : List UInt8).contains d = false) : trimQ (z ++ [d]) = z ++ [d] := by
 have e : ¬ (d = 32 ∨ d = 9 ∨ d = 13) := by simpa using h
 unfold trimQ Lib.trimRightS
 rw [List.reverse_append]
 show (List.dropWhile _ (d :: z.reverse)).reverse = _
 rw [List.dropWhile_cons, if_neg (by simpa using e)]
 simp
theorem decQ_plain0 (b : List UInt8) (h : 0 < b.length) (h61 : nth b 0 ≠ 61) : decQ b = (decQ (b.drop 1)).map (UInt8.ofNat (nth b 0) :: ·) := decQ_plain b 0 h h61
theorem decQ_short0 (b : List UInt8) (h : 0 < b.length) (h61 : nth b 0 = 61) (h2 : b.length < 3) : decQ b = none := decQ_short b 0 h h61 (by omega)
theorem decQ_bad0 (b : List UInt8) (h61 : nth b 0 = 61) (h2 : 3 ≤ b.length) (h : hexQ (nth b 1) < 0 ∨ hexQ (nth b 2) < 0) : decQ b = none := decQ_bad b 0 h61 (by omega) h
theorem decQ_ok0 (b : List UInt8) (h61 : nth b 0 = 61) (h2 : 3 ≤ b.length) (h : 0 ≤ hexQ (nth b 1)) (h' : 0 ≤ hexQ (nth b 2)) :
 decQ b = (decQ (b.drop 3)).map (UInt8.ofNat (valQ (nth b 1) * 16 + valQ (nth b 2)) :: ·) := decQ_ok b 0 h61 (by omega) h h'
theorem two_at (b : List UInt8) (h : 3 ≤ b.length) : ((b.take 3).drop 1).length = 2 ∧ nth ((b.take 3).drop 1) 0 = nth b 1 ∧ nth ((b.take 3).drop 1) 1 = nth b 2 := by
 match b, h with
 | _ :: _ :: _ :: _, _ => exact ⟨rfl, rfl, rfl⟩
theorem two_hex (b : List UInt8) (h : 3 ≤ b.length) : (Lib.trimS ((b.take 3).drop 1) hexSet == []) = (decide (0 ≤ hexQ (nth b 1)) && decide (0 ≤ hexQ (nth b 2))) := by
 rw [trim_allQ]
 match b, h with
 | _ :: x :: y :: _, _ =>
  show ([x, y] : List UInt8).all (fun b => hexSet.contains b) = (decide (0 ≤ hexQ x.toNat) && decide (0 ≤ hexQ y.toNat))
  simp only [List.all_cons, List.all_nil, Bool.and_true, hex_set1]
end Go.Proofs.YtinfjdfhkfhgjaaGreatDoor
namespace Go.Proofs.YtinfjdfhkfhgjaaGreatDoor
open Go.RowKit
theorem u64_of (c : Nat) (hc : c < 256) : IntKind.u64.wrap (c : Int) = (c : Int) := by
 have h := (by decide +kernel : ∀ x : Fin 256, IntKind.u64.wrap ((x.val : Nat) : Int) = ((x.val : Nat) : Int)) ⟨c, hc⟩
 exact h
theorem iFormatInt_16 (c : Nat) (hc : c < 256) (w : World) (h : DeOk w) : Calls Tryz.prog 115 #[.int .i64 (c : Nat), .int .i64 16] w fun e w' => e = .returned (str (fmtQ c)) ∧ Below w.heap.size w w' := by
 have hu := u64_of c hc
 have d1 : decide ((c : Int) < 0) = false := decide_eq_false (by omega)
 have K := Lib.hid (fun X (h : DeOk X) => formatBits_16 c hc X h)
 have HD := Lib.hid h
 clear h
 go_enter Tryz.func115, Tryz.ntmps115
 go_wp2_with fail
 refine (K.out _ HD.out).mono ?_
 rintro e w1 ⟨rfl, hb1⟩
 go_wp2_with fail
 go_ret
 exact ⟨rfl, hb1⟩
theorem FormatInt_16 (c : Nat) (hc : c < 256) (w : World) (h : DeOk w) : Calls Tryz.prog 76 #[.int .i64 (c : Nat), .int .i64 16] w fun e w' => e = .returned (str (fmtQ c)) ∧ Below w.heap.size w w' := by
 have K := Lib.hid (fun X (h : DeOk X) => iFormatInt_16 c hc X h)
 have HD := Lib.hid h
 clear h
 go_enter Tryz.func76, Tryz.ntmps76
 go_wp2_with fail
 refine (K.out _ HD.out).mono ?_
 rintro e w1 ⟨rfl, hb1⟩
 go_wp2_with fail
 go_ret
 exact ⟨rfl, hb1⟩
theorem or32Q : ∀ x : Fin 256, bits .or .u8 ((x.val : Nat) : Int) 32 = (((x.val ||| 32) : Nat) : Int) := by decide +kernel
theorem lower_u8 (x : Nat) (hx : x < 256) (w : World) : Calls Tryz.prog 161 #[.int .u8 (x : Int)] w fun e w' => e = .returned (.int .u8 (((x ||| 32) : Nat) : Int)) ∧ w = w' := by
 have h := or32Q ⟨x, hx⟩
 simp only at h
 generalize x ||| 32 = y at *
 go_enter Tryz.func161, Tryz.ntmps161
 go_wp2_with fail
 go_ret
 exact ⟨rfl, rfl⟩
theorem val_big : ∀ x : Fin 256, decide (0 ≤ hexQ x.val) = true → (decide (48 ≤ x.val) && decide (x.val ≤ 57)) = false → 57 < x.val := by decide +kernel
/-- The state of the loop. -/
def PuRel (l : List UInt8) (W : World) (iv nv uv : Value) (wr : World) : Prop :=
 uv = .bool false ∧ ∃ i n : Nat, iv = .int .i64 (i : Nat) ∧ i ≤ 2 ∧ nv = .int .u64 (n : Nat) ∧ wr = W ∧ Hid ((i = 0 → n = 0) ∧ (i = 1 → n = valQ (nth l 0)) ∧ (i = 2 → n = valQ (nth l 0) * 16 + valQ (nth l 1)))
theorem iParseUint_hex (l : List UInt8) (w : World) (hl : l.length = 2) (h0 : 0 ≤ hexQ (nth l 0)) (h1 : 0 ≤ hexQ (nth l 1)) :
 Calls Tryz.prog 129 #[str l, .int .i64 16, .int .i64 8] w fun e w' => e = .returned (.tuple #[.int .u64 ((valQ (nth l 0) * 16 + valQ (nth l 1) : Nat) : Int), .nilIface]) ∧ Below w.heap.size w w' := by
 have e0 : (l == []) = false := by cases l with | nil => simp at hl | cons a r => rfl
 have s8 : IntKind.u64.wrap (IntKind.u64.wrap (1 * 2 ^ 8) - 1) = 255 := by decide +kernel
 obtain ⟨A, c, w1, hconv, hby, hnc, hb1, hlt1⟩ := run_toBytes (P := Tryz.prog) w 9 22 5 l Tryz.underlying9 Tryz.underlying22 Tryz.underlying5
 have Hb1 := Lib.hid hb1
 have H0 := Lib.hid h0
 have H1 := Lib.hid h1
 rw [hl] at hconv hby
 clear hb1 h0 h1 hl
 go_enter Tryz.func129, Tryz.ntmps129
 go_wp2_with fail
 obtain ⟨cu, hcu⟩ : ∃ cu : Int, cu = 1152921504606846976 := ⟨_, rfl⟩
 rw [← hcu]
 have HCU := Lib.hid hcu
 clear hcu
 go_loopw [101, 13, 12] (fun iv nv uv wr => PuRel l w1 iv nv uv wr) (fun iv _ _ _ => 2 - (intOf iv).toNat)
 case atStart => exact ⟨rfl, 0, 0, rfl, by omega, rfl, rfl, fun _ => rfl, fun h => absurd h (by omega), fun h => absurd h (by omega)⟩
 case round =>
  obtain ⟨rfl, i, n, rfl, hi, rfl, rfl, hn⟩ := hrel
  by_cases hi2 : i < 2
  · have hn15 : n < 16 := by
     have h3 : i = 0 ∨ i = 1 := by omega
     rcases h3 with rfl | rfl
     · have := hn.out.1 rfl; omega
     · have := hn.out.2.1 rfl
       have h4 := val_lt ⟨nth l 0, nth_lt l 0⟩
       simp only at h4
       omega
    have hx0 : 0 ≤ hexQ (nth l i) := by
     have h3 : i = 0 ∨ i = 1 := by omega
     rcases h3 with rfl | rfl
     · exact H0.out
     · exact H1.out
    have hnx : Hid ((i + 1 = 0 → n * 16 + valQ (nth l i) = 0) ∧ (i + 1 = 1 → n * 16 + valQ (nth l i) = valQ (nth l 0)) ∧ (i + 1 = 2 → n * 16 + valQ (nth l i) = valQ (nth l 0) * 16 + valQ (nth l 1))) := by
     refine ⟨fun h => absurd h (by omega), fun h => ?_, fun h => ?_⟩
     · obtain rfl : i = 0 := by omega
       rw [hn.out.1 rfl]; omega
     · obtain rfl : i = 1 := by omega
       rw [hn.out.2.1 rfl]
    obtain ⟨b, off, rfl, _, hc⟩ := hby.at_ hi2
    have hx := nth_lt l i
    have hd16 := val_lt ⟨nth l i, hx⟩
    have hdig := val_dig ⟨nth l i, hx⟩ (decide_eq_true hx0)
    have hlet := val_let ⟨nth l i, hx⟩ (decide_eq_true hx0)
    have hbig := val_big ⟨nth l i, hx⟩ (decide_eq_true hx0)
    simp only at hd16 hdig hlet hbig
    have KL := Lib.hid (fun X => lower_u8 (nth l i) hx X)
    clear hx0 hn
    generalize valQ (nth l i) = d at *
    generalize nth l i = x at *
    have cc1 : decide (cu ≤ (n : Int)) = false := decide_eq_false (by have := HCU.out; omega)
    have cc2 : (n : Int) < cu := by have := HCU.out; omega
    have m1 : IntKind.u64.wrap ((n : Int) * 16) = ((n * 16 : Nat) : Int) := by
     have := u64_of (n * 16) (by omega)
     rw [← this]; congr 1
    have m2 : IntKind.u64.wrap (((n * 16 : Nat) : Int) + (d : Int)) = ((n * 16 + d : Nat) : Int) := by
     have := u64_of (n * 16 + d) (by omega)
     rw [← this]; congr 1
    have m3 : decide (((n * 16 + d : Nat) : Int) < ((n * 16 : Nat) : Int)) = false := decide_eq_false (by omega)
    have m4 : decide ((255 : Int) < ((n * 16 + d : Nat) : Int)) = false := decide_eq_false (by omega)
    have m3' : ((n * 16 : Nat) : Int) ≤ ((n * 16 + d : Nat) : Int) := by omega
    have m4' : ((n * 16 + d : Nat) : Int) ≤ 255 := by omega
    have m5 : IntKind.u64.wrap (d : Int) = (d : Int) := u64_of d (by omega)
    have m6 : decide ((16 : Int) ≤ (d : Int)) = false := decide_eq_false (by omega)
    have m7 : (d : Int) < 16 := by omega
    generalize n * 16 + d = n2 at *
    generalize n * 16 = n1 at *
    cases hq : (decide (48 ≤ x) && decide (x ≤ 57)) with
    | true =>
     have hv := hdig hq
     simp only [Bool.and_eq_true, decide_eq_true_eq] at hq
     have e95 : ((x : Int) == 95) = false := by rw [beq_eq_false_iff_ne]; omega
     have q1 : decide ((48 : Int) ≤ (x : Int)) = true := decide_eq_true (by omega)
     have q2 : decide ((x : Int) ≤ 57) = true := decide_eq_true (by omega)
     have q3 : IntKind.u8.wrap ((x : Int) - 48) = (d : Int) := by
      have := wrap_u8N d (by omega)
      rw [← this]; congr 1; omega
     clear hdig hlet hv hq hbig
     go_wp2_with fail
     exact ⟨⟨rfl, i + 1, n2, by go_num, by omega, rfl, rfl, hnx⟩, by simp [intOf]; omega⟩
    | false =>
     obtain ⟨l1, l2, hv⟩ := hlet hq
     clear hdig hlet
     have hx57 := hbig hq
     have q2 : decide ((x : Int) ≤ 57) = false := decide_eq_false (by omega)
     have q1 : decide ((48 : Int) ≤ (x : Int)) = true := decide_eq_true (by omega)
     have e95 : ((x : Int) == 95) = false := by
      rw [beq_eq_false_iff_ne]
      intro e
      have e2 : x = 95 := by omega
      rw [e2] at l2
      revert l2
      decide
     generalize x ||| 32 = y at *
     have q4 : decide ((97 : Int) ≤ (y : Int)) = true := decide_eq_true (by omega)
     have q5 : decide ((y : Int) ≤ 122) = true := decide_eq_true (by omega)
     have q6 : IntKind.u8.wrap ((y : Int) - 97) = ((y - 97 : Nat) : Int) := by
      have := wrap_u8N (y - 97) (by omega)
      rw [← this]; congr 1; omega
     have q7 : IntKind.u8.wrap (((y - 97 : Nat) : Int) + 10) = (d : Int) := by
      have := wrap_u8N d (by omega)
      rw [← this]; congr 1; omega
     generalize y - 97 = z at *
     clear hv hq hbig
     go_wp2_with fail
     refine (KL.out _).mono ?_
     rintro e wL ⟨rfl, rfl⟩
     go_wp2_with fail
     refine (KL.out _).mono ?_
     rintro e wL ⟨rfl, rfl⟩
     go_wp2_with fail
     refine (KL.out _).mono ?_
     rintro e wL ⟨rfl, rfl⟩
     go_wp2_with fail
     exact ⟨⟨rfl, i + 1, n2, by go_num, by omega, rfl, rfl, hnx⟩, by simp [intOf]; omega⟩
  · obtain rfl : i = 2 := by omega
    have hnn := hn.out.2.2 rfl
    have HN := Lib.hid hnn
    clear hnn hn
    go_wp2_with fail
    refine bodyPost_ret (v := .tuple #[.int .u64 (n : Nat), .nilIface]) (by simp [results, Tryz.results129, go_sem]) rfl ⟨by rw [HN.out], Hb1.out⟩
theorem ParseUint_hex (l : List UInt8) (w : World) (hl : l.length = 2) (h0 : 0 ≤ hexQ (nth l 0)) (h1 : 0 ≤ hexQ (nth l 1)) :
 Calls Tryz.prog 90 #[str l, .int .i64 16, .int .i64 8] w fun e w' => e = .returned (.tuple #[.int .u64 ((valQ (nth l 0) * 16 + valQ (nth l 1) : Nat) : Int), .nilIface]) ∧ Below w.heap.size w w' := by
 have K := Lib.hid (fun X => iParseUint_hex l X hl h0 h1)
 generalize valQ (nth l 0) * 16 + valQ (nth l 1) = n at *
 clear hl h0 h1
 go_enter Tryz.func90, Tryz.ntmps90
 go_wp2_with fail
 refine (K.out _).mono ?_
 rintro e w1 ⟨rfl, hb1⟩
 go_wp2_with fail
 refine bodyPost_ret (v := .tuple #[.int .u64 (n : Nat), .nilIface]) (by simp [results, Tryz.results90, go_sem]) rfl ⟨rfl, hb1⟩
theorem ToUpper_any (l : List UInt8) (w : World) (hl : l.length ≤ 1000000) (ha : l.all (fun b => decide (b.toNat < 128)) = true) : Calls Tryz.prog 75 #[str l] w fun e w' => e = .returned (str (Lib.toUpperA l)) ∧ Below w.heap.size w w' := by
 refine (Go.Proofs.Tryz.strings_ToUpper_ascii ⟨l.toArray⟩ w (by simp [ByteArray.size]; omega) (fun j x hx => ?_)).mono ?_
 · have := List.all_eq_true.1 ha x (List.mem_of_getElem? hx)
   simpa using this
 · rintro e w' ⟨rfl, hb⟩
   exact ⟨rfl, hb⟩
theorem SplitAfter_one (l : List UInt8) (w : World) (hM : MaxLenOk w) (hl : l.length ≤ 1000000) :
 Calls Tryz.prog 44 #[str l, .string ⟨#[10]⟩] w fun e w' => e = .returned (.slice (some ⟨w.heap.size, 0, none⟩) (splitC 10 l).length (splitC 10 l).length) ∧ w' = w.alloc (.cells ((afterC 10 (splitC 10 l)).map str).toArray 9) := by
 obtain ⟨m, hm⟩ := hM
 obtain ⟨hs1, hs2⟩ := splitB_after 10 l
 have hsz : (⟨l.toArray⟩ : ByteArray).size = l.length := by simp [ByteArray.size]
 have hle := splitC_len 10 l
 have k := fun X hX => Go.Proofs.Tryz.strings_genSplit ⟨l.toArray⟩ ⟨#[10]⟩ 1 (-1) (splitC 10 l).length m X (by rw [hsz]; omega) hX (by decide) (by decide) (by decide) (by decide) (by rw [if_pos (by decide), ← hs2, hsz]; have := hs2; omega)
 have hN : (splitC 10 l).length - 1 = Lib.countB ⟨l.toArray⟩ ⟨#[10]⟩ := by omega
 have hlen : (Lib.splitB ⟨#[10]⟩ 1 (Lib.countB ⟨l.toArray⟩ ⟨#[10]⟩) ⟨l.toArray⟩).length = (splitC 10 l).length := by
  have := congrArg List.length hs1
  rw [List.length_map, List.length_map, afterC_len] at this
  exact this
 have hcells : Lib.cellsOf (Lib.splitB ⟨#[10]⟩ 1 (Lib.countB ⟨l.toArray⟩ ⟨#[10]⟩) ⟨l.toArray⟩) (splitC 10 l).length = ((afterC 10 (splitC 10 l)).map str).toArray := by
  rw [← hs1, ← hlen]
  exact Lib.cellsOf_full _
 rw [hN, hlen, hcells] at k
 generalize ((afterC 10 (splitC 10 l)).map str).toArray = C at *
 generalize (splitC 10 l).length = n at *
 have K := Lib.hid k
 have HM := Lib.hid hm
 clear k hm hs1 hs2 hN hlen hcells hle
 go_enter Tryz.func44, Tryz.ntmps44
 go_wp2_with fail
 refine (K.out _ HM.out).mono ?_
 rintro e w1 ⟨rfl, rfl⟩
 go_wp2_with fail
 go_ret
 exact ⟨rfl, rfl⟩
theorem Contains_blank (l : List UInt8) (w : World) (hl : l.length = 1) : Calls Tryz.prog 32 #[.string ⟨#[32, 9, 13]⟩, str l] w fun e w' => e = .returned (.bool (([32, 9, 13] : List UInt8).contains (l.getD 0 0))) ∧ w = w' := by
 obtain ⟨c, rfl⟩ : ∃ c, l = [c] := by
  match l, hl with
  | [c], _ => exact ⟨c, rfl⟩
 refine (Go.Proofs.Tryz.strings_Contains_one ⟨#[32, 9, 13]⟩ c w).mono ?_
 rintro e w' ⟨rfl, rfl⟩
 refine ⟨?_, rfl⟩
 show Ending.returned (.bool (decide (0 ≤ Lib.indexByte [32, 9, 13] c))) = Ending.returned (.bool (([32, 9, 13] : List UInt8).contains c))
 have hn := indexByte_neg [32, 9, 13] c
 have e : decide (0 ≤ Lib.indexByte [32, 9, 13] c) = ([32, 9, 13] : List UInt8).contains c := by
  rw [Bool.eq_iff_iff, decide_eq_true_eq, List.contains_iff_mem]
  by_cases hm : c ∈ ([32, 9, 13] : List UInt8)
  · have : ¬ Lib.indexByte [32, 9, 13] c < 0 := fun h => hn.1 h hm
    constructor
    · intro _; exact hm
    · intro _; omega
  · have := hn.2 hm
    constructor
    · intro h; omega
    · intro h; exact absurd h hm
 rw [e]
theorem Trim_hex (l : List UInt8) (w : World) (hl : l.length ≤ maxLen) : Calls Tryz.prog 79 #[str l, .string ⟨hexSet.toArray⟩] w fun e w' => e = .returned (str (Lib.trimS l hexSet)) ∧ Below w.heap.size w w' :=
 Any.strings_Trim_laid Go.Proofs.Tryz.lays160 (by kernel_rfl) ⟨l.toArray⟩ ⟨hexSet.toArray⟩ w (by unfold maxLen at hl; simpa [ByteArray.size] using hl) (by decide) (ascii_of_all (by decide))
end Go.Proofs.YtinfjdfhkfhgjaaGreatDoor

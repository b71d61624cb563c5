import Derived.Lib.Bytes2
import Derived.Test.YtpnolbfnmknhlaaDoorU5
import Derived.Test.YtpnolbfnmknhlaaDoorU4
import Derived.BigQuiet
import Derived.Deep.RegionHeld
set_option maxRecDepth 100000
set_option maxHeartbeats 40000000
namespace Go.Proofs.YtpnolbfnmknhlaaDoor
open Go.RowKit
theorem cutF_bytes (w : World) (A : Option Addr) (n c : Nat) (ki : IntKind) (k : Int) (h0 : 0 ≤ k) (h1 : k ≤ n) :
 (Instr.slice 23 (.slice A n c) (some (.int ki k)) none none).run Tryd.prog w = .ok (.slice (cutA A c k.toNat 1) (n - k.toNat) (c - k.toNat)) w :=
 run_cut w _ _ 1 Tryd.underlying23 (Tryd.sizeOf5 w) A n c ki k h0 h1
theorem midF_bytes (w : World) (A : Option Addr) (n c : Nat) (ki kj : IntKind) (i j : Int) (h0 : 0 ≤ i) (h1 : i ≤ j) (h2 : j ≤ n) (hc : n ≤ c) :
 (Instr.slice 23 (.slice A n c) (some (.int ki i)) (some (.int kj j)) none).run Tryd.prog w = .ok (.slice (cutA A c i.toNat 1) (j.toNat - i.toNat) (c - i.toNat)) w :=
 run_mid w _ _ 1 Tryd.underlying23 (Tryd.sizeOf5 w) A n c ki kj i j h0 h1 h2 hc
attribute [local go_sem high] midF_bytes cutF_bytes
theorem idxB_at (x : UInt8) : ∀ (l : List UInt8) (k : Nat), k < l.length → nth l k = x.toNat → (∀ j, j < k → nth l j ≠ x.toNat) → Lib.indexByte l x = k
 | [], k, h, _, _ => absurd h (by simp)
 | b :: l, 0, _, h, _ => by
  rw [nth_cons_zero] at h
  have : b = x := UInt8.toNat_inj.1 h
  rw [Lib.indexByte, if_pos (by simp [this])]
  rfl
 | b :: l, k + 1, hk, h, hj => by
  have h0 := hj 0 (by omega)
  rw [nth_cons_zero] at h0
  have hne : ¬ (b == x) = true := by simp; exact fun e => h0 (by rw [e])
  have ih := idxB_at x l k (by simpa using hk) (by rw [nth_cons_succ] at h; exact h) (fun j hjk => by have := hj (j + 1) (by omega); rwa [nth_cons_succ] at this)
  rw [Lib.indexByte, if_neg hne, ih, if_neg (by simp)]
  rfl
theorem idxB_none (x : UInt8) : ∀ (l : List UInt8), (∀ j, j < l.length → nth l j ≠ x.toNat) → Lib.indexByte l x = -1
 | [], _ => rfl
 | b :: l, h => by
  have h0 := h 0 (by simp)
  rw [nth_cons_zero] at h0
  have hne : ¬ (b == x) = true := by simp; exact fun e => h0 (by rw [e])
  have ih := idxB_none x l (fun j hj => by have := h (j + 1) (by simpa using hj); rwa [nth_cons_succ] at this)
  rw [Lib.indexByte, if_neg hne, ih]
  rfl
theorem IndexU8_any (x : UInt8) (A : Option Addr) (n c B : Nat) (l : List UInt8) (w : World) (hb : By w B A n l) (hm : n ≤ maxLen) :
 Calls Tryd.prog 42 #[.slice A n c, .int .u8 (x.toNat : Int)] w fun e w' => e = .returned (.int .i64 (Lib.indexByte l x)) ∧ w' = w := by
 have hl := hb.len
 have h1 := idxB_at x l
 have h2 := idxB_none x l
 generalize Lib.indexByte l x = r at h1 h2 ⊢
 have hx := x.toNat_lt
 generalize x.toNat = q at hx h1 h2 ⊢
 have H1 := Lib.hid h1
 have H2 := Lib.hid h2
 have Hl := Lib.hid hl
 clear h1 h2 hl
 unfold maxLen at hm
 go_enter Tryd.func42, Tryd.ntmps42
 go_wp2_with fail
 go_loopw [8] (fun iv wr => ∃ k : Nat, k ≤ n ∧ iv = .int .i64 k ∧ wr = w ∧ Hid (∀ j, j < k → nth l j ≠ q)) (fun iv _ => n - (intOf iv).toNat)
 case atStart => exact ⟨0, by omega, rfl, rfl, fun j hj => absurd hj (by omega)⟩
 case round =>
  obtain ⟨k, hk, rfl, rfl, hz⟩ := hrel
  by_cases hkn : k < n
  · obtain ⟨b, off, rfl, _, hcell⟩ := hb.at_ hkn
    have d : ((q : Int) == ((nth l k : Nat) : Int)) = (q == nth l k) := by
     rw [Bool.eq_iff_iff, beq_iff_eq, beq_iff_eq]; omega
    by_cases he : q = nth l k
    · have e : (q == nth l k) = true := by simpa using he
      rw [e] at d
      have Hr := Lib.hid (H1.out k (by rw [Hl.out]; exact hkn) he.symm hz.out)
      clear he e
      go_wp2_with fail
      go_ret
      exact ⟨by rw [Hr.out]; rfl, rfl⟩
    · have e : (q == nth l k) = false := by simpa using he
      rw [e] at d
      have He := Lib.hid he
      clear he e
      go_wp2_with fail
      refine ⟨⟨k + 1, by omega, by go_num, trivial, fun j hj => ?_⟩, by simp [intOf]; omega⟩
      rcases Nat.lt_or_ge j k with h | h
      · exact hz.out j h
      · rw [show j = k from by omega]; exact fun h => He.out h.symm
  · have Hr := Lib.hid (H2.out fun k hk => hz.out k (by rw [Hl.out] at hk; omega))
    go_wp2_with fail
    go_ret
    exact ⟨by rw [Hr.out]; rfl, rfl⟩
theorem rffail_any (e : Nat) (w : World) : Calls Tryd.prog 41 #[.int .i64 (e : Nat)] w fun r w' => r = .returned (.tuple #[.slice none 0 0, .int .i64 0, .int .i64 (e : Nat)]) ∧ w' = w := by
 go_enter Tryd.func41, Tryd.ntmps41
 go_wp2_with fail
 go_ret3
 exact ⟨rfl, rfl⟩
theorem blank_ix : ∀ x : Fin 256, decide (0 ≤ Lib.indexByte [32, 9] (UInt8.ofNat x.val)) = blankF x.val := by decide +kernel
theorem ContainsB_any (x : Nat) (hx : x < 256) (w : World) : Calls Tryd.prog 43 #[.string ⟨#[32, 9]⟩, str [UInt8.ofNat x]] w fun e w' => e = .returned (.bool (blankF x)) ∧ w = w' := by
 have h := blank_ix ⟨x, hx⟩
 simp only at h
 rw [← h]
 have hI : Calls Tryd.prog 30 #[str [32, 9], .string ⟨#[UInt8.ofNat x]⟩] w fun e w' => e = .returned (.int .i64 (Lib.indexByte [32, 9] (UInt8.ofNat x))) ∧ w = w' := Index_chr1 [32, 9] (UInt8.ofNat x) w
 generalize Lib.indexByte [32, 9] (UInt8.ofNat x) = i at hI ⊢
 have HI := Lib.hid hI
 clear hI h
 have e1 : str [UInt8.ofNat x] = .string ⟨#[UInt8.ofNat x]⟩ := rfl
 rw [e1]
 generalize UInt8.ofNat x = y at HI ⊢
 go_enter Tryd.func43, Tryd.ntmps43
 go_wp2_with fail
 refine HI.out.mono ?_
 rintro e w1 ⟨rfl, rfl⟩
 go_wp2_with fail
 go_ret
 exact ⟨rfl, rfl⟩
theorem take1 {l : List UInt8} (h : 0 < l.length) : l.take 1 = [UInt8.ofNat (nth l 0)] := by
 cases l with
 | nil => simp at h
 | cons a l => rw [nth_cons_zero, ofNat_toNat8]; rfl
def RFRel (b : List UInt8) (n : Nat) (R : List FieldD × List UInt8 × Nat) (w : World) (lv av : Value) (wr : World) : Prop :=
 ∃ (p m c fu : Nat) (out : List FieldD) (S : Option Addr), lv = .slice S m c ∧ av = .int .i64 (p : Nat) ∧ p ≤ n ∧ Hid (linesF fu (b.drop p) out = R ∧ out.length = m ∧ wtF out + (n - p) ≤ n ∧ n - p < fu) ∧ m ≤ 20 ∧ m ≤ c ∧
  wr.ownsRow w.heap.size 38 2 (.slice S m c) m (fieldC out) ∧ Below w.heap.size w wr
theorem RFieldsRead_any (b : List UInt8) (A : Option Addr) (n c : Nat) (w : World) (hb : By w w.heap.size A n b) (hnc : n ≤ c) (_hcm : c ≤ maxLen) (h4 : n ≤ 40000) :
 Calls Tryd.prog 19 #[.slice A n c] w (ParseRes (parseF b) w) := by
 obtain ⟨i0, hi0, hz0, hz1, hz2⟩ := info_parts infoField
 have hl := hb.len
 rw [parseF_fin (by omega), hl]
 obtain ⟨R, hR⟩ : ∃ R, linesF (n + 1) b [] = R := ⟨_, rfl⟩
 rw [hR]
 obtain ⟨r, hr⟩ : ∃ r, r = finF n R := ⟨_, rfl⟩
 rw [← hr]
 have Hr := Lib.hid hr
 have HR := Lib.hid hR
 have Hl := Lib.hid hl
 have Hb := Lib.hid hb
 have eg := enters_of Tryd.func41 (by kernel_rfl) rfl
 clear hR hl hb hr
 go_enter Tryd.func19, Tryd.ntmps19
 go_wp2_with fail
 go_loopw [6, 7] (RFRel b n R w) (fun _ av _ => n + 1 - (intOf av).toNat)
 case atStart => exact ⟨0, 0, 0, n + 1, [], none, rfl, rfl, Nat.zero_le _, ⟨by rw [List.drop_zero]; exact HR.out, rfl, by simp [wtF], by omega⟩, Nat.zero_le _, Nat.le_refl _, World.ownsRow_nil _ _ _ _, Below.refl _ _⟩
 case round =>
  clear HR
  obtain ⟨p, m, cS, fu, out, S, rfl, rfl, hpn, hE, hm20, hmc, hown, hbel⟩ := hrel
  obtain ⟨fu, rfl⟩ : ∃ k', fu = k' + 1 := ⟨fu - 1, by have := hE.out.2.2.2; omega⟩
  have hp0 : (0 : Int) ≤ (p : Int) := by omega
  have hp1 : (p : Int) ≤ (n : Int) := by omega
  have hbyr := Hb.out.below hbel
  have hcutb := By.cut hbyr hpn hnc
  have hslen : (b.drop p).length = n - p := by rw [List.length_drop, Hl.out]
  have hix := fun X (hX : X = wr) => IndexU8_any 10 (cutA A c p 1) (n - p) (c - p) w.heap.size (b.drop p) X (hX ▸ hcutb) (by unfold maxLen; omega)
  have l1 := @lines_no fu (b.drop p) out
  have l2 := @lines_end fu (b.drop p) out
  have l3 := @lines_bad fu (b.drop p) out
  have l4 := fun m' => @lines_go fu (b.drop p) out m'
  have cy := fun k => @cut_one_yes (b.drop p) 10 k
  have cn := @cut_one_no (b.drop p) 10
  have hbd := indexByte_bd (b.drop p) 10
  rw [hslen] at hbd
  generalize hixg : Lib.indexByte (b.drop p) 10 = ix at hix cy cn hbd
  have HIx := Lib.hid (fun X => hix X)
  by_cases hneg : ix < 0
  · have d1 : decide (ix < 0) = true := by simpa using hneg
    rw [cn hneg] at l1
    have hr1 : Hid (r = ([], 0, 1)) := by show r = _; rw [Hr.out, ← hE.out.1, l1 rfl]; rfl
    clear hix l1 l2 l3 l4 cy cn hE hown hbyr hcutb hslen hixg hneg
    go_wp2_with fail
    refine (HIx.out _ rfl).mono ?_
    rintro e w1 ⟨rfl, rfl⟩
    go_wp2_with fail
    refine (rffail_any 1 _).mono ?_
    rintro e w9 ⟨rfl, rfl⟩
    go_wp2_with fail
    go_ret3
    rw [hr1.out]
    exact ParseRes.fail 1 hbel
  · obtain ⟨k, rfl⟩ : ∃ k : Nat, ix = k := ⟨ix.toNat, by omega⟩
    have hk : k < n - p := by omega
    have d1 : decide ((k : Int) < 0) = false := by simp
    rw [cy k rfl] at l1 l2 l3 l4
    simp only at l1 l2 l3 l4
    have hrest : (b.drop p).drop (k + 1) = b.drop (p + k + 1) := by rw [List.drop_drop]; congr 1
    rw [hrest] at l2 l4
    obtain ⟨line0, hline0⟩ : ∃ x, x = (b.drop p).take k := ⟨_, rfl⟩
    rw [← hline0] at l2 l3 l4
    have hl0l : line0.length = k := by rw [hline0, List.length_take, hslen]; omega
    have hbyl : By wr w.heap.size (cutA A c p 1) k line0 := by rw [hline0]; exact By.upto hcutb (by omega)
    have hts := run_toStr (P := Tryd.prog) wr 23 9 5 _ (cutA A c p 1) k (c - p) line0 hbyl Tryd.underlying23 Tryd.underlying5 Tryd.underlying9
    have hcA : cutA A c p 1 = Option.map (fun x => x.add p) A := by unfold cutA; rw [if_neg (by omega), Nat.mul_one]
    rw [hcA] at hts
    have hSx := fun X => HasSuffix_any line0 [13] X (by unfold maxLen; omega)
    have hpk1 : p + k + 1 ≤ n := by omega
    obtain ⟨line, hline⟩ : ∃ x, x = chopF line0 := ⟨_, rfl⟩
    have hcl := chop_len line0
    rw [← hline] at l2 l3 l4 hcl
    have hchop : line = if Lib.hasSuffix line0 [13] then line0.take (line0.length - 1) else line0 := hline
    have hsle : Lib.hasSuffix line0 [13] = true → 1 ≤ line0.length := fun h => by
     have := Lib.hasSuffix_le h
     simpa using this
    obtain ⟨sf, hsf⟩ : ∃ s, s = Lib.hasSuffix line0 [13] := ⟨_, rfl⟩
    rw [← hsf] at hSx hchop hsle
    have HSx := Lib.hid hSx
    have Hchop := Lib.hid hchop
    have Hl0l := Lib.hid hl0l
    have e1 : ((p + k : Nat) : Int) = (p : Int) + (k : Int) := by omega
    have e2 : ((p : Int) + (k : Int)).toNat - ((p : Int)).toNat = k := by omega
    clear hcA hix l1 cy cn hbyr hcutb hslen hixg hneg hSx hchop hline0 hbyl hsf hline hrest hbd
    go_wp2_with fail
    refine (HIx.out _ rfl).mono ?_
    rintro e w1 ⟨rfl, rfl⟩
    go_wp2_with fail
    refine (HSx.out _).mono ?_
    rintro e w2 ⟨rfl, rfl⟩
    go_upto_if 36 with fail
    go_cut [9] from 13 to 41 (fun s9 wx => s9 = str line ∧ w1 = wx)
    case first =>
     cases sf with
     | true =>
      have hch := Hchop.out
      rw [if_pos rfl] at hch
      have h1l := hsle rfl
      have Hch := Lib.hid hch
      clear hch hsle
      go_wp2_with fail
      go_meet
      exact ⟨by rw [Hch.out]; congr 2; omega, rfl⟩
     | false =>
      have hch := Hchop.out
      rw [if_neg (by simp)] at hch
      have Hch := Lib.hid hch
      clear hch hsle
      go_wp2_with fail
      go_meet
      exact ⟨by rw [Hch.out], rfl⟩
    case rest =>
     obtain ⟨rfl, hwx⟩ := hcut
     subst hwx
     have hrl : (b.drop (p + k + 1)).length = n - (p + k + 1) := by rw [List.length_drop, Hl.out]
     obtain ⟨rs, hrs⟩ : ∃ x, x = b.drop (p + k + 1) := ⟨_, rfl⟩
     rw [← hrs] at l2 l4 hrl
     have hl0k := Hl0l.out
     clear hsle
     by_cases hl0 : line = []
     · have hRv : R = if chkF out = 0 then (out, rs, 0) else ([], [], chkF out) := by rw [← hE.out.1]; exact l2 trivial hl0
       have hol := hE.out.2.1
       have hwt := hE.out.2.2.1
       have hsm : smallF out := wtF_small (N := 40000) (by omega) (by unfold maxLen; omega)
       have d0 : (line == []) = true := by simpa using hl0
       have hck := RCheckFields_any out S m cS w1.heap.size w1 (Sl.of_own hown) (Nat.le_refl _) hsm (by unfold maxLen; omega)
       have hslw := Sl.of_own hown
       have hcm2 := own_capF hown
       have hrS : r = if chkF out = 0 then (out, p + k + 1, 0) else ([], 0, chkF out) := by
        rw [Hr.out, hRv]
        unfold finF
        by_cases h0 : chkF out = 0
        · rw [if_pos h0, if_pos h0, if_pos rfl]
          simp only [hrl]
          rw [show n - (n - (p + k + 1)) = p + k + 1 from by omega]
        · rw [if_neg h0, if_neg h0, if_neg (by simpa using h0)]
       generalize chkF out = e0 at hck hrS
       have Hck := Lib.hid hck
       have Hslw := Lib.hid hslw
       have Hsm := Lib.hid hsm
       have Hol := Lib.hid hol
       clear l2 l3 l4 hE hown hRv hck hslw hsm hol hwt hl0 hrl hrs
       by_cases he0 : e0 = 0
       · subst he0
         have hr1 : Hid (r = (out, p + k + 1, 0)) := by show r = _; rw [hrS, if_pos rfl]
         clear hrS
         go_wp2_with fail
         refine Hck.out.mono ?_
         rintro e w3 ⟨rfl, hb3⟩
         go_wp2_with fail
         go_ret3
         rw [hr1.out]
         exact ⟨S, cS, by rw [← Hol.out]; simp; omega, by rw [show (out, p + k + 1, 0).1.length = m from Hol.out]; exact (Hslw.out.below hb3).more hb3.size, Hsm.out, by show out.length ≤ cS; rw [Hol.out]; exact hmc, hcm2, hbel.trans (hb3.mono hbel.size)⟩
       · have hr1 : Hid (r = ([], 0, e0)) := by show r = _; rw [hrS, if_neg he0]
         have de : ((e0 : Int) != 0) = true := by simp; omega
         clear hrS he0
         go_wp2_with fail
         refine Hck.out.mono ?_
         rintro e w3 ⟨rfl, hb3⟩
         go_wp2_with fail
         refine (rffail_any e0 _).mono ?_
         rintro e w9 ⟨rfl, rfl⟩
         go_wp2_with fail
         go_ret3
         rw [hr1.out]
         exact ParseRes.fail e0 (hbel.trans (hb3.mono hbel.size))
     · have d0 : (line == []) = false := by simpa using hl0
       have hll : 0 < line.length := List.length_pos_iff.2 hl0
       have hi0' : (0 : Int) ≤ 1 := by omega
       have hi1' : (1 : Int) ≤ line.length := by omega
       have l3 := l3 trivial hl0
       have l4 := fun m' => l4 m' trivial hl0
       have ht1 := take1 hll
       have hCt := fun X => ContainsB_any (nth line 0) (nth_lt _ _) X
       rw [← ht1] at hCt
       obtain ⟨bl, hbl⟩ : ∃ x, x = blankF (nth line 0) := ⟨_, rfl⟩
       rw [← hbl] at hCt
       have HCt := Lib.hid hCt
       have Hwt := Lib.hid hE.out.2.2.1
       have hfu : n - (p + k + 1) < fu := by have := hE.out.2.2.2; omega
       clear l2 hl0 ht1 hCt
       cases bl with
       | true =>
        by_cases hm0 : m = 0
        · have hout : out = [] := List.eq_nil_of_length_eq_zero (by rw [hE.out.2.1]; exact hm0)
          have hr1 : Hid (r = ([], 0, 1)) := by show r = _; rw [Hr.out, ← hE.out.1, l3 (goF_blank0 hbl.symm hout)]; rfl
          subst hm0
          clear l3 l4 hE hown hbl hout hrs
          go_wp2_with fail
          refine (HCt.out _).mono ?_
          rintro e w3 ⟨rfl, rfl⟩
          go_wp2_with fail
          refine (rffail_any 1 _).mono ?_
          rintro e w9 ⟨rfl, rfl⟩
          go_wp2_with fail
          go_ret3
          rw [hr1.out]
          exact ParseRes.fail 1 hbel
        · have hout : out ≠ [] := fun e => hm0 (by rw [← hE.out.2.1, e]; rfl)
          obtain ⟨init, f, rfl⟩ : ∃ init f, out = init ++ [f] := ⟨out.dropLast, out.getLast hout, (List.dropLast_concat_getLast hout).symm⟩
          have hmi : m = init.length + 1 := by rw [← hE.out.2.1]; simp
          have hgo := l4 _ (goF_blank hbl.symm hout)
          have hwt := more_wt init f line
          have hms := more_snoc init f line
          obtain ⟨g, cap, hv, hgb, hgl⟩ := hown.form (by omega)
          injection hv with hS2 _ hcap
          subst hS2
          subst hcap
          have hj : m - 1 = init.length := by omega
          have q1 : w1.cell? ⟨g, (m - 1) * 2 + 1, none⟩ = some (str f.value) := by
           rw [hown.cellAt _ (by omega), fieldC_app, List.getElem?_append_right (by rw [fieldC_len]; omega), fieldC_len, hj, show init.length * 2 + 1 - init.length * 2 = 1 from by omega]
           rfl
          have f1 : w1.frozen? ⟨g, (m - 1) * 2 + 1, none⟩ = false := hown.frozenAt _
          have htl := trim_len line [32, 9]
          have hT1 := fun W => Trim_any line [32, 9] W (by unfold maxLen; omega) (by decide) (by decide)
          have hfv : f.value.length ≤ 40000 := by
           have h1 := hE.out.2.2.1
           have h2 := @wtF_mem (init ++ [f]) f (by simp)
           omega
          generalize hT1d : Lib.trimS line [32, 9] = t1 at hT1 htl hms
          have hT2 := fun W => Trim_any (f.value ++ 32 :: t1) [32] W (by unfold maxLen; simp only [List.length_append, List.length_cons]; omega) (by decide) (by decide)
          generalize hT2d : Lib.trimS (f.value ++ 32 :: t1) [32] = t2 at hT2 hms
          have HT1 := Lib.hid hT1
          have HT2 := Lib.hid hT2
          have hput : (fieldC (init ++ [f])).set ((m - 1) * 2 + 1) (str t2) = fieldC (moreF (init ++ [f]) line) := by rw [hj, fieldC_put, hms]
          have hml : (moreF (init ++ [f]) line).length = m := by rw [hms, hmi]; simp
          have hR2 : Hid (R = if 20 < m then ([], [], 2) else linesF fu rs (moreF (init ++ [f]) line)) := by show R = _; rw [← hE.out.1, hgo, hml]
          have hwt2 : Hid (wtF (moreF (init ++ [f]) line) + (n - (p + k + 1)) ≤ n) := by
           show _ ≤ _
           have := Hwt.out
           omega
          generalize moreF (init ++ [f]) line = out2 at hput hml hR2 hwt2
          have Hown := Lib.hid hown
          have Hput := Lib.hid hput
          have Hml := Lib.hid hml
          have hm1 : 0 < m := by omega
          have Hrs := Lib.hid hrs
          have Hrl := Lib.hid hrl
          clear l3 l4 hE hown hbl hgo hwt hms hT1 hT2 hput hml hT1d hT2d hm0 hmi hj hrs hrl hout
          go_wp2_with fail
          refine (HCt.out _).mono ?_
          rintro e w3 ⟨rfl, rfl⟩
          have hb1 := belN (Below.refl w1.heap.size w1) 1
          have hszd : g < w1.drew.heap.size := hgl
          go_wp2_with fail
          go_region_with (first
           | (go_at_call 24; (with_reducible refine (HT1.out _).mono ?_); rintro e w4 ⟨rfl, hb4⟩; have q4 := (hb4.cell (p := ⟨g, (m - 1) * 2 + 1, none⟩) hszd).trans q1; have f4 := (hb4.frozen (p := ⟨g, (m - 1) * 2 + 1, none⟩) hszd).trans f1; have hsz4 := Nat.lt_of_lt_of_le hszd hb4.size)
           | (go_at_call 24; (with_reducible refine (HT2.out _).mono ?_); rintro e w5 ⟨rfl, hb5⟩; have q5 := (hb5.cell (p := ⟨g, (m - 1) * 2 + 1, none⟩) hsz4).trans q4; have f5 := (hb5.frozen (p := ⟨g, (m - 1) * 2 + 1, none⟩) hsz4).trans f4))
          all_goals
           have hbw := hb1.trans ((hb4.trans (hb5.mono hb4.size)).mono (show w1.heap.size ≤ w1.drew.heap.size from Nat.le_refl _))
           have hown5 := (own_below Hown.out hbw).stored ((m - 1) * 2 + 1) (str t2) |>.1
           rw [Hput.out] at hown5
           have hbel5 := (hbel.trans (hbw.mono hbel.size)).setCell (p := ⟨g, (m - 1) * 2 + 1, none⟩) hgb (str t2)
           have d20 : decide ((20 : Int) < (m : Int)) = false := by simp; omega
           have hR3 : Hid (linesF fu rs out2 = R) := by show _ = R; rw [hR2.out, if_neg (by omega)]
           have Hown5 := Lib.hid hown5
           clear hown5 q1 f1 q4 f4 q5 f5 hb1 hb4 hb5 hbw
           go_wp2_with fail
           exact ⟨⟨p + k + 1, m, cS, fu, out2, some ⟨g, 0, none⟩, rfl, by go_num, hpk1, ⟨by rw [← Hrs.out]; exact hR3.out, Hml.out, hwt2.out, hfu⟩, hm20, hmc, Hown5.out, hbel5⟩, by simp [intOf]; omega⟩
       | false =>
        have hix2 := fun X => Index_chr1 line 58 X
        have cy := fun k => @cut_one_yes line 58 k
        have cn := @cut_one_no line 58
        have hc1 := @goF_none out line hbl.symm
        have hc2 := @goF_new out line hbl.symm
        have hc3 := new_wt out line
        have hbd := indexByte_bd line 58
        generalize Lib.indexByte line 58 = ic at hix2 cy cn hbd
        have HIx2 := Lib.hid hix2
        by_cases hneg : ic < 0
        · have d2 : decide (ic < 0) = true := by simpa using hneg
          rw [cn hneg] at hc1
          have hr1 : Hid (r = ([], 0, 1)) := by show r = _; rw [Hr.out, ← hE.out.1, l3 (hc1 rfl)]; rfl
          clear l3 l4 hE hown hbl hix2 cy cn hc1 hc2 hc3 hbd hneg hrs hrl
          go_wp2_with fail
          refine (HCt.out _).mono ?_
          rintro e w3 ⟨rfl, rfl⟩
          go_wp2_with fail
          refine (HIx2.out _).mono ?_
          rintro e w4 ⟨rfl, rfl⟩
          go_wp2_with fail
          refine (rffail_any 1 _).mono ?_
          rintro e w9 ⟨rfl, rfl⟩
          go_wp2_with fail
          go_ret3
          rw [hr1.out]
          exact ParseRes.fail 1 hbel
        · obtain ⟨j, rfl⟩ : ∃ j : Nat, ic = j := ⟨ic.toNat, by omega⟩
          have hj : j < line.length := by omega
          have d2 : decide ((j : Int) < 0) = false := by simp
          rw [cy j rfl] at hc2 hc3
          simp only at hc2 hc3
          have hgo := l4 _ (hc2 trivial)
          have hwt := hc3 trivial
          have hT1 := fun W => Trim_any (line.drop (j + 1)) [32, 9] W (by rw [List.length_drop]; unfold maxLen; omega) (by decide) (by decide)
          have hR2 : Hid (R = if 20 < m + 1 then ([], [], 2) else linesF fu rs (out ++ [⟨line.take j, Lib.trimS (line.drop (j + 1)) [32, 9]⟩])) := by
           show R = _
           rw [← hE.out.1, hgo]
           simp only [List.length_append, List.length_cons, List.length_nil, hE.out.2.1, Nat.zero_add]
          have hwt2 : Hid (wtF (out ++ [⟨line.take j, Lib.trimS (line.drop (j + 1)) [32, 9]⟩]) + (n - (p + k + 1)) ≤ n) := by
           show _ ≤ _
           have := Hwt.out
           omega
          generalize Lib.trimS (line.drop (j + 1)) [32, 9] = t at hT1 hR2 hwt2
          have hml : Hid ((out ++ [FieldD.mk (line.take j) t]).length = m + 1) := by show _ = _; simp [hE.out.2.1]
          have HT1 := Lib.hid hT1
          have Hown := Lib.hid hown
          have h63 : m + 1 ≤ maxLen := by unfold maxLen; omega
          have h47 : (m + 1) * 32 ≤ 140737488355328 := by omega
          have hone : ∀ u ∈ [str (line.take j), str t], u.oneCell' = true := by intro u hu; simp at hu; rcases hu with rfl | rfl <;> rfl
          have Hone := Lib.hid hone
          have Hrs := Lib.hid hrs
          have hj0 : (0 : Int) ≤ (j : Int) := by omega
          have hj1 : (j : Int) ≤ line.length := by omega
          have hj2 : (0 : Int) ≤ (j : Int) + 1 := by omega
          have hj3 : (j : Int) + 1 ≤ line.length := by omega
          have hj4 : j ≤ line.length := by omega
          have hj5 : j + 1 ≤ line.length := by omega
          have hwj : IntKind.i64.wrap ((j : Int) + 1) = (j : Int) + 1 := by rw [IntKind.wrap_i64]; omega
          clear l3 l4 hE hown hbl hix2 cy cn hc1 hc2 hc3 hbd hneg hrs hrl hgo hwt hT1 hone
          go_wp2_with fail
          refine (HCt.out _).mono ?_
          rintro e w3 ⟨rfl, rfl⟩
          go_wp2_with fail
          refine (HIx2.out _).mono ?_
          rintro e w4 ⟨rfl, rfl⟩
          go_wp2_with fail
          refine wp_region_held (S := fun _ => True) (by kernel_rfl) ?_
          change wpAnyH _ _ _ _ _ _ _ _ (World.drew w1)
          have hS : True := trivial
          refine tkH (i := 0) (v := ?_) rfl ?_ hS ?_
          rotate_left 1
          · intro W' hb'; go_simp; try exact rfl
          refine tkH (i := 1) (v := ?_) rfl ?_ hS ?_
          rotate_left 1
          · intro W' hb'; go_simp; try exact rfl
          refine tkH (i := 2) (v := ?_) rfl ?_ hS ?_
          rotate_left 1
          · intro W' hb'; go_simp; try exact rfl
          refine tkH (i := 3) (v := ?_) rfl ?_ hS ?_
          rotate_left 1
          · intro W' hb'; go_simp; try exact rfl
          refine tkH (i := 4) (v := ?_) rfl ?_ hS ?_
          rotate_left 1
          · intro W' hb'; go_simp; try exact rfl
          refine tkH (i := 5) (v := ?_) rfl ?_ hS ?_
          rotate_left 1
          · intro W' hb'; go_simp; try exact rfl
          refine tkH (i := 6) (v := ?_) rfl ?_ hS ?_
          rotate_left 1
          · intro W' hb'; go_simp; try exact rfl
          refine tkH (i := 7) (v := ?_) rfl ?_ hS ?_
          rotate_left 1
          · intro W' hb'; go_simp; try exact rfl
          refine wpAnyH_all (rs := [8]) (by kernel_rfl) (by simp) ?_
          intro kk hkk
          simp only [List.mem_singleton] at hkk
          subst hkk
          go_simp
          refine wpOp_callF rfl (by kernel_rfl) 24 #[str (line.drop (j + 1)), .string ⟨#[32, 9]⟩] (by go_simp) _ _ (HT1.out _) ?_
          intro w5 hb5
          refine tkH (i := 9) (v := ?_) rfl ?_ hS ?_
          rotate_left 1
          · intro W' hb'; go_simp; try exact rfl
          refine wpAnyH_all (rs := [10]) (by kernel_rfl) (by simp) ?_
          intro kk hkk
          simp only [List.mem_singleton] at hkk
          subst hkk
          go_simp
          refine wpOp_runv rfl (by kernel_rfl) (.slice (some ⟨w5.heap.size, 0, none⟩) 1 1) (w5.alloc (.cells #[str (line.take j), str t] 38)) (by go_simp) ?_
          have hbd1 : Below w1.heap.size w1 w5 := (belN (Below.refl w1.heap.size w1) 1).trans hb5
          have hbA : Below w5.heap.size w5 (w5.alloc (.cells #[str (line.take j), str t] 38)) := (Below.refl _ _).alloc (Nat.le_refl _) _
          have hb1A := hbd1.trans (hbA.mono hbd1.size)
          have hown5 := own_below Hown.out hb1A
          have hsz := hbel.size
          have hszA := hb1A.size
          obtain ⟨S8, c8, w8, hrun8, hown8, hg8, _⟩ := run_app (P := Tryd.prog) (w5.alloc (.cells #[str (line.take j), str t] 38)) w.heap.size 22 22 38 i0 (.agg #[.string ⟨#[]⟩, .string ⟨#[]⟩]) 2 32 Tryd.underlying22 hi0 hz0 hz1 hz2 rfl (by decide) S m cS (fieldC out) hown5 _ _ 1 1 [str (line.take j), str t] (Sl.row _ _ 2 1 _ rfl) Hone.out h63 h47 (by omega)
          have hbel8 := (hbel.trans (hb1A.mono hsz)).grown hg8 (by omega) (fun q hq => (hown5.lt q hq).1)
          rw [show fieldC out ++ [str (line.take j), str t] = fieldC (out ++ [⟨line.take j, t⟩]) from by rw [fieldC_app]; rfl] at hown8
          have hc8 := own_cap hown8
          have Hown8 := Lib.hid hown8
          clear hbd1 hbA hb1A hown5 hown8 hg8 hb5
          refine wpAnyH_all (rs := [11]) (by kernel_rfl) (by simp) ?_
          intro kk hkk
          simp only [List.mem_singleton] at hkk
          subst hkk
          go_simp
          refine wpOp_appRun rfl (by kernel_rfl) _ _ _ rfl (.slice S m cS) (.slice (some ⟨w5.heap.size, 0, none⟩) 1 1) (by go_simp) (by go_simp) _ w8 hrun8 ?_
          refine tkH (i := 12) (v := ?_) rfl ?_ hS ?_
          rotate_left 1
          · intro W' hb'; go_simp; try exact rfl
          refine wpAnyH_done (by kernel_rfl) ?_ _
          go_simp
          by_cases h20 : 20 < m + 1
          · have d20 : decide ((20 : Int) < (m : Int) + 1) = true := by simp; omega
            have hr1 : Hid (r = ([], 0, 2)) := by show r = _; rw [Hr.out, hR2.out, if_pos h20]; rfl
            go_wp2_with fail
            refine (rffail_any 2 _).mono ?_
            rintro e w9 ⟨rfl, rfl⟩
            go_wp2_with fail
            go_ret3
            rw [hr1.out]
            exact ParseRes.fail 2 hbel8
          · have d20 : decide ((20 : Int) < (m : Int) + 1) = false := by simp; omega
            have hR3 : Hid (linesF fu rs (out ++ [⟨line.take j, t⟩]) = R) := by show _ = R; rw [hR2.out, if_neg h20]
            go_wp2_with fail
            exact ⟨⟨p + k + 1, m + 1, c8, fu, _, S8, rfl, by go_num, hpk1, ⟨by rw [← Hrs.out]; exact hR3.out, hml.out, hwt2.out, hfu⟩, by omega, hc8, Hown8.out, hbel8⟩, by simp [intOf]; omega⟩
end Go.Proofs.YtpnolbfnmknhlaaDoor
namespace Go.Proofs.YtpnolbfnmknhlaaDoor
theorem cut_one (s : List UInt8) (c : UInt8) : (∃ x y, s = x ++ c :: y ∧ (∀ b ∈ x, b ≠ c) ∧ Lib.cut s [c] = (x, y, true)) ∨ ((∀ b ∈ s, b ≠ c) ∧ Lib.cut s [c] = (s, [], false)) := by
 by_cases h : c ∈ s
 · obtain ⟨x, y, rfl, hx⟩ := first_of s c h
   exact .inl ⟨x, y, rfl, hx, cut_app x y c hx⟩
 · have hx : ∀ b ∈ s, b ≠ c := fun b hb e => h (e ▸ hb)
   exact .inr ⟨hx, cut_not s c hx⟩
theorem dropW_nil {α : Type} {p : α → Bool} : ∀ {l : List α}, l.dropWhile p = [] ↔ ∀ b ∈ l, p b = true
 | [] => by simp
 | a :: l => by
  have ih := dropW_nil (p := p) (l := l)
  rw [List.dropWhile_cons]
  by_cases h : p a = true
  · rw [if_pos h, ih]; simp [h]
  · rw [if_neg h]; simp [h]
theorem trimPQ_len (s cs : List UInt8) : (Lib.trimLeftS s cs).length ≤ s.length := (List.dropWhile_suffix _).length_le
def stepQ (f : List UInt8 → Bool → List FieldD → List FieldD × Nat) (rest : List UInt8) (l : List FieldD) : List FieldD × Nat :=
 let c := Lib.cut (Lib.trimLeftS rest [32]) [61]
 let name := Lib.trimS c.1 [32]
 if (!c.2.2 || !tokB name) = true then ([], 1)
 else
  let v := Lib.trimLeftS c.2.1 [32]
  if Lib.hasPrefix v [34] = true then
   let d := Lib.cut (v.drop 1) [34]
   if d.2.2 = false then ([], 1)
   else
    let g := Lib.cut d.2.1 [59]
    if Lib.trimS g.1 [32] ≠ [] then ([], 1)
    else if 20 < (l ++ [FieldD.mk (lowL name) d.1]).length then ([], 2)
    else f g.2.1 g.2.2 (l ++ [FieldD.mk (lowL name) d.1])
  else
   let d := Lib.cut v [59]
   let p := Lib.trimRightS d.1 [32]
   if tokB p = false then ([], 1)
   else if 20 < (l ++ [FieldD.mk (lowL name) p]).length then ([], 2)
   else f d.2.1 d.2.2 (l ++ [FieldD.mk (lowL name) p])
theorem loopP_step (k : Nat) (rest : List UInt8) (l : List FieldD) : loopP (k + 1) rest true l = stepQ (loopP k) rest l := by
 rw [loopP, if_neg (by simp)]
 rfl
theorem stepQ_congr (f g : List UInt8 → Bool → List FieldD → List FieldD × Nat) (rest : List UInt8) (l : List FieldD) (h : ∀ r m l', r.length < rest.length → f r m l' = g r m l') : stepQ f rest l = stepQ g rest l := by
 unfold stepQ
 have h0 := trimPQ_len rest [32]
 rcases cut_one (Lib.trimLeftS rest [32]) 61 with ⟨x, y, he, hx, hc⟩ | ⟨_, hc⟩
 · rw [hc]
   have hl := congrArg List.length he
   rw [List.length_append, List.length_cons] at hl
   have h1 := trimPQ_len y [32]
   simp only
   rcases cut_one (List.drop 1 (Lib.trimLeftS y [32])) 34 with ⟨a, b, he2, _, hc2⟩ | ⟨_, hc2⟩
   · rw [hc2]
     have hl2 := congrArg List.length he2
     rw [List.length_append, List.length_cons, List.length_drop] at hl2
     simp only
     have hA : ∀ l', f (Lib.cut b [59]).2.1 (Lib.cut b [59]).2.2 l' = g (Lib.cut b [59]).2.1 (Lib.cut b [59]).2.2 l' := by
      intro l'
      rcases cut_one b 59 with ⟨p, q, he3, _, hc3⟩ | ⟨_, hc3⟩
      · have hl3 := congrArg List.length he3
        rw [List.length_append, List.length_cons] at hl3
        rw [hc3]
        exact h _ _ _ (by simp only; omega)
      · rw [hc3]
        exact h _ _ _ (by simp only [List.length_nil]; omega)
     have hB : ∀ l', f (Lib.cut (Lib.trimLeftS y [32]) [59]).2.1 (Lib.cut (Lib.trimLeftS y [32]) [59]).2.2 l' = g (Lib.cut (Lib.trimLeftS y [32]) [59]).2.1 (Lib.cut (Lib.trimLeftS y [32]) [59]).2.2 l' := by
      intro l'
      rcases cut_one (Lib.trimLeftS y [32]) 59 with ⟨p, q, he3, _, hc3⟩ | ⟨_, hc3⟩
      · have hl3 := congrArg List.length he3
        rw [List.length_append, List.length_cons] at hl3
        rw [hc3]
        exact h _ _ _ (by simp only; omega)
      · rw [hc3]
        exact h _ _ _ (by simp only [List.length_nil]; omega)
     rw [hA, hB]
   · rw [hc2]
     simp only [if_true]
     have hB : ∀ l', f (Lib.cut (Lib.trimLeftS y [32]) [59]).2.1 (Lib.cut (Lib.trimLeftS y [32]) [59]).2.2 l' = g (Lib.cut (Lib.trimLeftS y [32]) [59]).2.1 (Lib.cut (Lib.trimLeftS y [32]) [59]).2.2 l' := by
      intro l'
      rcases cut_one (Lib.trimLeftS y [32]) 59 with ⟨p, q, he3, _, hc3⟩ | ⟨_, hc3⟩
      · have hl3 := congrArg List.length he3
        rw [List.length_append, List.length_cons] at hl3
        rw [hc3]
        exact h _ _ _ (by simp only; omega)
      · rw [hc3]
        exact h _ _ _ (by simp only [List.length_nil]; omega)
     rw [hB]
 · rw [hc]
   simp only [Bool.not_false, Bool.true_or, if_true]
theorem loopP_fuel : ∀ (k j : Nat) (rest : List UInt8) (more : Bool) (l : List FieldD), rest.length < k → rest.length < j → loopP k rest more l = loopP j rest more l
 | 0, _, _, _, _, h, _ => absurd h (by omega)
 | _, 0, _, _, _, _, h => absurd h (by omega)
 | k + 1, j + 1, rest, more, l, hk, hj => by
  cases more with
  | false => rw [loopP, loopP, if_pos rfl, if_pos rfl]
  | true =>
   rw [loopP_step, loopP_step]
   exact stepQ_congr _ _ _ _ fun r m l' h => loopP_fuel k j r m l' (by omega) (by omega)
def PQ : List UInt8 → List FieldD → List FieldD × Nat
 | [], l => (l, 0)
 | _ :: t, l => loopP (t.length + 1) t true l
theorem loopP_cut (k : Nat) (s : List UInt8) (l : List FieldD) (h : s.length < k) : loopP k (Lib.cut s [59]).2.1 (Lib.cut s [59]).2.2 l = PQ (s.dropWhile (· != 59)) l := by
 rcases cut_one s 59 with ⟨x, y, rfl, hx, hc⟩ | ⟨hx, hc⟩
 · rw [hc]
   have : (x ++ 59 :: y).dropWhile (· != 59) = 59 :: y := by
    rw [List.dropWhile_append_of_pos (fun b hb => by simpa using hx b hb)]
    rfl
   rw [this, PQ]
   rw [List.length_append, List.length_cons] at h
   exact loopP_fuel _ _ _ _ _ (by show y.length < k; omega) (by show y.length < y.length + 1; omega)
 · rw [hc]
   have : s.dropWhile (· != 59) = [] := by
    rw [dropW_nil]
    intro b hb
    simpa using hx b hb
   rw [this, PQ]
   obtain ⟨k, rfl⟩ : ∃ j, k = j + 1 := ⟨k - 1, by omega⟩
   rw [loopP, if_pos rfl]
theorem cut_tw59 (s : List UInt8) : (Lib.cut s [59]).1 = s.takeWhile (· != 59) := by rw [cut_tw]
/-- A gap behind what stands between quotes. -/
theorem gap_iff (g : List UInt8) : Lib.trimS (Lib.cut g [59]).1 [32] = [] ↔ ∀ c r, Lib.trimLeftS g [32] = c :: r → c = 59 := by
 have htl : ∀ x : List UInt8, Lib.trimS x [32] = [] ↔ ∀ b ∈ x, b = 32 := by
  intro x
  constructor
  · intro h b hb
    by_cases hb2 : b = 32
    · exact hb2
    · exfalso
      unfold Lib.trimS Lib.trimLeftS Lib.trimRightS at h
      rw [dropW_nil] at h
      have h2 : b ∈ (x.reverse.dropWhile ([32].contains ·)).reverse := by
       rw [List.mem_reverse]
       have hm : b ∈ x.reverse := List.mem_reverse.2 hb
       rw [← List.takeWhile_append_dropWhile (p := ([32].contains ·)) (l := x.reverse)] at hm
       rcases List.mem_append.1 hm with hm | hm
       · have := List.all_eq_true.1 (List.all_takeWhile (p := ([32].contains ·)) (l := x.reverse)) b hm
         simp at this
         exact absurd this hb2
       · exact hm
      have := h b h2
      simp at this
      exact hb2 this
  · intro h
    unfold Lib.trimS Lib.trimLeftS Lib.trimRightS
    rw [dropW_nil]
    intro b hb
    have := (List.dropWhile_suffix _).subset (List.mem_reverse.1 hb)
    simp [h b (List.mem_reverse.1 this)]
 rw [htl]
 rcases cut_one g 59 with ⟨x, y, rfl, hx, hc⟩ | ⟨hx, hc⟩
 · rw [hc]
   simp only
   constructor
   · intro h c r he
     unfold Lib.trimLeftS at he
     rw [List.dropWhile_append_of_pos (fun b hb => by simp [h b hb])] at he
     simp at he
     exact he.1.symm
   · intro h b hb
     by_cases hall : ∀ b ∈ x, ([32] : List UInt8).contains b = true
     · simpa using hall b hb
     · exfalso
       have hne : x.dropWhile ([32].contains ·) ≠ [] := by
        rw [ne_eq, dropW_nil]
        exact hall
       cases hd : x.dropWhile ([32].contains ·) with
       | nil => exact hne hd
       | cons c r =>
        have e : Lib.trimLeftS (x ++ 59 :: y) [32] = c :: (r ++ 59 :: y) := by
         unfold Lib.trimLeftS
         rw [List.dropWhile_append, hd]
         simp
        have h59 := h c _ e
        have hm : c ∈ x := (List.dropWhile_suffix ([32].contains ·)).subset (by rw [hd]; simp)
        exact hx c hm h59
 · rw [hc]
   simp only
   constructor
   · intro h c r he
     unfold Lib.trimLeftS at he
     have : g.dropWhile ([32].contains ·) = [] := by
      rw [dropW_nil]
      intro b hb
      simp [h b hb]
     rw [this] at he
     cases he
   · intro h b hb
     cases hd : Lib.trimLeftS g [32] with
     | nil =>
      unfold Lib.trimLeftS at hd
      rw [dropW_nil] at hd
      simpa using hd b hb
     | cons c r =>
      have hm : c ∈ g := (List.dropWhile_suffix ([32].contains ·)).subset (by unfold Lib.trimLeftS at hd; rw [hd]; simp)
      exact absurd (h c r hd) (hx c hm)
theorem gap_drop (g : List UInt8) (h : ∀ c r, Lib.trimLeftS g [32] = c :: r → c = 59) : g.dropWhile (· != 59) = Lib.trimLeftS g [32] := by
 cases hd : Lib.trimLeftS g [32] with
 | nil =>
  unfold Lib.trimLeftS at hd
  rw [dropW_nil] at hd ⊢
  intro b hb
  have := hd b hb
  simp at this
  subst this
  decide
 | cons c r =>
  obtain rfl := h c r hd
  have e := List.takeWhile_append_dropWhile (p := ([32].contains ·)) (l := g)
  unfold Lib.trimLeftS at hd
  rw [hd] at e
  rw [← e, List.dropWhile_append_of_pos]
  · rfl
  · intro b hb
    have := List.all_eq_true.1 (List.all_takeWhile (p := ([32].contains ·)) (l := g)) b hb
    simp at this
    subst this
    decide
section
variable {t x y : List UInt8} {l : List FieldD}
theorem PQ_noeq (h : ∀ b ∈ Lib.trimLeftS t [32], b ≠ 61) : PQ (59 :: t) l = ([], 1) := by
 rw [PQ, loopP_step]
 unfold stepQ
 rw [cut_not _ _ h]
 simp
theorem PQ_name (h : Lib.trimLeftS t [32] = x ++ 61 :: y) (hx : ∀ b ∈ x, b ≠ 61) (hn : tokB (Lib.trimS x [32]) = false) : PQ (59 :: t) l = ([], 1) := by
 rw [PQ, loopP_step]
 unfold stepQ
 rw [h, cut_app _ _ _ hx]
 simp [hn]
theorem PQ_open {z : List UInt8} (h : Lib.trimLeftS t [32] = x ++ 61 :: y) (hx : ∀ b ∈ x, b ≠ 61) (hn : tokB (Lib.trimS x [32]) = true) (hy : Lib.trimLeftS y [32] = 34 :: z) (hz : ∀ b ∈ z, b ≠ 34) : PQ (59 :: t) l = ([], 1) := by
 rw [PQ, loopP_step]
 unfold stepQ
 rw [h, cut_app _ _ _ hx]
 have hp : Lib.hasPrefix (34 :: z) [34] = true := by simp [Lib.hasPrefix]
 simp only [hn, Bool.not_true, Bool.or_self, Bool.false_eq_true, if_false, hy]
 rw [if_pos hp]
 simp only [List.drop_one, List.tail_cons]
 rw [cut_not _ _ hz, if_pos rfl]
theorem PQ_quote {z v g : List UInt8} (h : Lib.trimLeftS t [32] = x ++ 61 :: y) (hx : ∀ b ∈ x, b ≠ 61) (hn : tokB (Lib.trimS x [32]) = true) (hy : Lib.trimLeftS y [32] = 34 :: z) (hz : z = v ++ 34 :: g) (hv : ∀ b ∈ v, b ≠ 34) :
 PQ (59 :: t) l = if Lib.trimS (Lib.cut g [59]).1 [32] ≠ [] then ([], 1) else if 20 < (l ++ [FieldD.mk (lowL (Lib.trimS x [32])) v]).length then ([], 2) else PQ (g.dropWhile (· != 59)) (l ++ [FieldD.mk (lowL (Lib.trimS x [32])) v]) := by
 have hl := congrArg List.length h
 have hl2 := congrArg List.length hy
 have h0 := trimPQ_len t [32]
 have h1 := trimPQ_len y [32]
 rw [List.length_append, List.length_cons] at hl
 rw [hz, List.length_cons, List.length_append, List.length_cons] at hl2
 rw [← loopP_cut t.length g _ (by omega)]
 rw [PQ, loopP_step]
 unfold stepQ
 rw [h, cut_app _ _ _ hx]
 have hp : Lib.hasPrefix (34 :: z) [34] = true := by simp [Lib.hasPrefix]
 simp only [hn, Bool.not_true, Bool.or_self, Bool.false_eq_true, if_false, hy]
 rw [if_pos hp]
 simp only [List.drop_one, List.tail_cons]
 rw [hz, cut_app _ _ _ hv, if_neg (by simp)]
theorem PQ_tok (h : Lib.trimLeftS t [32] = x ++ 61 :: y) (hx : ∀ b ∈ x, b ≠ 61) (hn : tokB (Lib.trimS x [32]) = true) (hy : (Lib.trimLeftS y [32]).head? ≠ some 34) :
 PQ (59 :: t) l = if tokB (Lib.trimRightS ((Lib.trimLeftS y [32]).takeWhile (· != 59)) [32]) = false then ([], 1) else if 20 < (l ++ [FieldD.mk (lowL (Lib.trimS x [32])) (Lib.trimRightS ((Lib.trimLeftS y [32]).takeWhile (· != 59)) [32])]).length then ([], 2)
  else PQ ((Lib.trimLeftS y [32]).dropWhile (· != 59)) (l ++ [FieldD.mk (lowL (Lib.trimS x [32])) (Lib.trimRightS ((Lib.trimLeftS y [32]).takeWhile (· != 59)) [32])]) := by
 have hl := congrArg List.length h
 have h0 := trimPQ_len t [32]
 have h1 := trimPQ_len y [32]
 rw [List.length_append, List.length_cons] at hl
 rw [← loopP_cut t.length _ _ (by omega), ← cut_tw59]
 rw [PQ, loopP_step]
 unfold stepQ
 rw [h, cut_app _ _ _ hx]
 have hp : Lib.hasPrefix (Lib.trimLeftS y [32]) [34] = false := by
  cases hq : Lib.trimLeftS y [32] with
  | nil => rfl
  | cons c r =>
   rw [hq] at hy
   have hc : c ≠ 34 := fun e => hy (by rw [e]; rfl)
   show (34 == c && List.isPrefixOf [] r) = false
   simp [Ne.symm hc]
 simp only [hn, Bool.not_true, Bool.or_self, Bool.false_eq_true, if_false, hp]
end
theorem params_PQ (s : List UInt8) : paramsF s = if valB s = false then ([], [], 1) else if (PQ (s.dropWhile (· != 59)) []).2 = 0 then (lowL (Lib.trimS (s.takeWhile (· != 59)) [32]), (PQ (s.dropWhile (· != 59)) []).1, 0) else ([], [], (PQ (s.dropWhile (· != 59)) []).2) := by
 unfold paramsF
 simp only
 rw [loopP_cut _ s [] (by omega), cut_tw59]
end Go.Proofs.YtpnolbfnmknhlaaDoor
namespace Go.Proofs.YtpnolbfnmknhlaaDoor
open Go.RowKit
theorem indexByte_bd5 (l : List UInt8) (c : UInt8) : -1 ≤ Lib.indexByte l c ∧ Lib.indexByte l c < l.length := by
 induction l with
 | nil => rw [Lib.indexByte]; simp
 | cons b l ih =>
  rw [Lib.indexByte, List.length_cons]
  split
  · omega
  · split <;> omega
theorem sp_step {s : List UInt8} {j : Nat} (hj : j < s.length) (h : nth s j = 32) : Lib.trimLeftS (s.drop j) [32] = Lib.trimLeftS (s.drop (j + 1)) [32] := by
 rw [List.drop_eq_getElem_cons hj]
 have h2 : s[j] = 32 := UInt8.toNat_inj.1 (by rw [← nth_of s j hj]; exact h)
 unfold Lib.trimLeftS
 rw [h2, List.dropWhile_cons_of_pos (by decide)]
theorem sp_stop {s : List UInt8} {j : Nat} (hj : j < s.length) (h : nth s j ≠ 32) : Lib.trimLeftS (s.drop j) [32] = s.drop j := by
 rw [List.drop_eq_getElem_cons hj]
 have h2 : s[j] ≠ 32 := fun e => h (by rw [nth_of s j hj, e]; rfl)
 unfold Lib.trimLeftS
 rw [List.dropWhile_cons_of_neg (by simpa using h2)]
theorem sp_end {s : List UInt8} {j : Nat} (hj : s.length ≤ j) : Lib.trimLeftS (s.drop j) [32] = s.drop j := by
 rw [List.drop_of_length_le hj]; rfl
theorem trimL_drop (s : List UInt8) (j : Nat) : s.drop (s.length - (Lib.trimLeftS (s.drop j) [32]).length) = Lib.trimLeftS (s.drop j) [32] := by
 have hsuf : Lib.trimLeftS (s.drop j) [32] <:+ s := (List.dropWhile_suffix _).trans (List.drop_suffix _ _)
 obtain ⟨p, hp⟩ := hsuf
 generalize Lib.trimLeftS (s.drop j) [32] = T at hp ⊢
 have hl := congrArg List.length hp
 rw [List.length_append] at hl
 rw [show s.length - T.length = p.length from by omega, ← hp, List.drop_left]
theorem idx_split (c : UInt8) : ∀ (l : List UInt8) (k : Nat), Lib.indexByte l c = k → k < l.length ∧ l = l.take k ++ c :: l.drop (k + 1) ∧ ∀ b ∈ l.take k, b ≠ c
 | [], k, h => by rw [Lib.indexByte] at h; omega
 | b :: l, k, h => by
  rw [Lib.indexByte] at h
  by_cases hb : (b == c) = true
  · rw [if_pos hb] at h
    obtain rfl : k = 0 := by omega
    have : b = c := by simpa using hb
    subst this
    exact ⟨by simp, rfl, by simp⟩
  · rw [if_neg hb] at h
    have hbd := indexByte_bd5 l c
    split at h
    · omega
    · rename_i h1
      have h1 : Lib.indexByte l c ≠ -1 := by simpa using h1
      obtain ⟨k, rfl⟩ : ∃ j, k = j + 1 := ⟨k - 1, by omega⟩
      obtain ⟨a1, a2, a3⟩ := idx_split c l k (by omega)
      refine ⟨by simpa using a1, ?_, ?_⟩
      · rw [List.take_succ_cons, List.drop_succ_cons, List.cons_append, ← a2]
      · intro x hx
        rw [List.take_succ_cons] at hx
        rcases List.mem_cons.1 hx with rfl | hx
        · simpa using hb
        · exact a3 x hx
theorem idx_none {l : List UInt8} {c : UInt8} (h : Lib.indexByte l c < 0) : ∀ b ∈ l, b ≠ c := fun _ hb e => (indexByte_neg l c).1 h (e ▸ hb)
theorem index_end5 (l : List UInt8) (c : UInt8) : Lib.indexByte (l ++ [c]) c = ((l.takeWhile (fun b => b != c)).length : Int) := by
 rw [indexByte_tw, if_pos (by simp)]
 by_cases h : c ∈ l
 · obtain ⟨x, y, rfl, hx⟩ := first_of l c h
   have hp : ∀ b ∈ x, (b != c) = true := fun b hb => by simp [hx b hb]
   rw [List.append_assoc, List.takeWhile_append_of_pos hp, List.takeWhile_append_of_pos hp]
   simp
 · have hp : ∀ b ∈ l, (b != c) = true := fun b hb => by simp only [bne_iff_ne, ne_eq]; exact fun e => h (e ▸ hb)
   rw [List.takeWhile_append_of_pos hp]
   have := (takeWhile_all hp []).1
   rw [List.append_nil] at this
   rw [this]
   simp
theorem take_tw (l : List UInt8) (p : UInt8 → Bool) : l.take (l.takeWhile p).length = l.takeWhile p := by
 have h := List.takeWhile_append_dropWhile (p := p) (l := l)
 generalize List.takeWhile p l = x at h ⊢
 rw [← h, List.take_left]
theorem drop_tw (l : List UInt8) (p : UInt8 → Bool) : l.drop (l.takeWhile p).length = l.dropWhile p := by
 have h := List.takeWhile_append_dropWhile (p := p) (l := l)
 generalize List.takeWhile p l = x at h ⊢
 generalize List.dropWhile p l = y at h ⊢
 rw [← h, List.drop_left]
theorem dw_head (l : List UInt8) (c : UInt8) : l.dropWhile (fun b => b != c) = [] ∨ ∃ t, l.dropWhile (fun b => b != c) = c :: t := by
 cases h : l.dropWhile (fun b => b != c) with
 | nil => exact .inl rfl
 | cons a t =>
  refine .inr ⟨t, ?_⟩
  have := List.head?_dropWhile_not (fun b => b != c) l
  rw [h] at this
  simp at this
  rw [this]
end Go.Proofs.YtpnolbfnmknhlaaDoor

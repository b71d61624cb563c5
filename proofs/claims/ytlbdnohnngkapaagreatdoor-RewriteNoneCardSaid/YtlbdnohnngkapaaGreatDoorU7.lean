import Derived.Test.YtlbdnohnngkapaaGreatDoorU3
import Derived.Laws.RangeString
import Derived.Laws.RangeAny
import Derived.Laws.Runes
import Derived.Lib.IndexAny
import Derived.Lib.OthersKept
import Derived.Shelf.Strings.IndexAnyAll
import Derived.WalkMore
import Derived.Deep.DeepCutAuto
import Derived.Test.YtlbdnohnngkapaaGreatDoorU6
import Derived.Test.YtlbdnohnngkapaaGreatDoorU4
namespace Go.Proofs.YtlbdnohnngkapaaGreatDoor
open Go.RowKit

set_option maxRecDepth 100000 in
set_option maxHeartbeats 1000000 in
/-- A rune beyond ASCII does not stand in ":/". -/
theorem IndexRune_no (t : List UInt8) (ht : t.length = 2) (ht1 : nth t 1 < 128) (r : Int) (w : World) (h128 : 128 ≤ r) (h1 : r ≠ 65533) : Calls Tryz.prog 184 #[str t, .int .i32 r] w fun e w' => e = .returned (.int .i64 (-1)) ∧ Below w.heap.size w w' := by
  have d1 : decide (r < 128) = false := decide_eq_false (by omega)
  have et : (t.length : Int) = 2 := by omega
  have hdr : ∀ x, Lib.indexByte (t.drop 2) x = -1 := fun x => by rw [List.drop_of_length_le (by omega)]; rfl
  have Hdr := Lib.hid hdr
  have HT := Lib.hid ht
  clear hdr ht
  have d0 : decide (0 ≤ r) = true := decide_eq_true (by omega)
  have e1 : (r == 65533) = false := by simpa using h1
  clear h1
  focus
    cases hv : Go.validRune r
    · have hV := fun W => (Go.Proofs.Tryz.utf8_ValidRune r W)
      rw [show Lib.validRune r = false from hv] at hV
      have HV := Lib.hid hV
      clear hV hv
      go_enter Tryz.func184, Tryz.ntmps184
      go_wp2_with fail
      refine (HV.out _).mono ?_
      rintro e w1 ⟨rfl, hw⟩
      rw [hw]
      go_wp2_with fail
      go_ret
      exact ⟨rfl, Below.refl _ _⟩
    · have hV := fun W => (Go.Proofs.Tryz.utf8_ValidRune r W)
      rw [show Lib.validRune r = true from hv] at hV
      have hu : Utf8.valid r = true := by rw [validRune_eq]; exact hv
      obtain ⟨f1, f2, f3⟩ := encode_facts r hu h128
      have HV := Lib.hid hV
      clear hV hv hu
      obtain ⟨l, hl⟩ : ∃ l, l = (Utf8.encode r).data.toList := ⟨_, rfl⟩
      have hsz : l.length = (Utf8.encode r).size := by rw [hl]; exact (Lib.size_eq _).symm
      have hlast : 128 ≤ nth l (l.length - 1) := by
        have := f3 (by omega)
        unfold nth
        rw [List.getD_eq_getElem?_getD, hl, ← hl, hsz, hl, Lib.data_getElem? (Utf8.encode r) _ (by omega)]
        exact this
      have hcv : ∀ W, (convert 21 9 (.int .i32 r)).run Tryz.prog W = .ok (str l) W := fun W => by
        rw [run_convert_int_string W _ _ _ _ (by rw [Tryz.underlying21]; rfl) Tryz.underlying9, str_of, ← hl]
      rw [← hsz] at f1 f2
      clear hsz hl f3
      go_enter Tryz.func184, Tryz.ntmps184
      go_wp2_with fail
      refine (HV.out _).mono ?_
      rintro e w1 ⟨rfl, hw⟩
      rw [hw]
      clear hw
      rcases (by omega : l.length = 2 ∨ l.length = 3 ∨ l.length = 4) with h2 | h2 | h2
      · have hn2 : 128 ≤ nth l 1 := by
          rw [h2] at hlast
          exact hlast
        have hn3 : ((nth l 1 : Nat) : Int) ≠ ((nth t 1 : Nat) : Int) := by omega
        have e3 : (((nth t 1 : Nat) : Int) != ((nth l 1 : Nat) : Int)) = true := by rw [bne_iff_ne]; exact fun e => hn3 e.symm
        have e2 : (l.length : Int) = 2 := by omega
        have hi : ∀ W, Calls Tryz.prog 110 #[str (t.drop 2), .int .u8 (nth l 1 : Nat)] W fun e w' => e = .returned (.int .i64 (-1)) ∧ w' = W := fun W => (IndexByte_any (t.drop 2) (nth l 1) W).mono fun _ _ h => ⟨by rw [h.1, Hdr.out], h.2.symm⟩
        have Hi := Lib.hid hi
        have H2 := Lib.hid h2
        clear h2 hlast f1 f2 hn2 hn3 hi
        go_wp2_with fail
        go_step3
        go_wp2_with fail
        go_loop [9, 10] (fun v9 v10 => v9 = .int .i64 1 ∧ v10 = .int .i64 0) (fun _ _ => 0)
        case atStart => exact ⟨rfl, rfl⟩
        case round =>
          obtain ⟨rfl, rfl⟩ := hrel
          go_wp2_with fail
          go_step3
          go_wp2_with fail
          have i2 : (1 : Nat) < l.length := by have := H2.out; omega
          have i1 : (1 : Nat) < t.length := by have := HT.out; omega
          go_quiet (fail)
          generalize hwq : w.drewN _ = wq
          have hbq : Below w.heap.size w wq := by rw [← hwq]; exact belN (Below.refl _ _) _
          have Hbq := Lib.hid hbq
          clear hwq hbq
          go_wp2_with fail
          have i3 : IntKind.i64.wrap (1 + 1) = 2 := rfl
          have i4 : IntKind.i64.wrap 2 = 2 := rfl
          go_quiet ((go_at_call 110; exact Calls.quiet_of_same (Hi.out _)))
          generalize hwq : wq.drewN _ = wy
          have hby : Below w.heap.size w wy := by rw [← hwq]; exact belN Hbq.out _
          have Hby := Lib.hid hby
          clear hwq hby
          go_wp2_with fail
          rw [Exit.noGoto_ret]
          go_wp2_with fail
          rw [Exit.noGoto_ret]
          go_wp2_with fail
          go_ret
          exact ⟨rfl, Hby.out⟩
      · have e2 : (l.length : Int) = 3 := by omega
        have H2 := Lib.hid h2
        clear h2 hlast f1 f2
        go_wp2_with fail
        go_step3
        go_wp2_with fail
        go_loop [9, 10] (fun v9 v10 => v9 = .int .i64 2 ∧ v10 = .int .i64 0) (fun _ _ => 0)
        case atStart => exact ⟨rfl, rfl⟩
        case round =>
          obtain ⟨rfl, rfl⟩ := hrel
          go_wp2_with fail
          go_ret
          exact ⟨rfl, Below.refl _ _⟩
      · have e2 : (l.length : Int) = 4 := by omega
        have H2 := Lib.hid h2
        clear h2 hlast f1 f2
        go_wp2_with fail
        go_step3
        go_wp2_with fail
        go_loop [9, 10] (fun v9 v10 => v9 = .int .i64 3 ∧ v10 = .int .i64 0) (fun _ _ => 0)
        case atStart => exact ⟨rfl, rfl⟩
        case round =>
          obtain ⟨rfl, rfl⟩ := hrel
          go_wp2_with fail
          go_ret
          exact ⟨rfl, Below.refl _ _⟩
set_option maxRecDepth 100000 in
set_option maxHeartbeats 1000000 in
/-- The rune that stands for a wrong byte does not stand in an ASCII text. -/
theorem IndexRune_err (s : ByteArray) (w : World) (has : ∀ (j : Nat) b, s.data.toList[j]? = some b → b.toNat < 128) : Calls Tryz.prog 184 #[.string s, .int .i32 65533] w fun e w' => e = .returned (.int .i64 (-1)) ∧ Below w.heap.size w w' := by
  have HA := Lib.hid has
  clear has
  go_enter Tryz.func184, Tryz.ntmps184
  go_wp2_with fail
  go_loopg [5, 6] s.size (fun g _ _ wx => ∃ i : Nat, i + g = s.size ∧ wx = w.iter s i)
  case atStart => exact ⟨0, by omega, rfl⟩
  case round =>
    obtain ⟨i, hig, rfl⟩ := hrel
    cases gk with
    | zero =>
      obtain rfl : i = s.size := by omega
      have hnx := fun ty => run_next_end (P := Tryz.prog) w s s.size ty (by omega)
      go_wp2_with fail
      go_ret
      exact ⟨rfl, (Below.refl _ _).alloc (Nat.le_refl _) _⟩
    | succ g =>
      have hi : i < s.size := by omega
      obtain ⟨x, hx⟩ : ∃ x : UInt8, s[i]'hi = x := ⟨_, rfl⟩
      have hx128 : x.toNat < 128 := HA.out i x (by rw [← hx]; exact Lib.data_getElem? s i hi)
      have hnx := fun ty => run_next_ascii (P := Tryz.prog) w s i ty hi (by rw [hx]; exact hx128)
      rw [hx] at hnx
      have ex : ((x.toNat : Int) == 65533) = false := by simp; omega
      clear hx
      go_wp2_with fail
      go_roundg g
      case measure => omega
      case rel => exact ⟨i + 1, by omega, rfl⟩
theorem decode_rest (s : ByteArray) (pos k : Nat) (h1 : 1 ≤ k) (h2 : k < (Utf8.decode s pos).2) : pos + k < s.size ∧ 128 ≤ (s.get! (pos + k)).toNat := by
  simp only [Utf8.decode] at h2
  repeat' split at h2
  all_goals first | omega | skip
  all_goals
    simp_all
    rcases (by omega : k = 1 ∨ k = 2 ∨ k = 3) with rfl | rfl | rfl <;> omega
theorem rune_miss (r : Nat) (W : World) (h58 : r ≠ 58) (h47 : r ≠ 47) : Calls Tryz.prog 184 #[.string ⟨#[58, 47]⟩, .int .i32 (r : Int)] W fun e w' => e = .returned (.int .i64 (-1)) ∧ Below W.heap.size W w' := by
  rcases Nat.lt_or_ge r 128 with h | h
  · refine (Go.Proofs.Tryz.strings_IndexRune_ascii ⟨#[58, 47]⟩ (r : Int) W (by omega) (by omega)).mono ?_
    rintro e w' ⟨rfl, rfl⟩
    refine ⟨?_, Below.refl _ _⟩
    have e1 : ((r : Int)).toNat.toUInt8 = UInt8.ofNat r := rfl
    rw [e1]
    have hz : (UInt8.ofNat r).toNat = r := by rw [UInt8.toNat_ofNat']; omega
    have : Lib.indexByte [58, 47] (UInt8.ofNat r) < 0 := by
      rw [indexByte_neg]
      simp only [List.mem_cons, List.not_mem_nil, or_false, not_or]
      exact ⟨fun e => h58 (by rw [← hz, e]; rfl), fun e => h47 (by rw [← hz, e]; rfl)⟩
    have h2 := Lib.indexByte_ge [58, 47] (UInt8.ofNat r)
    show Ending.returned (.int .i64 (Lib.indexByte [58, 47] (UInt8.ofNat r))) = _
    rw [show Lib.indexByte [58, 47] (UInt8.ofNat r) = -1 by omega]
  · rcases Nat.lt_or_ge r 65533 with h2 | h2
    · exact IndexRune_no [58, 47] rfl (by decide) (r : Int) W (by omega) (by omega)
    · rcases (by omega : r = 65533 ∨ 65533 < r) with rfl | h3
      · exact IndexRune_err ⟨#[58, 47]⟩ W (by
          intro j b hj
          match j, hj with
          | 0, hj => simp at hj; subst hj; decide
          | 1, hj => simp at hj; subst hj; decide)
      · exact IndexRune_no [58, 47] rfl (by decide) (r : Int) W (by omega) (by omega)
theorem rune_hit (r : Nat) (W : World) (h : r = 58 ∨ r = 47) : Calls Tryz.prog 184 #[.string ⟨#[58, 47]⟩, .int .i32 (r : Int)] W fun e w' => e = .returned (.int .i64 (if r = 58 then 0 else 1)) ∧ Below W.heap.size W w' := by
  refine (Go.Proofs.Tryz.strings_IndexRune_ascii ⟨#[58, 47]⟩ (r : Int) W (by omega) (by omega)).mono ?_
  rintro e w' ⟨rfl, rfl⟩
  refine ⟨?_, Below.refl _ _⟩
  rcases h with rfl | rfl <;> rfl
theorem zero_set : ∀ w, (zeroValue 171).run Tryz.prog w = .ok (.agg (Array.replicate 256 (.bool false))) w :=
  have h : (Tryz.prog.info? 171).map (fun i => (i.zero, i.size)) = some (some (.agg (Array.replicate 256 (.bool false))), 256) := by kernel_rfl
  (zero_of_info h).1
set_option maxRecDepth 100000 in
set_option maxHeartbeats 1000000 in
theorem IndexAny_short (l : List UInt8) (w : World) (hl : l.length ≤ 8) : Calls Tryz.prog 106 #[str l, .string ⟨#[58, 47]⟩] w fun e w' => e = .returned (.int .i64 (Lib.indexAny l [58, 47])) ∧ Below w.heap.size w w' := by
  obtain ⟨s, hs⟩ : ∃ s : ByteArray, s = ⟨l.toArray⟩ := ⟨_, rfl⟩
  have hsd : s.data.toList = l := by rw [hs]
  have hsz : s.size = l.length := by rw [Lib.size_eq, hsd]
  have hstr : str l = .string s := by rw [hs]; rfl
  rw [hstr, ← hsd]
  clear hstr hs
  have h8 : s.size ≤ 8 := by omega
  clear hl hsd hsz l
  have h8z : decide ((8 : Int) < (s.size : Int)) = false := decide_eq_false (by omega)
  have hU : ∀ W, Calls Tryz.prog 185 #[.int .i64 s.size] W fun e w' => e = .returned (.bool false) ∧ W = w' := fun W => by
    refine (Go.Proofs.Tryz.strings_shouldUseASCIISet s.size W).mono ?_
    rintro e w' ⟨rfl, rfl⟩
    exact ⟨by rw [h8z], rfl⟩
  have HU := Lib.hid hU
  clear hU h8z
  go_enter Tryz.func106, Tryz.ntmps106
  go_wp2_with fail
  refine (HU.out _).mono ?_
  rintro e w1 ⟨rfl, rfl⟩
  go_wp2_with fail
  go_loopg [9, 10] s.size (fun g _ _ wx => ∃ pos : Nat, s.size ≤ pos + g ∧ wx.heap[w.heap.size]? = some (.stringIter s pos) ∧ Below w.heap.size w wx ∧ Hid (Lib.NoAny s.data.toList [58, 47] pos))
  case atStart => exact ⟨0, by omega, World.iter_heap w s 0, (Below.refl _ w).alloc (Nat.le_refl _) _, Lib.NoAny.zero _ _⟩
  case round =>
    obtain ⟨pos, hfu, hit, hbw, hno⟩ := hrel
    by_cases hps : pos < s.size
    · obtain ⟨g', rfl⟩ : ∃ g', gk = g' + 1 := ⟨gk - 1, by omega⟩
      have hdl := Lib.data_getElem? s pos hps
      have hdh := decode_high s pos hps
      have hda := decode_ascii s pos hps
      have hdr := decode_rest s pos
      have hnx : ∀ ty, (Instr.next (.pointer (some ⟨w.heap.size, 0, none⟩)) true ty).run Tryz.prog wr = _ := fun ty => Lib.run_next_any_at wr w.heap.size s pos ty hit hps
      generalize hd : Utf8.decode s pos = d at hdh hda hnx hdr
      obtain ⟨R, K⟩ := d
      simp only at hdh hnx hdr
      have hit2 := Lib.iterAt_heap wr w.heap.size s pos (pos + K) hit
      have hbw2 := Lib.below_iterAt hbw (k := w.heap.size) (Nat.le_refl _) s (pos + K)
      obtain ⟨W, hWd⟩ : ∃ W, wr.iterAt w.heap.size s (pos + K) = W := ⟨_, rfl⟩
      rw [hWd] at hnx hit2 hbw2
      generalize s[pos] = x at hdl hdh hda
      clear hd hWd
      have Hno := hno
      by_cases hhit : x = 58 ∨ x = 47
      · have hx : x.toNat < 128 := by rcases hhit with rfl | rfl <;> decide
        have hR : R = x.toNat := by have := hda hx; injection this
        have hR2 : R = 58 ∨ R = 47 := by rcases hhit with rfl | rfl <;> simp [hR]
        have hres : Lib.indexAny s.data.toList [58, 47] = pos := Lib.indexAny_hit hno.out hdl (by rcases hhit with rfl | rfl <;> rfl)
        have HC := Lib.hid (fun W => rune_hit R W hR2)
        have hv : 0 ≤ (if R = 58 then (0 : Int) else 1) := by split <;> omega
        generalize (if R = 58 then (0 : Int) else 1) = v at HC hv
        have Hres := Lib.hid hres
        have Hbw2 := Lib.hid hbw2
        clear hdh hda hdr hdl hhit hx hR hR2 hres hno Hno hit hbw hit2 hbw2
        go_wp2_with fail
        refine (HC.out _).mono ?_
        rintro e w2 ⟨rfl, hb2⟩
        have Hb2 := Lib.hid (Hbw2.out.trans (hb2.mono Hbw2.out.size))
        clear hb2
        go_wp2_with fail
        go_ret
        exact ⟨by rw [Hres.out]; rfl, Hb2.out⟩
      · have hK : 1 ≤ K := by
          rcases Nat.lt_or_ge x.toNat 128 with h | h
          · have := hda h; injection this with _ h2; omega
          · exact (hdh h).2
        have hR : R ≠ 58 ∧ R ≠ 47 := by
          rcases Nat.lt_or_ge x.toNat 128 with h | h
          · have h1 := hda h
            injection h1 with h1 _
            rw [h1]
            exact ⟨fun e => hhit (.inl (UInt8.toNat_inj.1 e)), fun e => hhit (.inr (UInt8.toNat_inj.1 e))⟩
          · have := (hdh h).1; omega
        have hno2 : Lib.NoAny s.data.toList [58, 47] (pos + K) := by
          intro j b hj hb
          rcases Nat.lt_or_ge j pos with h1 | h1
          · exact hno.out j b h1 hb
          · rcases (by omega : j = pos ∨ pos < j) with rfl | h2
            · rw [hdl] at hb
              injection hb with hb
              subst hb
              simp only [not_or] at hhit
              simp [hhit.1, hhit.2]
            · obtain ⟨q1, q2⟩ := hdr (j - pos) (by omega) (by omega)
              rw [show pos + (j - pos) = j by omega] at q1 q2
              rw [Lib.data_getElem? s j q1] at hb
              injection hb with hb
              have hb2 : 128 ≤ b.toNat := by rw [← hb]; have := get_at s j q1; rw [Nat.add_zero] at this; rw [← this]; exact q2
              have e1 : b ≠ 58 := fun e => by rw [e] at hb2; exact absurd hb2 (by decide)
              have e2 : b ≠ 47 := fun e => by rw [e] at hb2; exact absurd hb2 (by decide)
              simp [e1, e2]
        have HC := Lib.hid (fun W => rune_miss R W hR.1 hR.2)
        have Hno2 := Lib.hid hno2
        have Hbw2 := Lib.hid hbw2
        have Hit2 := Lib.hid hit2
        clear hdh hda hdr hdl hhit hR hno Hno hit hbw hno2 hbw2 hit2
        go_wp2_with fail
        refine (HC.out _).mono ?_
        rintro e w2 ⟨rfl, hb2⟩
        have Hit3 := Lib.hid ((hb2.block w.heap.size (Array.getElem?_eq_some_iff.1 Hit2.out).1).trans Hit2.out)
        have Hb2 := Lib.hid (Hbw2.out.trans (hb2.mono Hbw2.out.size))
        clear hb2
        go_wp2_with fail
        go_roundg g'
        case measure => omega
        case rel => exact ⟨pos + K, by omega, Hit3.out, Hb2.out, Hno2.out⟩
    · have hnx : ∀ ty, (Instr.next (.pointer (some ⟨w.heap.size, 0, none⟩)) true ty).run Tryz.prog wr = _ := fun ty => Lib.run_next_end_at wr w.heap.size s pos ty hit hps
      have hres : Lib.indexAny s.data.toList [58, 47] = -1 := Lib.indexAny_none (fun j b hj hb => hno.out j b (by rw [← Lib.size_eq] at hj; omega) hb)
      have Hres := Lib.hid hres
      clear hres hno hit
      go_wp2_with fail
      go_ret
      exact ⟨by rw [Hres.out]; rfl, hbw⟩
theorem IndexAny_cs (l : List UInt8) (w : World) (hl : l.length ≤ 1000000) : Calls Tryz.prog 106 #[str l, .string ⟨#[58, 47]⟩] w fun e w' => e = .returned (.int .i64 (Lib.indexAny l [58, 47])) ∧ Below w.heap.size w w' := by
  rcases Nat.lt_or_ge 8 l.length with h | h
  · have hsz : (⟨l.toArray⟩ : ByteArray).size = l.length := by simp [ByteArray.size]
    refine (Go.Proofs.Tryz.strings_IndexAny_long zero_set ⟨l.toArray⟩ ⟨#[58, 47]⟩ w (by decide) (by rw [hsz]; exact h) (by rw [hsz]; omega) (by decide) ?_).mono ?_
    · intro j b hj
      match j, hj with
      | 0, hj => simp at hj; subst hj; decide
      | 1, hj => simp at hj; subst hj; decide
    · rintro e w' ⟨rfl, rfl⟩
      exact ⟨rfl, ((Below.refl _ w).alloc (Nat.le_refl _) _).alloc (by simp) _⟩
  · exact IndexAny_short l w h
end Go.Proofs.YtlbdnohnngkapaaGreatDoor

namespace Go.Proofs.YtlbdnohnngkapaaGreatDoor
open Go.RowKit

def hostU (r : List UInt8) (u : UrlD) : UrlD := { u with hasHost := (hostP r).1, host := (hostP r).2.1, path := (hostP r).2.2 }
def finU (r : List UInt8) (u : UrlD) : UrlD × Nat := if checkU (hostU r u) = 0 then (hostU r u, 0) else (zeroU, checkU (hostU r u))
theorem readU_fin {s s1 s2 fr qu sc r : List UInt8} {hf hq : Bool} (hl : ¬ 120 < s.length) (h1 : Lib.cut s [35] = (s1, fr, hf)) (h2 : Lib.cut s1 [63] = (s2, qu, hq)) (h3 : schemeP s2 = some (sc, r)) :
    readU s = finU r ⟨sc, false, [], [], hq, qu, hf, fr⟩ := by
  unfold readU
  rw [if_neg hl]
  have : partsU s = some (hostU r ⟨sc, false, [], [], hq, qu, hf, fr⟩) := by
    unfold partsU
    rw [h1]
    simp only
    rw [h2]
    simp only
    rw [h3]
    rfl
  rw [this]
  rfl
theorem readU_none {s s1 s2 fr qu : List UInt8} {hf hq : Bool} (hl : ¬ 120 < s.length) (h1 : Lib.cut s [35] = (s1, fr, hf)) (h2 : Lib.cut s1 [63] = (s2, qu, hq)) (h3 : schemeP s2 = none) : readU s = (zeroU, 1) := by
  unfold readU
  rw [if_neg hl]
  have : partsU s = none := by
    unfold partsU
    rw [h1]
    simp only
    rw [h2]
    simp only
    rw [h3]
  rw [this]
theorem CutPrefix_two (l : List UInt8) (w : World) : Calls Tryz.prog 109 #[str l, .string ⟨#[47, 47]⟩] w fun e w' => e = .returned (.tuple #[str (if Lib.hasPrefix l [47, 47] then l.drop 2 else l), .bool (Lib.hasPrefix l [47, 47])]) ∧ w = w' := by
  refine (Go.Proofs.Tryz.strings_CutPrefix ⟨l.toArray⟩ ⟨#[47, 47]⟩ w).mono ?_
  rintro e w1 ⟨rfl, rfl⟩
  exact ⟨rfl, rfl⟩
set_option maxRecDepth 100000 in
set_option maxHeartbeats 4000000 in
theorem Parse_any (s : List UInt8) (w : World) (hs : s.length ≤ maxLen) :
    Calls Tryz.prog 41 #[str s] w fun e w' => e = .returned (.tuple #[(readU s).1.val, .int .i64 ((readU s).2 : Nat)]) ∧ Below w.heap.size w w' := by
  by_cases hl : 120 < s.length
  · have hr : readU s = (zeroU, 2) := by unfold readU; rw [if_pos hl]
    rw [hr]
    have d0 : decide (120 < (s.length : Int)) = true := decide_eq_true (by omega)
    clear hl
    go_enter Tryz.func41, Tryz.ntmps41
    go_wp2_with fail
    refine bodyPost_ret (v := .tuple #[zeroU.val, .int .i64 2]) (by simp [results, Tryz.results41, go_sem]; rfl) rfl ⟨rfl, ?_⟩
    exact (Below.refl _ w).alloc (Nat.le_refl _) _
  · have d0 : decide (120 < (s.length : Int)) = false := decide_eq_false (by omega)
    have k1 := fun W => Cut_one s 35 W hs
    have hl1 : (Lib.cut s [35]).1.length ≤ s.length := by rw [cut_tw]; exact (List.takeWhile_sublist _).length_le
    rcases h1 : Lib.cut s [35] with ⟨s1, fr, hf⟩
    rw [h1] at k1 hl1
    have hs1 : s1.length ≤ maxLen := by unfold maxLen at hs ⊢; simp only at hl1; omega
    have k2 := fun W => Cut_one s1 63 W hs1
    have hl2 : (Lib.cut s1 [63]).1.length ≤ s1.length := by rw [cut_tw]; exact (List.takeWhile_sublist _).length_le
    rcases h2 : Lib.cut s1 [63] with ⟨s2, qu, hq⟩
    rw [h2] at k2 hl2
    have K1 := Lib.hid k1
    have K2 := Lib.hid k2
    have H1 := Lib.hid h1
    have H2 := Lib.hid h2
    clear k1 k2 h1 h2
    obtain ⟨rr, hrr⟩ : ∃ rr, rr = readU s := ⟨_, rfl⟩
    rw [← hrr]
    have HRR := Lib.hid hrr
    clear hrr
    go_enter Tryz.func41, Tryz.ntmps41
    go_wp2_with fail
    obtain ⟨W, hW⟩ : ∃ W, W = (w.alloc (.cells #[.string ⟨#[]⟩, .bool false, .string ⟨#[]⟩, .string ⟨#[]⟩, .bool false, .string ⟨#[]⟩, .bool false, .string ⟨#[]⟩] 66)).alloc (.cells #[.string ⟨#[]⟩, .bool false, .string ⟨#[]⟩, .string ⟨#[]⟩, .bool false, .string ⟨#[]⟩, .bool false, .string ⟨#[]⟩] 66) := ⟨_, rfl⟩
    rw [← hW]
    have hP : PB w W zeroU zeroU := by
      rw [hW]
      have hb : Below w.heap.size w ((w.alloc (.cells #[.string ⟨#[]⟩, .bool false, .string ⟨#[]⟩, .string ⟨#[]⟩, .bool false, .string ⟨#[]⟩, .bool false, .string ⟨#[]⟩] 66))) := (Below.refl _ w).alloc (Nat.le_refl _) _
      refine ⟨hb.alloc (by simp) _, (UB.new w zeroU).below ((Below.refl _ _).alloc (Nat.le_refl _) _), ?_⟩
      have := UB.new (w.alloc (.cells #[.string ⟨#[]⟩, .bool false, .string ⟨#[]⟩, .string ⟨#[]⟩, .bool false, .string ⟨#[]⟩, .bool false, .string ⟨#[]⟩] 66)) zeroU
      rw [show (w.alloc (.cells #[.string ⟨#[]⟩, .bool false, .string ⟨#[]⟩, .string ⟨#[]⟩, .bool false, .string ⟨#[]⟩, .bool false, .string ⟨#[]⟩] 66)).heap.size = w.heap.size + 1 by simp] at this
      exact this
    clear hW
    refine (K1.out _).mono ?_
    rintro e w1 ⟨rfl, q, rfl⟩
    have hP1 := hP.drewN q
    have y7 := hP1.own.box.2.2.2.2.2.2.2
    have f7 := hP1.own.fz 7
    have y6 := hP1.own.box.2.2.2.2.2.2.1
    have f6 := (hP1.s7 fr).own.fz 6
    have y6 := (hP1.s7 fr).own.box.2.2.2.2.2.2.1
    have HP2 := Lib.hid ((hP1.s7 fr).s6 hf)
    clear hP hP1
    go_wp2_with fail
    clear y6 y7 f6 f7
    generalize hw2 : World.setCell _ _ _ = w2
    have hP2 := HP2.out
    rw [hw2] at hP2
    clear hw2 HP2
    refine (K2.out _).mono ?_
    rintro e w3 ⟨rfl, q3, rfl⟩
    have hP3 := hP2.drewN q3
    have y5 := hP3.own.box.2.2.2.2.2.1
    have f5 := hP3.own.fz 5
    have f4 := (hP3.s5 qu).own.fz 4
    have y4 := (hP3.s5 qu).own.box.2.2.2.2.1
    have HP4 := Lib.hid ((hP3.s5 qu).s4 hq)
    clear hP2 hP3
    go_wp2_with fail
    clear y4 y5 f4 f5
    generalize hw4 : World.setCell _ _ _ = w4
    have hP4 := HP4.out
    rw [hw4] at hP4
    clear hw4 HP4
    have hl3 : s2.length ≤ 120 := by have a1 : s1.length ≤ s.length := hl1; have a2 : s2.length ≤ s1.length := hl2; omega
    obtain ⟨u1, hu1⟩ : ∃ u1 : UrlD, u1 = ⟨[], false, [], [], hq, qu, hf, fr⟩ := ⟨_, rfl⟩
    have hP5 : PB w w4 zeroU u1 := by rw [hu1]; exact hP4
    clear hP4
    have kA := IndexAny_cs s2 w4 (by omega)
    rw [indexAny_tw] at kA
    have HL := Lib.hid hl
    have Hu1 := Lib.hid hu1
    clear hl hu1 hl1 hl2 hs1 hs
    by_cases hd : (s2.dropWhile stopCS).head? = some 58
    · obtain ⟨r, hr⟩ : ∃ r, s2.dropWhile stopCS = 58 :: r := by
        cases h : s2.dropWhile stopCS with
        | nil => rw [h] at hd; cases hd
        | cons a t => rw [h] at hd; injection hd with hd; subst hd; exact ⟨t, rfl⟩
      obtain ⟨p1, p2, p3, p4⟩ := place_cs hr
      rw [hr, if_neg (by simp)] at kA
      have hsP : schemeP s2 = (if (s2.takeWhile stopCS) = [] ∨ schemeU (lowL (s2.takeWhile stopCS)) = false then none else some (lowL (s2.takeWhile stopCS), r)) := by
        unfold schemeP
        rw [if_pos hd, hr]
        rfl
      generalize hk : (s2.takeWhile stopCS).length = k at p1 p2 p3 p4 kA
      generalize s2.takeWhile stopCS = tw at p3 hsP hk
      have e58 : ((nth s2 k : Int) == 58) = true := by rw [p2]; rfl
      have KA := Lib.hid kA
      have P4 := Lib.hid p4
      have HsP := Lib.hid hsP
      clear kA p2 p4 hsP hr hd
      refine KA.out.mono ?_
      rintro e w5 ⟨rfl, hb5⟩
      have hP6 := hP5.below hb5
      clear hP5 hb5 KA
      by_cases hk0 : k = 0
      · have ek : ((k : Int) == 0) = true := by simp [hk0]
        have hR := HRR.out.trans (readU_none HL.out H1.out H2.out (by rw [HsP.out, if_pos (.inl (List.eq_nil_of_length_eq_zero (by rw [hk, hk0])))]))
        have HR := Lib.hid hR
        clear hR hk0 hk p3
        obtain ⟨y0, y1, y2, y3, y4, y5, y6, y7⟩ := hP6.res.box
        obtain ⟨f0, f1, f2, f3, f4, f5, f6, f7⟩ := hP6.fzr
        have HF := Lib.hid (hP6.fill zeroU)
        clear hP6
        go_wp2_with fail
        clear y0 y1 y2 y3 y4 y5 y6 y7 f0 f1 f2 f3 f4 f5 f6 f7
        generalize hwz : World.setCell _ _ _ = wz
        have hPz := HF.out
        have hPz2 : PB w wz zeroU u1 := by rw [← hwz]; exact hPz
        obtain ⟨c0, c1, c2, c3, c4, c5, c6, c7⟩ := hPz2.res.box
        have hrr := HR.out
        subst hrr
        refine bodyPost_ret (v := .tuple #[zeroU.val, .int .i64 1]) (by simp [results, Tryz.results41, go_sem, c0, c1, c2, c3, c4, c5, c6, c7]; try rfl) rfl ⟨rfl, hPz2.bel⟩
      · have ek : ((k : Int) == 0) = false := by simp; omega
        have hne : tw ≠ [] := fun e => hk0 (by rw [← hk, e]; rfl)
        have kL : ∀ W, Calls Tryz.prog 108 #[str (s2.take k)] W fun e w' => e = .returned (str (lowL tw)) ∧ Below W.heap.size W w' := fun W => by
          have h := lowerU_any (s2.take k) W (by rw [List.length_take]; unfold maxLen; omega)
          rw [show lowL (s2.take k) = lowL tw by rw [p3]] at h
          exact h
        have kS := fun W => schemeU_any (lowL (s2.take k)) W (by simp only [lowL, List.length_map, List.length_take]; unfold maxLen; omega)
        rw [p3] at kS
        have KL := Lib.hid kL
        have P3 := Lib.hid p3
        have k1 : k ≤ s2.length := by omega
        have Hne := Lib.hid hne
        clear hne hk0 hk kL p3
        cases hsc : schemeU (lowL tw)
        · rw [hsc] at kS
          have hR := HRR.out.trans (readU_none HL.out H1.out H2.out (by rw [HsP.out, if_pos (.inr hsc)]))
          have HR := Lib.hid hR
          have KS := Lib.hid kS
          clear hR kS hsc
          go_wp2_with fail
          refine (KL.out _).mono ?_
          rintro e w6 ⟨rfl, hb6⟩
          have hP7 := hP6.below hb6
          clear hP6 hb6
          go_wp2_with fail
          refine (KS.out _).mono ?_
          rintro e w7 ⟨rfl, hb7⟩
          have hP6 := hP7.below hb7
          clear hP7 hb7
          obtain ⟨y0, y1, y2, y3, y4, y5, y6, y7⟩ := hP6.res.box
          obtain ⟨f0, f1, f2, f3, f4, f5, f6, f7⟩ := hP6.fzr
          have HF := Lib.hid (hP6.fill zeroU)
          clear hP6
          go_wp2_with fail
          clear y0 y1 y2 y3 y4 y5 y6 y7 f0 f1 f2 f3 f4 f5 f6 f7
          generalize hwz : World.setCell _ _ _ = wz
          have hPz := HF.out
          have hPz2 : PB w wz zeroU u1 := by rw [← hwz]; exact hPz
          obtain ⟨c0, c1, c2, c3, c4, c5, c6, c7⟩ := hPz2.res.box
          have hrr := HR.out
          subst hrr
          refine bodyPost_ret (v := .tuple #[zeroU.val, .int .i64 1]) (by simp [results, Tryz.results41, go_sem, c0, c1, c2, c3, c4, c5, c6, c7]; try rfl) rfl ⟨rfl, hPz2.bel⟩
        · rw [hsc] at kS
          have hR := HRR.out.trans (readU_fin HL.out H1.out H2.out (show schemeP s2 = some (lowL tw, r) by rw [HsP.out, if_neg (by rw [hsc]; simp [Hne.out])]))
          have KS := Lib.hid kS
          have HR := Lib.hid hR
          clear kS hsc hR
          go_wp2_with fail
          refine (KL.out _).mono ?_
          rintro e w6 ⟨rfl, hb6⟩
          have hP7 := hP6.below hb6
          clear hP6 hb6
          go_wp2_with fail
          refine (KS.out _).mono ?_
          rintro e w7 ⟨rfl, hb7⟩
          have hP6 := hP7.below hb7
          clear hP7 hb7
          go_wp2_with fail
          have k0 : (0 : Int) ≤ (k : Int) := Int.natCast_nonneg _
          have k2 : (k : Int) ≤ (s2.length : Int) := by omega
          have k3 : IntKind.i64.wrap ((k : Int) + 1) = (k : Int) + 1 := IntWalk.i64_in _ (by omega)
          have k4 : (0 : Int) ≤ (k : Int) + 1 := by omega
          have k5 : ((k : Int) + 1).toNat = k + 1 := by omega
          have k6 : (k : Int) + 1 ≤ (s2.length : Int) := by omega
          refine wp_region_held (S := fun W' => ∃ u, PB w W' zeroU u) (by kernel_rfl) ?_
          change wpAnyH _ _ _ _ _ _ _ _ (World.drew w7)
          have hQ : PB w (World.drew w7) zeroU u1 := hP6.drew
          have hS : ∃ u, PB w (World.drew w7) zeroU u := ⟨_, hQ⟩
          refine wpAnyH_take (i := 0) (v := ?_) rfl (by kernel_rfl) (by kernel_rfl) (by kernel_rfl) (fun _ _ _ h => h) (Or.inl ⟨by kernel_rfl, ?_⟩) hS ?_
          rotate_left 1
          · intro W' hb; go_simp; try exact rfl
          refine wpAnyH_take (i := 1) (v := ?_) rfl (by kernel_rfl) (by kernel_rfl) (by kernel_rfl) (fun _ _ _ h => h) (Or.inl ⟨by kernel_rfl, ?_⟩) hS ?_
          rotate_left 1
          · intro W' hb; go_simp; try exact rfl
          refine wpAnyH_take (i := 2) (v := ?_) rfl (by kernel_rfl) (by kernel_rfl) (by kernel_rfl) (fun _ _ _ h => h) (Or.inl ⟨by kernel_rfl, ?_⟩) hS ?_
          rotate_left 1
          · intro W' hb; go_simp; try exact rfl
          refine wpAnyH_take (i := 4) (v := ?_) rfl (by kernel_rfl) (by kernel_rfl) (by kernel_rfl) (fun _ _ _ h => h) (Or.inl ⟨by kernel_rfl, ?_⟩) hS ?_
          rotate_left 1
          · intro W' hb; go_simp; try exact rfl
          refine wpAnyH_take (i := 5) (v := ?_) rfl (by kernel_rfl) (by kernel_rfl) (by kernel_rfl) (fun _ _ _ h => h) (Or.inl ⟨by kernel_rfl, ?_⟩) hS ?_
          rotate_left 1
          · intro W' hb; go_simp; try exact rfl
          refine wpAnyH_take (i := 6) (v := ?_) rfl (by kernel_rfl) (by kernel_rfl) (by kernel_rfl) (fun _ _ _ h => h) (Or.inl ⟨by kernel_rfl, ?_⟩) hS ?_
          rotate_left 1
          · intro W' hb; go_simp; try exact rfl
          refine wpAnyH_take (i := 7) (v := ?_) rfl (by kernel_rfl) (by kernel_rfl) (by kernel_rfl) (fun _ _ _ h => h) (Or.inl ⟨by kernel_rfl, ?_⟩) hS ?_
          rotate_left 1
          · intro W' hb; go_simp; try exact rfl
          refine wpAnyH_all (rs := [3]) (by kernel_rfl) (by simp) ?_
          intro kk hkk
          simp only [List.mem_singleton] at hkk
          subst hkk
          go_simp
          refine wpOp_call rfl (by kernel_rfl) 108 #[str (s2.take k)] (by go_simp) _ _ (KL.out _) ?_
          intro w8 hb8
          have hQ := hQ.below hb8
          have hS : ∃ u, PB w w8 zeroU u := ⟨_, hQ⟩
          clear hb8
          refine ⟨hS, ?_⟩
          refine wpAnyH_take (i := 8) (v := ?_) rfl (by kernel_rfl) (by kernel_rfl) (by kernel_rfl) (fun _ _ _ h => h) (Or.inl ⟨by kernel_rfl, ?_⟩) hS ?_
          rotate_left 1
          · intro W' hb; go_simp; try exact rfl
          refine wpAnyH_all (rs := [9]) (by kernel_rfl) (by simp) ?_
          intro kk hkk
          simp only [List.mem_singleton] at hkk
          subst hkk
          go_simp
          have y0 := hQ.own.box.1
          have f0 := hQ.own.fz 0
          refine wpOp_store rfl (by kernel_rfl) (w8.setCell ⟨w.heap.size + 1, 0, none⟩ (str (lowL tw))) (by go_simp) ?_
          have hQ := hQ.s0 (lowL tw)
          have hS : ∃ u, PB w (w8.setCell ⟨w.heap.size + 1, 0, none⟩ (str (lowL tw))) zeroU u := ⟨_, hQ⟩
          clear y0 f0
          refine ⟨hS, ?_⟩
          refine wpAnyH_take (i := 10) (v := ?_) rfl (by kernel_rfl) (by kernel_rfl) (by kernel_rfl) (fun _ _ _ h => h) (Or.inl ⟨by kernel_rfl, ?_⟩) hS ?_
          rotate_left 1
          · intro W' hb; go_simp; try exact rfl
          refine wpAnyH_done (by kernel_rfl) ?_ _
          go_simp
          go_wp2_with fail
          rw [P4.out]
          generalize hwA : World.setCell _ _ _ = wA
          rw [hwA] at hQ
          obtain ⟨uA, huA⟩ : ∃ uA : UrlD, uA = ⟨lowL tw, false, [], [], hq, qu, hf, fr⟩ := ⟨_, rfl⟩
          have hPA : PB w wA zeroU uA := by rw [huA]; rw [Hu1.out] at hQ; exact hQ
          have hR := HR.out
          rw [← huA] at hR
          have HU : Hid (uA.hasHost = false ∧ uA.host = []) := by rw [huA]; exact ⟨rfl, rfl⟩
          have hrl : r.length ≤ 120 := by rw [← P4.out, List.length_drop]; omega
          have HR := Lib.hid hR
          clear hwA hQ hS hP6 huA hR k0 k1 k2 k3 k4 k5 k6 KL KS P3 P4 HsP Hne ek e58 p1 Hu1
          cases hp : Lib.hasPrefix r [47, 47]
          · skip
            have kC := CutPrefix_two r wA
            rw [hp] at kC
            simp only [Bool.false_eq_true, if_false] at kC
            have hH : hostU r uA = { uA with path := r } := by
              obtain ⟨h1, h2⟩ := HU.out
              unfold hostU hostP
              rw [hp]
              simp only [Bool.false_eq_true, if_false]
              rw [← h1, ← h2]
            have hR2 : rr = (if checkU { uA with path := r } = 0 then ({ uA with path := r }, 0) else (zeroU, checkU { uA with path := r })) := by
              rw [HR.out]
              unfold finU
              rw [hH]
            have HR2 := Lib.hid hR2
            clear hH hR2 hp
            refine kC.mono ?_
            rintro e wx ⟨rfl, rfl⟩
            clear kC
            obtain ⟨y0, y1, y2, y3, y4, y5, y6, y7⟩ := hPA.own.box
            have f3 := hPA.own.fz 3
            have HQ := Lib.hid (hPA.s3 r)
            clear hPA
            go_wp2_with fail
            clear y0 y1 y2 y3 y4 y5 y6 y7 f3
            generalize hwB : World.setCell _ _ _ = wB
            have hPB := HQ.out
            rw [hwB] at hPB
            have kK := Check_any { uA with path := r } wB
            have hR2 := HR2.out
            obtain ⟨uB, huB⟩ : ∃ uB : UrlD, uB = { uA with path := r } := ⟨_, rfl⟩
            have kK : Calls Tryz.prog 111 #[.agg #[str uA.scheme, .bool uA.hasHost, str uA.host, str r, .bool uA.hasQuery, str uA.query, .bool uA.hasFrag, str uA.frag]] wB fun e w' => e = .returned (.int .i64 (checkU uB : Nat)) ∧ Below wB.heap.size wB w' := by rw [huB]; exact kK
            rw [← huB] at hPB hR2
            clear HQ HR2 hwB huB
            by_cases hc : checkU uB = 0
            · skip
              have KK := Lib.hid hc
              have hR3 := hR2.trans (if_pos hc)
              rw [hc] at kK
              have HR3 := Lib.hid hR3
              clear hc hR2 hR3
              refine kK.mono ?_
              rintro e wC ⟨rfl, hbC⟩
              have hPC := hPB.below hbC
              clear hPB hbC kK
              obtain ⟨c0, c1, c2, c3, c4, c5, c6, c7⟩ := hPC.own.box
              obtain ⟨y0, y1, y2, y3, y4, y5, y6, y7⟩ := hPC.res.box
              obtain ⟨f0, f1, f2, f3, f4, f5, f6, f7⟩ := hPC.fzr
              have HF := Lib.hid (hPC.fill uB)
              clear hPC
              go_wp2_with fail
              clear y0 y1 y2 y3 y4 y5 y6 y7 f0 f1 f2 f3 f4 f5 f6 f7 c0 c1 c2 c3 c4 c5 c6 c7
              generalize hwz : World.setCell _ _ _ = wz
              have hPz := HF.out
              rw [hwz] at hPz
              obtain ⟨c0, c1, c2, c3, c4, c5, c6, c7⟩ := hPz.res.box
              have hrr := HR3.out
              subst hrr
              refine bodyPost_ret (v := .tuple #[uB.val, .int .i64 0]) (by simp [results, Tryz.results41, go_sem, c0, c1, c2, c3, c4, c5, c6, c7]; try rfl) rfl ⟨rfl, hPz.bel⟩
            · skip
              have hR3 := hR2.trans (if_neg hc)
              generalize checkU uB = kk at kK hc hR3
              have ekk : ((kk : Int) != 0) = true := by simp; omega
              have HR3 := Lib.hid hR3
              clear hc hR2 hR3
              refine kK.mono ?_
              rintro e wC ⟨rfl, hbC⟩
              have hPC := hPB.below hbC
              clear hPB hbC kK
              obtain ⟨y0, y1, y2, y3, y4, y5, y6, y7⟩ := hPC.res.box
              obtain ⟨f0, f1, f2, f3, f4, f5, f6, f7⟩ := hPC.fzr
              have HF := Lib.hid (hPC.fill zeroU)
              clear hPC
              go_wp2_with fail
              clear y0 y1 y2 y3 y4 y5 y6 y7 f0 f1 f2 f3 f4 f5 f6 f7
              generalize hwz : World.setCell _ _ _ = wz
              have hPz := HF.out
              unfold zeroU at hPz
              have hPz2 : PB w wz zeroU uB := by rw [← hwz]; exact hPz
              obtain ⟨c0, c1, c2, c3, c4, c5, c6, c7⟩ := hPz2.res.box
              have hrr := HR3.out
              subst hrr
              refine bodyPost_ret (v := .tuple #[zeroU.val, .int .i64 (kk : Nat)]) (by simp [results, Tryz.results41, go_sem, c0, c1, c2, c3, c4, c5, c6, c7]; try rfl) rfl ⟨rfl, hPz2.bel⟩
          · skip
            have kC := CutPrefix_two r wA
            rw [hp] at kC
            simp only [if_true] at kC
            obtain ⟨rest, hrest⟩ : ∃ rest, rest = r.drop 2 := ⟨_, rfl⟩
            rw [← hrest] at kC
            have hrl : rest.length ≤ 120 := by rw [hrest, List.length_drop]; omega
            have hH : hostU r uA = { uA with hasHost := true, host := lowL (rest.takeWhile not47), path := rest.dropWhile not47 } := by
              unfold hostU hostP
              rw [hp, hrest]
              simp only [if_true]
            have hR2 : rr = (if checkU (hostU r uA) = 0 then (hostU r uA, 0) else (zeroU, checkU (hostU r uA))) := HR.out
            rw [hH] at hR2
            have HR2 := Lib.hid hR2
            have ix := not47_stop rest
            obtain ⟨tk, dk⟩ := tw_take not47 rest
            have hkl : (rest.takeWhile not47).length ≤ rest.length := (List.takeWhile_sublist _).length_le
            have hall : rest.dropWhile not47 = [] → (rest.takeWhile not47).length = rest.length := by
              intro h
              have := congrArg List.length (List.takeWhile_append_dropWhile (p := not47) (l := rest))
              rw [h, List.append_nil] at this
              exact this
            clear hH hR2 hp hrest
            refine kC.mono ?_
            rintro e wx ⟨rfl, rfl⟩
            clear kC
            have kX : ∀ W, Calls Tryz.prog 110 #[str rest, .int .u8 47] W fun e w' => e = .returned (.int .i64 (Lib.indexByte rest 47)) ∧ W = w' := fun W => IndexByte_any rest 47 W
            rw [ix] at kX
            have y1 := hPA.own.box.2.1
            have f1 := hPA.own.fz 1
            have HQ := Lib.hid (hPA.s1 true)
            clear hPA ix
            generalize hdw : rest.dropWhile not47 = dw at dk hall HR2 kX
            generalize hth : lowL (rest.takeWhile not47) = th at HR2
            have kT : ∀ W, Calls Tryz.prog 108 #[str (rest.take (rest.takeWhile not47).length)] W fun e w' => e = .returned (str th) ∧ Below W.heap.size W w' := fun W => by
              have h := lowerU_any (rest.take (rest.takeWhile not47).length) W (by rw [List.length_take]; unfold maxLen; omega)
              rw [show lowL (rest.take (rest.takeWhile not47).length) = th by rw [tk, hth]] at h
              exact h
            clear hth hdw tk
            generalize (rest.takeWhile not47).length = kh at kT dk hkl hall kX
            by_cases hn : dw = []
            case' pos =>
              rw [if_pos hn] at kX
              have hkh := hall hn
              have KX := Lib.hid kX
              have KT := Lib.hid kT
              have DK := Lib.hid dk
              clear kX kT dk hall hn
              go_wp2_with fail
              refine (KX.out _).mono ?_
              rintro e wx ⟨rfl, rfl⟩
              go_wp2_with fail
              rw [← hkh]
              clear hkh
            case' neg =>
              rw [if_neg hn] at kX
              have KX := Lib.hid kX
              have KT := Lib.hid kT
              have DK := Lib.hid dk
              clear kX kT dk hall hn
              go_wp2_with fail
              refine (KX.out _).mono ?_
              rintro e wx ⟨rfl, rfl⟩
              go_wp2_with fail
            all_goals
              clear y1 f1
              generalize hwH : World.setCell _ _ _ = wH
              have hPH := HQ.out
              rw [hwH] at hPH
              clear hwH HQ
              have k0 : (0 : Int) ≤ (kh : Int) := Int.natCast_nonneg _
              have k2 : (kh : Int) ≤ (rest.length : Int) := by omega
              refine wp_region_held (S := fun W' => ∃ u, PB w W' zeroU u) (by kernel_rfl) ?_
              change wpAnyH _ _ _ _ _ _ _ _ (World.drew wH)
              have hQ := hPH.drew
              have hS : ∃ u, PB w (World.drew wH) zeroU u := ⟨_, hQ⟩
              refine wpAnyH_take (i := 0) (v := ?_) rfl (by kernel_rfl) (by kernel_rfl) (by kernel_rfl) (fun _ _ _ h => h) (Or.inl ⟨by kernel_rfl, ?_⟩) hS ?_
              rotate_left 1
              · intro W' hb; go_simp; try exact rfl
              refine wpAnyH_take (i := 1) (v := ?_) rfl (by kernel_rfl) (by kernel_rfl) (by kernel_rfl) (fun _ _ _ h => h) (Or.inl ⟨by kernel_rfl, ?_⟩) hS ?_
              rotate_left 1
              · intro W' hb; go_simp; try exact rfl
              refine wpAnyH_take (i := 2) (v := ?_) rfl (by kernel_rfl) (by kernel_rfl) (by kernel_rfl) (fun _ _ _ h => h) (Or.inl ⟨by kernel_rfl, ?_⟩) hS ?_
              rotate_left 1
              · intro W' hb; go_simp; try exact rfl
              refine wpAnyH_take (i := 4) (v := ?_) rfl (by kernel_rfl) (by kernel_rfl) (by kernel_rfl) (fun _ _ _ h => h) (Or.inl ⟨by kernel_rfl, ?_⟩) hS ?_
              rotate_left 1
              · intro W' hb; go_simp; try exact rfl
              refine wpAnyH_take (i := 5) (v := ?_) rfl (by kernel_rfl) (by kernel_rfl) (by kernel_rfl) (fun _ _ _ h => h) (Or.inl ⟨by kernel_rfl, ?_⟩) hS ?_
              rotate_left 1
              · intro W' hb; go_simp; try exact rfl
              refine wpAnyH_take (i := 6) (v := ?_) rfl (by kernel_rfl) (by kernel_rfl) (by kernel_rfl) (fun _ _ _ h => h) (Or.inl ⟨by kernel_rfl, ?_⟩) hS ?_
              rotate_left 1
              · intro W' hb; go_simp; try exact rfl
              refine wpAnyH_all (rs := [3]) (by kernel_rfl) (by simp) ?_
              intro kk hkk
              simp only [List.mem_singleton] at hkk
              subst hkk
              go_simp
              refine wpOp_call rfl (by kernel_rfl) 108 #[str (rest.take kh)] (by go_simp) _ _ (KT.out _) ?_
              intro w8 hb8
              have hQ := hQ.below hb8
              have hS : ∃ u, PB w w8 zeroU u := ⟨_, hQ⟩
              clear hb8
              refine ⟨hS, ?_⟩
              refine wpAnyH_take (i := 7) (v := ?_) rfl (by kernel_rfl) (by kernel_rfl) (by kernel_rfl) (fun _ _ _ h => h) (Or.inl ⟨by kernel_rfl, ?_⟩) hS ?_
              rotate_left 1
              · intro W' hb; go_simp; try exact rfl
              refine wpAnyH_all (rs := [8]) (by kernel_rfl) (by simp) ?_
              intro kk hkk
              simp only [List.mem_singleton] at hkk
              subst hkk
              go_simp
              have y2 := hQ.own.box.2.2.1
              have f2 := hQ.own.fz 2
              refine wpOp_store rfl (by kernel_rfl) (w8.setCell ⟨w.heap.size + 1, 2, none⟩ (str th)) (by go_simp) ?_
              have hQ := hQ.s2 th
              have hS : ∃ u, PB w (w8.setCell ⟨w.heap.size + 1, 2, none⟩ (str th)) zeroU u := ⟨_, hQ⟩
              clear y2 f2
              refine ⟨hS, ?_⟩
              refine wpAnyH_take (i := 9) (v := ?_) rfl (by kernel_rfl) (by kernel_rfl) (by kernel_rfl) (fun _ _ _ h => h) (Or.inl ⟨by kernel_rfl, ?_⟩) hS ?_
              rotate_left 1
              · intro W' hb; go_simp; try exact rfl
              refine wpAnyH_done (by kernel_rfl) ?_ _
              go_simp
              rw [DK.out]
              generalize hw9 : World.setCell _ _ _ = w9
              have hQ9 := hQ
              rw [hw9] at hQ9
              clear hw9 hQ hS
              obtain ⟨y0, y1, y2, y3, y4, y5, y6, y7⟩ := hQ9.own.box
              have f3 := hQ9.own.fz 3
              have HQ := Lib.hid (hQ9.s3 dw)
              clear hQ9 hPH
              go_wp2_with fail
              clear y0 y1 y2 y3 y4 y5 y6 y7 f3
              generalize hwB : World.setCell _ _ _ = wB
              have hPB := HQ.out
              rw [hwB] at hPB
              have kK := Check_any { uA with hasHost := true, host := th, path := dw } wB
              have hR2 := HR2.out
              obtain ⟨uB, huB⟩ : ∃ uB : UrlD, uB = { uA with hasHost := true, host := th, path := dw } := ⟨_, rfl⟩
              have kK : Calls Tryz.prog 111 #[.agg #[str uA.scheme, .bool true, str th, str dw, .bool uA.hasQuery, str uA.query, .bool uA.hasFrag, str uA.frag]] wB fun e w' => e = .returned (.int .i64 (checkU uB : Nat)) ∧ Below wB.heap.size wB w' := by rw [huB]; exact kK
              rw [← huB] at hPB hR2
              clear HQ HR2 hwB huB
              by_cases hc : checkU uB = 0
              · skip
                have KK := Lib.hid hc
                have hR3 := hR2.trans (if_pos hc)
                rw [hc] at kK
                have HR3 := Lib.hid hR3
                clear hc hR2 hR3
                refine kK.mono ?_
                rintro e wC ⟨rfl, hbC⟩
                have hPC := hPB.below hbC
                clear hPB hbC kK
                obtain ⟨c0, c1, c2, c3, c4, c5, c6, c7⟩ := hPC.own.box
                obtain ⟨y0, y1, y2, y3, y4, y5, y6, y7⟩ := hPC.res.box
                obtain ⟨f0, f1, f2, f3, f4, f5, f6, f7⟩ := hPC.fzr
                have HF := Lib.hid (hPC.fill uB)
                clear hPC
                go_wp2_with fail
                clear y0 y1 y2 y3 y4 y5 y6 y7 f0 f1 f2 f3 f4 f5 f6 f7 c0 c1 c2 c3 c4 c5 c6 c7
                generalize hwz : World.setCell _ _ _ = wz
                have hPz := HF.out
                rw [hwz] at hPz
                obtain ⟨c0, c1, c2, c3, c4, c5, c6, c7⟩ := hPz.res.box
                have hrr := HR3.out
                subst hrr
                refine bodyPost_ret (v := .tuple #[uB.val, .int .i64 0]) (by simp [results, Tryz.results41, go_sem, c0, c1, c2, c3, c4, c5, c6, c7]; try rfl) rfl ⟨rfl, hPz.bel⟩
              · skip
                have hR3 := hR2.trans (if_neg hc)
                generalize checkU uB = kk at kK hc hR3
                have ekk : ((kk : Int) != 0) = true := by simp; omega
                have HR3 := Lib.hid hR3
                clear hc hR2 hR3
                refine kK.mono ?_
                rintro e wC ⟨rfl, hbC⟩
                have hPC := hPB.below hbC
                clear hPB hbC kK
                obtain ⟨y0, y1, y2, y3, y4, y5, y6, y7⟩ := hPC.res.box
                obtain ⟨f0, f1, f2, f3, f4, f5, f6, f7⟩ := hPC.fzr
                have HF := Lib.hid (hPC.fill zeroU)
                clear hPC
                go_wp2_with fail
                clear y0 y1 y2 y3 y4 y5 y6 y7 f0 f1 f2 f3 f4 f5 f6 f7
                generalize hwz : World.setCell _ _ _ = wz
                have hPz := HF.out
                unfold zeroU at hPz
                have hPz2 : PB w wz zeroU uB := by rw [← hwz]; exact hPz
                obtain ⟨c0, c1, c2, c3, c4, c5, c6, c7⟩ := hPz2.res.box
                have hrr := HR3.out
                subst hrr
                refine bodyPost_ret (v := .tuple #[zeroU.val, .int .i64 (kk : Nat)]) (by simp [results, Tryz.results41, go_sem, c0, c1, c2, c3, c4, c5, c6, c7]; try rfl) rfl ⟨rfl, hPz2.bel⟩
    · have hsP : schemeP s2 = some ([], s2) := by unfold schemeP; rw [if_neg hd]
      have hR := HRR.out.trans (readU_fin HL.out H1.out H2.out hsP)
      rw [← Hu1.out] at hR
      have HU : Hid (u1.hasHost = false ∧ u1.host = []) := by rw [Hu1.out]; exact ⟨rfl, rfl⟩
      have HR := Lib.hid hR
      clear hsP hR Hu1
      by_cases hn : s2.dropWhile stopCS = []
      case' pos =>
        rw [if_pos hn] at kA
        have KA := Lib.hid kA
        clear kA hn hd
        refine KA.out.mono ?_
        rintro e w5 ⟨rfl, hb5⟩
        have hPA := hP5.below hb5
        clear hP5 hb5 KA
        go_wp2_with fail
      case' neg =>
        obtain ⟨c, r0, hr⟩ : ∃ c r0, s2.dropWhile stopCS = c :: r0 := by
          cases h : s2.dropWhile stopCS with
          | nil => exact absurd h hn
          | cons a t => exact ⟨a, t, rfl⟩
        obtain ⟨p1, p2, p3, p4⟩ := place_cs hr
        rw [if_neg hn] at kA
        generalize (s2.takeWhile stopCS).length = k at p1 p2 p3 p4 kA
        have e58 : ((nth s2 k : Int) == 58) = false := by
          rw [beq_eq_false_iff_ne, p2]
          intro e
          refine hd ?_
          rw [hr]
          have : c = 58 := UInt8.toNat_inj.1 (by show c.toNat = 58; omega)
          rw [this]; rfl
        have KA := Lib.hid kA
        clear kA hn hd p2 p3 p4 hr
        refine KA.out.mono ?_
        rintro e w5 ⟨rfl, hb5⟩
        have hPA := hP5.below hb5
        clear hP5 hb5 KA
        go_wp2_with fail
        clear p1 e58
      all_goals
        generalize w5 = wA at hPA ⊢
        generalize u1 = uA at hPA HR HU
        generalize s2 = r at HR hl3 ⊢
        have hrl : r.length ≤ 120 := hl3
        clear hl3
        cases hp : Lib.hasPrefix r [47, 47]
        · skip
          have kC := CutPrefix_two r wA
          rw [hp] at kC
          simp only [Bool.false_eq_true, if_false] at kC
          have hH : hostU r uA = { uA with path := r } := by
            obtain ⟨h1, h2⟩ := HU.out
            unfold hostU hostP
            rw [hp]
            simp only [Bool.false_eq_true, if_false]
            rw [← h1, ← h2]
          have hR2 : rr = (if checkU { uA with path := r } = 0 then ({ uA with path := r }, 0) else (zeroU, checkU { uA with path := r })) := by
            rw [HR.out]
            unfold finU
            rw [hH]
          have HR2 := Lib.hid hR2
          clear hH hR2 hp
          refine kC.mono ?_
          rintro e wx ⟨rfl, rfl⟩
          clear kC
          obtain ⟨y0, y1, y2, y3, y4, y5, y6, y7⟩ := hPA.own.box
          have f3 := hPA.own.fz 3
          have HQ := Lib.hid (hPA.s3 r)
          clear hPA
          go_wp2_with fail
          clear y0 y1 y2 y3 y4 y5 y6 y7 f3
          generalize hwB : World.setCell _ _ _ = wB
          have hPB := HQ.out
          rw [hwB] at hPB
          have kK := Check_any { uA with path := r } wB
          have hR2 := HR2.out
          obtain ⟨uB, huB⟩ : ∃ uB : UrlD, uB = { uA with path := r } := ⟨_, rfl⟩
          have kK : Calls Tryz.prog 111 #[.agg #[str uA.scheme, .bool uA.hasHost, str uA.host, str r, .bool uA.hasQuery, str uA.query, .bool uA.hasFrag, str uA.frag]] wB fun e w' => e = .returned (.int .i64 (checkU uB : Nat)) ∧ Below wB.heap.size wB w' := by rw [huB]; exact kK
          rw [← huB] at hPB hR2
          clear HQ HR2 hwB huB
          by_cases hc : checkU uB = 0
          · skip
            have KK := Lib.hid hc
            have hR3 := hR2.trans (if_pos hc)
            rw [hc] at kK
            have HR3 := Lib.hid hR3
            clear hc hR2 hR3
            refine kK.mono ?_
            rintro e wC ⟨rfl, hbC⟩
            have hPC := hPB.below hbC
            clear hPB hbC kK
            obtain ⟨c0, c1, c2, c3, c4, c5, c6, c7⟩ := hPC.own.box
            obtain ⟨y0, y1, y2, y3, y4, y5, y6, y7⟩ := hPC.res.box
            obtain ⟨f0, f1, f2, f3, f4, f5, f6, f7⟩ := hPC.fzr
            have HF := Lib.hid (hPC.fill uB)
            clear hPC
            go_wp2_with fail
            clear y0 y1 y2 y3 y4 y5 y6 y7 f0 f1 f2 f3 f4 f5 f6 f7 c0 c1 c2 c3 c4 c5 c6 c7
            generalize hwz : World.setCell _ _ _ = wz
            have hPz := HF.out
            rw [hwz] at hPz
            obtain ⟨c0, c1, c2, c3, c4, c5, c6, c7⟩ := hPz.res.box
            have hrr := HR3.out
            subst hrr
            refine bodyPost_ret (v := .tuple #[uB.val, .int .i64 0]) (by simp [results, Tryz.results41, go_sem, c0, c1, c2, c3, c4, c5, c6, c7]; try rfl) rfl ⟨rfl, hPz.bel⟩
          · skip
            have hR3 := hR2.trans (if_neg hc)
            generalize checkU uB = kk at kK hc hR3
            have ekk : ((kk : Int) != 0) = true := by simp; omega
            have HR3 := Lib.hid hR3
            clear hc hR2 hR3
            refine kK.mono ?_
            rintro e wC ⟨rfl, hbC⟩
            have hPC := hPB.below hbC
            clear hPB hbC kK
            obtain ⟨y0, y1, y2, y3, y4, y5, y6, y7⟩ := hPC.res.box
            obtain ⟨f0, f1, f2, f3, f4, f5, f6, f7⟩ := hPC.fzr
            have HF := Lib.hid (hPC.fill zeroU)
            clear hPC
            go_wp2_with fail
            clear y0 y1 y2 y3 y4 y5 y6 y7 f0 f1 f2 f3 f4 f5 f6 f7
            generalize hwz : World.setCell _ _ _ = wz
            have hPz := HF.out
            unfold zeroU at hPz
            have hPz2 : PB w wz zeroU uB := by rw [← hwz]; exact hPz
            obtain ⟨c0, c1, c2, c3, c4, c5, c6, c7⟩ := hPz2.res.box
            have hrr := HR3.out
            subst hrr
            refine bodyPost_ret (v := .tuple #[zeroU.val, .int .i64 (kk : Nat)]) (by simp [results, Tryz.results41, go_sem, c0, c1, c2, c3, c4, c5, c6, c7]; try rfl) rfl ⟨rfl, hPz2.bel⟩
        · skip
          have kC := CutPrefix_two r wA
          rw [hp] at kC
          simp only [if_true] at kC
          obtain ⟨rest, hrest⟩ : ∃ rest, rest = r.drop 2 := ⟨_, rfl⟩
          rw [← hrest] at kC
          have hrl : rest.length ≤ 120 := by rw [hrest, List.length_drop]; omega
          have hH : hostU r uA = { uA with hasHost := true, host := lowL (rest.takeWhile not47), path := rest.dropWhile not47 } := by
            unfold hostU hostP
            rw [hp, hrest]
            simp only [if_true]
          have hR2 : rr = (if checkU (hostU r uA) = 0 then (hostU r uA, 0) else (zeroU, checkU (hostU r uA))) := HR.out
          rw [hH] at hR2
          have HR2 := Lib.hid hR2
          have ix := not47_stop rest
          obtain ⟨tk, dk⟩ := tw_take not47 rest
          have hkl : (rest.takeWhile not47).length ≤ rest.length := (List.takeWhile_sublist _).length_le
          have hall : rest.dropWhile not47 = [] → (rest.takeWhile not47).length = rest.length := by
            intro h
            have := congrArg List.length (List.takeWhile_append_dropWhile (p := not47) (l := rest))
            rw [h, List.append_nil] at this
            exact this
          clear hH hR2 hp hrest
          refine kC.mono ?_
          rintro e wx ⟨rfl, rfl⟩
          clear kC
          have kX : ∀ W, Calls Tryz.prog 110 #[str rest, .int .u8 47] W fun e w' => e = .returned (.int .i64 (Lib.indexByte rest 47)) ∧ W = w' := fun W => IndexByte_any rest 47 W
          rw [ix] at kX
          have y1 := hPA.own.box.2.1
          have f1 := hPA.own.fz 1
          have HQ := Lib.hid (hPA.s1 true)
          clear hPA ix
          generalize hdw : rest.dropWhile not47 = dw at dk hall HR2 kX
          generalize hth : lowL (rest.takeWhile not47) = th at HR2
          have kT : ∀ W, Calls Tryz.prog 108 #[str (rest.take (rest.takeWhile not47).length)] W fun e w' => e = .returned (str th) ∧ Below W.heap.size W w' := fun W => by
            have h := lowerU_any (rest.take (rest.takeWhile not47).length) W (by rw [List.length_take]; unfold maxLen; omega)
            rw [show lowL (rest.take (rest.takeWhile not47).length) = th by rw [tk, hth]] at h
            exact h
          clear hth hdw tk
          generalize (rest.takeWhile not47).length = kh at kT dk hkl hall kX
          by_cases hn : dw = []
          case' pos =>
            rw [if_pos hn] at kX
            have hkh := hall hn
            have KX := Lib.hid kX
            have KT := Lib.hid kT
            have DK := Lib.hid dk
            clear kX kT dk hall hn
            go_wp2_with fail
            refine (KX.out _).mono ?_
            rintro e wx ⟨rfl, rfl⟩
            go_wp2_with fail
            rw [← hkh]
            clear hkh
          case' neg =>
            rw [if_neg hn] at kX
            have KX := Lib.hid kX
            have KT := Lib.hid kT
            have DK := Lib.hid dk
            clear kX kT dk hall hn
            go_wp2_with fail
            refine (KX.out _).mono ?_
            rintro e wx ⟨rfl, rfl⟩
            go_wp2_with fail
          all_goals
            clear y1 f1
            generalize hwH : World.setCell _ _ _ = wH
            have hPH := HQ.out
            rw [hwH] at hPH
            clear hwH HQ
            have k0 : (0 : Int) ≤ (kh : Int) := Int.natCast_nonneg _
            have k2 : (kh : Int) ≤ (rest.length : Int) := by omega
            refine wp_region_held (S := fun W' => ∃ u, PB w W' zeroU u) (by kernel_rfl) ?_
            change wpAnyH _ _ _ _ _ _ _ _ (World.drew wH)
            have hQ := hPH.drew
            have hS : ∃ u, PB w (World.drew wH) zeroU u := ⟨_, hQ⟩
            refine wpAnyH_take (i := 0) (v := ?_) rfl (by kernel_rfl) (by kernel_rfl) (by kernel_rfl) (fun _ _ _ h => h) (Or.inl ⟨by kernel_rfl, ?_⟩) hS ?_
            rotate_left 1
            · intro W' hb; go_simp; try exact rfl
            refine wpAnyH_take (i := 1) (v := ?_) rfl (by kernel_rfl) (by kernel_rfl) (by kernel_rfl) (fun _ _ _ h => h) (Or.inl ⟨by kernel_rfl, ?_⟩) hS ?_
            rotate_left 1
            · intro W' hb; go_simp; try exact rfl
            refine wpAnyH_take (i := 2) (v := ?_) rfl (by kernel_rfl) (by kernel_rfl) (by kernel_rfl) (fun _ _ _ h => h) (Or.inl ⟨by kernel_rfl, ?_⟩) hS ?_
            rotate_left 1
            · intro W' hb; go_simp; try exact rfl
            refine wpAnyH_take (i := 4) (v := ?_) rfl (by kernel_rfl) (by kernel_rfl) (by kernel_rfl) (fun _ _ _ h => h) (Or.inl ⟨by kernel_rfl, ?_⟩) hS ?_
            rotate_left 1
            · intro W' hb; go_simp; try exact rfl
            refine wpAnyH_take (i := 5) (v := ?_) rfl (by kernel_rfl) (by kernel_rfl) (by kernel_rfl) (fun _ _ _ h => h) (Or.inl ⟨by kernel_rfl, ?_⟩) hS ?_
            rotate_left 1
            · intro W' hb; go_simp; try exact rfl
            refine wpAnyH_take (i := 6) (v := ?_) rfl (by kernel_rfl) (by kernel_rfl) (by kernel_rfl) (fun _ _ _ h => h) (Or.inl ⟨by kernel_rfl, ?_⟩) hS ?_
            rotate_left 1
            · intro W' hb; go_simp; try exact rfl
            refine wpAnyH_all (rs := [3]) (by kernel_rfl) (by simp) ?_
            intro kk hkk
            simp only [List.mem_singleton] at hkk
            subst hkk
            go_simp
            refine wpOp_call rfl (by kernel_rfl) 108 #[str (rest.take kh)] (by go_simp) _ _ (KT.out _) ?_
            intro w8 hb8
            have hQ := hQ.below hb8
            have hS : ∃ u, PB w w8 zeroU u := ⟨_, hQ⟩
            clear hb8
            refine ⟨hS, ?_⟩
            refine wpAnyH_take (i := 7) (v := ?_) rfl (by kernel_rfl) (by kernel_rfl) (by kernel_rfl) (fun _ _ _ h => h) (Or.inl ⟨by kernel_rfl, ?_⟩) hS ?_
            rotate_left 1
            · intro W' hb; go_simp; try exact rfl
            refine wpAnyH_all (rs := [8]) (by kernel_rfl) (by simp) ?_
            intro kk hkk
            simp only [List.mem_singleton] at hkk
            subst hkk
            go_simp
            have y2 := hQ.own.box.2.2.1
            have f2 := hQ.own.fz 2
            refine wpOp_store rfl (by kernel_rfl) (w8.setCell ⟨w.heap.size + 1, 2, none⟩ (str th)) (by go_simp) ?_
            have hQ := hQ.s2 th
            have hS : ∃ u, PB w (w8.setCell ⟨w.heap.size + 1, 2, none⟩ (str th)) zeroU u := ⟨_, hQ⟩
            clear y2 f2
            refine ⟨hS, ?_⟩
            refine wpAnyH_take (i := 9) (v := ?_) rfl (by kernel_rfl) (by kernel_rfl) (by kernel_rfl) (fun _ _ _ h => h) (Or.inl ⟨by kernel_rfl, ?_⟩) hS ?_
            rotate_left 1
            · intro W' hb; go_simp; try exact rfl
            refine wpAnyH_done (by kernel_rfl) ?_ _
            go_simp
            rw [DK.out]
            generalize hw9 : World.setCell _ _ _ = w9
            have hQ9 := hQ
            rw [hw9] at hQ9
            clear hw9 hQ hS
            obtain ⟨y0, y1, y2, y3, y4, y5, y6, y7⟩ := hQ9.own.box
            have f3 := hQ9.own.fz 3
            have HQ := Lib.hid (hQ9.s3 dw)
            clear hQ9 hPH
            go_wp2_with fail
            clear y0 y1 y2 y3 y4 y5 y6 y7 f3
            generalize hwB : World.setCell _ _ _ = wB
            have hPB := HQ.out
            rw [hwB] at hPB
            have kK := Check_any { uA with hasHost := true, host := th, path := dw } wB
            have hR2 := HR2.out
            obtain ⟨uB, huB⟩ : ∃ uB : UrlD, uB = { uA with hasHost := true, host := th, path := dw } := ⟨_, rfl⟩
            have kK : Calls Tryz.prog 111 #[.agg #[str uA.scheme, .bool true, str th, str dw, .bool uA.hasQuery, str uA.query, .bool uA.hasFrag, str uA.frag]] wB fun e w' => e = .returned (.int .i64 (checkU uB : Nat)) ∧ Below wB.heap.size wB w' := by rw [huB]; exact kK
            rw [← huB] at hPB hR2
            clear HQ HR2 hwB huB
            by_cases hc : checkU uB = 0
            · skip
              have KK := Lib.hid hc
              have hR3 := hR2.trans (if_pos hc)
              rw [hc] at kK
              have HR3 := Lib.hid hR3
              clear hc hR2 hR3
              refine kK.mono ?_
              rintro e wC ⟨rfl, hbC⟩
              have hPC := hPB.below hbC
              clear hPB hbC kK
              obtain ⟨c0, c1, c2, c3, c4, c5, c6, c7⟩ := hPC.own.box
              obtain ⟨y0, y1, y2, y3, y4, y5, y6, y7⟩ := hPC.res.box
              obtain ⟨f0, f1, f2, f3, f4, f5, f6, f7⟩ := hPC.fzr
              have HF := Lib.hid (hPC.fill uB)
              clear hPC
              go_wp2_with fail
              clear y0 y1 y2 y3 y4 y5 y6 y7 f0 f1 f2 f3 f4 f5 f6 f7 c0 c1 c2 c3 c4 c5 c6 c7
              generalize hwz : World.setCell _ _ _ = wz
              have hPz := HF.out
              rw [hwz] at hPz
              obtain ⟨c0, c1, c2, c3, c4, c5, c6, c7⟩ := hPz.res.box
              have hrr := HR3.out
              subst hrr
              refine bodyPost_ret (v := .tuple #[uB.val, .int .i64 0]) (by simp [results, Tryz.results41, go_sem, c0, c1, c2, c3, c4, c5, c6, c7]; try rfl) rfl ⟨rfl, hPz.bel⟩
            · skip
              have hR3 := hR2.trans (if_neg hc)
              generalize checkU uB = kk at kK hc hR3
              have ekk : ((kk : Int) != 0) = true := by simp; omega
              have HR3 := Lib.hid hR3
              clear hc hR2 hR3
              refine kK.mono ?_
              rintro e wC ⟨rfl, hbC⟩
              have hPC := hPB.below hbC
              clear hPB hbC kK
              obtain ⟨y0, y1, y2, y3, y4, y5, y6, y7⟩ := hPC.res.box
              obtain ⟨f0, f1, f2, f3, f4, f5, f6, f7⟩ := hPC.fzr
              have HF := Lib.hid (hPC.fill zeroU)
              clear hPC
              go_wp2_with fail
              clear y0 y1 y2 y3 y4 y5 y6 y7 f0 f1 f2 f3 f4 f5 f6 f7
              generalize hwz : World.setCell _ _ _ = wz
              have hPz := HF.out
              unfold zeroU at hPz
              have hPz2 : PB w wz zeroU uB := by rw [← hwz]; exact hPz
              obtain ⟨c0, c1, c2, c3, c4, c5, c6, c7⟩ := hPz2.res.box
              have hrr := HR3.out
              subst hrr
              refine bodyPost_ret (v := .tuple #[zeroU.val, .int .i64 (kk : Nat)]) (by simp [results, Tryz.results41, go_sem, c0, c1, c2, c3, c4, c5, c6, c7]; try rfl) rfl ⟨rfl, hPz2.bel⟩
end Go.Proofs.YtlbdnohnngkapaaGreatDoor

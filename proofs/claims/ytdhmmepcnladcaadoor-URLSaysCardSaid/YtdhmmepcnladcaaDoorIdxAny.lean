import Derived.Test.YtdhmmepcnladcaaDoorLk1
import Derived.Test.YtdhmmepcnladcaaDoorUrlM
import Derived.Laws.RangeString
import Derived.Laws.RangeAny
import Derived.Laws.Runes
import Derived.Lib.IndexAny
import Derived.Lib.OthersKept
import Derived.Shelf.Strings.IndexAnyAll
import Derived.WalkMore
import Derived.Deep.DeepCutAuto
namespace Go.Proofs.YtdhmmepcnladcaaDoor
open Go.RowKit

set_option maxRecDepth 100000 in
set_option maxHeartbeats 1000000 in
/-- A rune beyond ASCII does not stand in ":/". -/
theorem IndexRune_no (t : List UInt8) (ht : t.length = 2) (ht1 : nth t 1 < 128) (r : Int) (w : World) (h128 : 128 ≤ r) (h1 : r ≠ 65533) : Calls Tryd.prog 172 #[str t, .int .i32 r] w fun e w' => e = .returned (.int .i64 (-1)) ∧ Below w.heap.size w w' := by
  have d1 : decide (r < 128) = false := decide_eq_false (by omega)
  have et : (t.length : Int) = 2 := by omega
  have hdr : ∀ x, Lib.indexByte (t.drop 2) x = -1 := fun x => by rw [List.drop_of_length_le (by omega)]; rfl
  have Hdr := Lib.hid hdr
  have HT := Lib.hid ht
  clear hdr ht
  have d0 : decide (0 ≤ r) = true := decide_eq_true (by omega)
  have e1 : (r == 65533) = false := by simpa using h1
  clear h1
  focus
    cases hv : Go.validRune r
    · have hV := fun W => (Go.Proofs.Tryd.utf8_ValidRune r W)
      rw [show Lib.validRune r = false from hv] at hV
      have HV := Lib.hid hV
      clear hV hv
      go_enter Tryd.func172, Tryd.ntmps172
      go_wp2_with fail
      refine (HV.out _).mono ?_
      rintro e w1 ⟨rfl, hw⟩
      rw [hw]
      go_wp2_with fail
      go_ret
      exact ⟨rfl, Below.refl _ _⟩
    · have hV := fun W => (Go.Proofs.Tryd.utf8_ValidRune r W)
      rw [show Lib.validRune r = true from hv] at hV
      have hu : Utf8.valid r = true := by rw [validRune_eq]; exact hv
      obtain ⟨f1, f2, f3⟩ := encode_facts r hu h128
      have HV := Lib.hid hV
      clear hV hv hu
      obtain ⟨l, hl⟩ : ∃ l, l = (Utf8.encode r).data.toList := ⟨_, rfl⟩
      have hsz : l.length = (Utf8.encode r).size := by rw [hl]; exact (Lib.size_eq _).symm
      have hlast : 128 ≤ nth l (l.length - 1) := by
        have := f3 (by omega)
        unfold nth
        rw [List.getD_eq_getElem?_getD, hl, ← hl, hsz, hl, Lib.data_getElem? (Utf8.encode r) _ (by omega)]
        exact this
      have hcv : ∀ W, (convert 21 9 (.int .i32 r)).run Tryd.prog W = .ok (str l) W := fun W => by
        rw [run_convert_int_string W _ _ _ _ (by rw [Tryd.underlying21]; rfl) Tryd.underlying9, str_of, ← hl]
      rw [← hsz] at f1 f2
      clear hsz hl f3
      go_enter Tryd.func172, Tryd.ntmps172
      go_wp2_with fail
      refine (HV.out _).mono ?_
      rintro e w1 ⟨rfl, hw⟩
      rw [hw]
      clear hw
      rcases (by omega : l.length = 2 ∨ l.length = 3 ∨ l.length = 4) with h2 | h2 | h2
      · have hn2 : 128 ≤ nth l 1 := by
          rw [h2] at hlast
          exact hlast
        have hn3 : ((nth l 1 : Nat) : Int) ≠ ((nth t 1 : Nat) : Int) := by omega
        have e3 : (((nth t 1 : Nat) : Int) != ((nth l 1 : Nat) : Int)) = true := by rw [bne_iff_ne]; exact fun e => hn3 e.symm
        have e2 : (l.length : Int) = 2 := by omega
        have hi : ∀ W, Calls Tryd.prog 93 #[str (t.drop 2), .int .u8 (nth l 1 : Nat)] W fun e w' => e = .returned (.int .i64 (-1)) ∧ w' = W := fun W => (IndexByte_any (t.drop 2) (nth l 1) W).mono fun _ _ h => ⟨by rw [h.1, Hdr.out], h.2.symm⟩
        have Hi := Lib.hid hi
        have H2 := Lib.hid h2
        clear h2 hlast f1 f2 hn2 hn3 hi
        go_wp2_with fail
        go_step3
        go_wp2_with fail
        go_loop [9, 10] (fun v9 v10 => v9 = .int .i64 1 ∧ v10 = .int .i64 0) (fun _ _ => 0)
        case atStart => exact ⟨rfl, rfl⟩
        case round =>
          obtain ⟨rfl, rfl⟩ := hrel
          go_wp2_with fail
          go_step3
          go_wp2_with fail
          have i2 : (1 : Nat) < l.length := by have := H2.out; omega
          have i1 : (1 : Nat) < t.length := by have := HT.out; omega
          go_quiet (fail)
          generalize hwq : w.drewN _ = wq
          have hbq : Below w.heap.size w wq := by rw [← hwq]; exact belN (Below.refl _ _) _
          have Hbq := Lib.hid hbq
          clear hwq hbq
          go_wp2_with fail
          have i3 : IntKind.i64.wrap (1 + 1) = 2 := rfl
          have i4 : IntKind.i64.wrap 2 = 2 := rfl
          go_quiet ((go_at_call 93; exact Calls.quiet_of_same (Hi.out _)))
          generalize hwq : wq.drewN _ = wy
          have hby : Below w.heap.size w wy := by rw [← hwq]; exact belN Hbq.out _
          have Hby := Lib.hid hby
          clear hwq hby
          go_wp2_with fail
          rw [Exit.noGoto_ret]
          go_wp2_with fail
          rw [Exit.noGoto_ret]
          go_wp2_with fail
          go_ret
          exact ⟨rfl, Hby.out⟩
      · have e2 : (l.length : Int) = 3 := by omega
        have H2 := Lib.hid h2
        clear h2 hlast f1 f2
        go_wp2_with fail
        go_step3
        go_wp2_with fail
        go_loop [9, 10] (fun v9 v10 => v9 = .int .i64 2 ∧ v10 = .int .i64 0) (fun _ _ => 0)
        case atStart => exact ⟨rfl, rfl⟩
        case round =>
          obtain ⟨rfl, rfl⟩ := hrel
          go_wp2_with fail
          go_ret
          exact ⟨rfl, Below.refl _ _⟩
      · have e2 : (l.length : Int) = 4 := by omega
        have H2 := Lib.hid h2
        clear h2 hlast f1 f2
        go_wp2_with fail
        go_step3
        go_wp2_with fail
        go_loop [9, 10] (fun v9 v10 => v9 = .int .i64 3 ∧ v10 = .int .i64 0) (fun _ _ => 0)
        case atStart => exact ⟨rfl, rfl⟩
        case round =>
          obtain ⟨rfl, rfl⟩ := hrel
          go_wp2_with fail
          go_ret
          exact ⟨rfl, Below.refl _ _⟩
set_option maxRecDepth 100000 in
set_option maxHeartbeats 1000000 in
/-- The rune that stands for a wrong byte does not stand in an ASCII text. -/
theorem IndexRune_err (s : ByteArray) (w : World) (has : ∀ (j : Nat) b, s.data.toList[j]? = some b → b.toNat < 128) : Calls Tryd.prog 172 #[.string s, .int .i32 65533] w fun e w' => e = .returned (.int .i64 (-1)) ∧ Below w.heap.size w w' := by
  have HA := Lib.hid has
  clear has
  go_enter Tryd.func172, Tryd.ntmps172
  go_wp2_with fail
  go_loopg [5, 6] s.size (fun g _ _ wx => ∃ i : Nat, i + g = s.size ∧ wx = w.iter s i)
  case atStart => exact ⟨0, by omega, rfl⟩
  case round =>
    obtain ⟨i, hig, rfl⟩ := hrel
    cases gk with
    | zero =>
      obtain rfl : i = s.size := by omega
      have hnx := fun ty => run_next_end (P := Tryd.prog) w s s.size ty (by omega)
      go_wp2_with fail
      go_ret
      exact ⟨rfl, (Below.refl _ _).alloc (Nat.le_refl _) _⟩
    | succ g =>
      have hi : i < s.size := by omega
      obtain ⟨x, hx⟩ : ∃ x : UInt8, s[i]'hi = x := ⟨_, rfl⟩
      have hx128 : x.toNat < 128 := HA.out i x (by rw [← hx]; exact Lib.data_getElem? s i hi)
      have hnx := fun ty => run_next_ascii (P := Tryd.prog) w s i ty hi (by rw [hx]; exact hx128)
      rw [hx] at hnx
      have ex : ((x.toNat : Int) == 65533) = false := by simp; omega
      clear hx
      go_wp2_with fail
      go_roundg g
      case measure => omega
      case rel => exact ⟨i + 1, by omega, rfl⟩
theorem decode_rest (s : ByteArray) (pos k : Nat) (h1 : 1 ≤ k) (h2 : k < (Utf8.decode s pos).2) : pos + k < s.size ∧ 128 ≤ (s.get! (pos + k)).toNat := by
  simp only [Utf8.decode] at h2
  repeat' split at h2
  all_goals first | omega | skip
  all_goals
    simp_all
    rcases (by omega : k = 1 ∨ k = 2 ∨ k = 3) with rfl | rfl | rfl <;> omega
theorem rune_miss (r : Nat) (W : World) (h58 : r ≠ 58) (h47 : r ≠ 47) : Calls Tryd.prog 172 #[.string ⟨#[58, 47]⟩, .int .i32 (r : Int)] W fun e w' => e = .returned (.int .i64 (-1)) ∧ Below W.heap.size W w' := by
  rcases Nat.lt_or_ge r 128 with h | h
  · refine (Go.Proofs.Tryd.strings_IndexRune_ascii ⟨#[58, 47]⟩ (r : Int) W (by omega) (by omega)).mono ?_
    rintro e w' ⟨rfl, rfl⟩
    refine ⟨?_, Below.refl _ _⟩
    have e1 : ((r : Int)).toNat.toUInt8 = UInt8.ofNat r := rfl
    rw [e1]
    have hz : (UInt8.ofNat r).toNat = r := by rw [UInt8.toNat_ofNat']; omega
    have : Lib.indexByte [58, 47] (UInt8.ofNat r) < 0 := by
      rw [indexByte_neg]
      simp only [List.mem_cons, List.not_mem_nil, or_false, not_or]
      exact ⟨fun e => h58 (by rw [← hz, e]; rfl), fun e => h47 (by rw [← hz, e]; rfl)⟩
    have h2 := Lib.indexByte_ge [58, 47] (UInt8.ofNat r)
    show Ending.returned (.int .i64 (Lib.indexByte [58, 47] (UInt8.ofNat r))) = _
    rw [show Lib.indexByte [58, 47] (UInt8.ofNat r) = -1 by omega]
  · rcases Nat.lt_or_ge r 65533 with h2 | h2
    · exact IndexRune_no [58, 47] rfl (by decide) (r : Int) W (by omega) (by omega)
    · rcases (by omega : r = 65533 ∨ 65533 < r) with rfl | h3
      · exact IndexRune_err ⟨#[58, 47]⟩ W (by
          intro j b hj
          match j, hj with
          | 0, hj => simp at hj; subst hj; decide
          | 1, hj => simp at hj; subst hj; decide)
      · exact IndexRune_no [58, 47] rfl (by decide) (r : Int) W (by omega) (by omega)
theorem rune_hit (r : Nat) (W : World) (h : r = 58 ∨ r = 47) : Calls Tryd.prog 172 #[.string ⟨#[58, 47]⟩, .int .i32 (r : Int)] W fun e w' => e = .returned (.int .i64 (if r = 58 then 0 else 1)) ∧ Below W.heap.size W w' := by
  refine (Go.Proofs.Tryd.strings_IndexRune_ascii ⟨#[58, 47]⟩ (r : Int) W (by omega) (by omega)).mono ?_
  rintro e w' ⟨rfl, rfl⟩
  refine ⟨?_, Below.refl _ _⟩
  rcases h with rfl | rfl <;> rfl
theorem zero_set : ∀ w, (zeroValue 108).run Tryd.prog w = .ok (.agg (Array.replicate 256 (.bool false))) w :=
  have h : (Tryd.prog.info? 108).map (fun i => (i.zero, i.size)) = some (some (.agg (Array.replicate 256 (.bool false))), 256) := by kernel_rfl
  (zero_of_info h).1
set_option maxRecDepth 100000 in
set_option maxHeartbeats 1000000 in
theorem IndexAny_short (l : List UInt8) (w : World) (hl : l.length ≤ 8) : Calls Tryd.prog 107 #[str l, .string ⟨#[58, 47]⟩] w fun e w' => e = .returned (.int .i64 (Lib.indexAny l [58, 47])) ∧ Below w.heap.size w w' := by
  obtain ⟨s, hs⟩ : ∃ s : ByteArray, s = ⟨l.toArray⟩ := ⟨_, rfl⟩
  have hsd : s.data.toList = l := by rw [hs]
  have hsz : s.size = l.length := by rw [Lib.size_eq, hsd]
  have hstr : str l = .string s := by rw [hs]; rfl
  rw [hstr, ← hsd]
  clear hstr hs
  have h8 : s.size ≤ 8 := by omega
  clear hl hsd hsz l
  have h8z : decide ((8 : Int) < (s.size : Int)) = false := decide_eq_false (by omega)
  have hU : ∀ W, Calls Tryd.prog 173 #[.int .i64 s.size] W fun e w' => e = .returned (.bool false) ∧ W = w' := fun W => by
    refine (Go.Proofs.Tryd.strings_shouldUseASCIISet s.size W).mono ?_
    rintro e w' ⟨rfl, rfl⟩
    exact ⟨by rw [h8z], rfl⟩
  have HU := Lib.hid hU
  clear hU h8z
  go_enter Tryd.func107, Tryd.ntmps107
  go_wp2_with fail
  refine (HU.out _).mono ?_
  rintro e w1 ⟨rfl, rfl⟩
  go_wp2_with fail
  go_loopg [9, 10] s.size (fun g _ _ wx => ∃ pos : Nat, s.size ≤ pos + g ∧ wx.heap[w.heap.size]? = some (.stringIter s pos) ∧ Below w.heap.size w wx ∧ Hid (Lib.NoAny s.data.toList [58, 47] pos))
  case atStart => exact ⟨0, by omega, World.iter_heap w s 0, (Below.refl _ w).alloc (Nat.le_refl _) _, Lib.NoAny.zero _ _⟩
  case round =>
    obtain ⟨pos, hfu, hit, hbw, hno⟩ := hrel
    by_cases hps : pos < s.size
    · obtain ⟨g', rfl⟩ : ∃ g', gk = g' + 1 := ⟨gk - 1, by omega⟩
      have hdl := Lib.data_getElem? s pos hps
      have hdh := decode_high s pos hps
      have hda := decode_ascii s pos hps
      have hdr := decode_rest s pos
      have hnx : ∀ ty, (Instr.next (.pointer (some ⟨w.heap.size, 0, none⟩)) true ty).run Tryd.prog wr = _ := fun ty => Lib.run_next_any_at wr w.heap.size s pos ty hit hps
      generalize hd : Utf8.decode s pos = d at hdh hda hnx hdr
      obtain ⟨R, K⟩ := d
      simp only at hdh hnx hdr
      have hit2 := Lib.iterAt_heap wr w.heap.size s pos (pos + K) hit
      have hbw2 := Lib.below_iterAt hbw (k := w.heap.size) (Nat.le_refl _) s (pos + K)
      obtain ⟨W, hWd⟩ : ∃ W, wr.iterAt w.heap.size s (pos + K) = W := ⟨_, rfl⟩
      rw [hWd] at hnx hit2 hbw2
      generalize s[pos] = x at hdl hdh hda
      clear hd hWd
      have Hno := hno
      by_cases hhit : x = 58 ∨ x = 47
      · have hx : x.toNat < 128 := by rcases hhit with rfl | rfl <;> decide
        have hR : R = x.toNat := by have := hda hx; injection this
        have hR2 : R = 58 ∨ R = 47 := by rcases hhit with rfl | rfl <;> simp [hR]
        have hres : Lib.indexAny s.data.toList [58, 47] = pos := Lib.indexAny_hit hno.out hdl (by rcases hhit with rfl | rfl <;> rfl)
        have HC := Lib.hid (fun W => rune_hit R W hR2)
        have hv : 0 ≤ (if R = 58 then (0 : Int) else 1) := by split <;> omega
        generalize (if R = 58 then (0 : Int) else 1) = v at HC hv
        have Hres := Lib.hid hres
        have Hbw2 := Lib.hid hbw2
        clear hdh hda hdr hdl hhit hx hR hR2 hres hno Hno hit hbw hit2 hbw2
        go_wp2_with fail
        refine (HC.out _).mono ?_
        rintro e w2 ⟨rfl, hb2⟩
        have Hb2 := Lib.hid (Hbw2.out.trans (hb2.mono Hbw2.out.size))
        clear hb2
        go_wp2_with fail
        go_ret
        exact ⟨by rw [Hres.out]; rfl, Hb2.out⟩
      · have hK : 1 ≤ K := by
          rcases Nat.lt_or_ge x.toNat 128 with h | h
          · have := hda h; injection this with _ h2; omega
          · exact (hdh h).2
        have hR : R ≠ 58 ∧ R ≠ 47 := by
          rcases Nat.lt_or_ge x.toNat 128 with h | h
          · have h1 := hda h
            injection h1 with h1 _
            rw [h1]
            exact ⟨fun e => hhit (.inl (UInt8.toNat_inj.1 e)), fun e => hhit (.inr (UInt8.toNat_inj.1 e))⟩
          · have := (hdh h).1; omega
        have hno2 : Lib.NoAny s.data.toList [58, 47] (pos + K) := by
          intro j b hj hb
          rcases Nat.lt_or_ge j pos with h1 | h1
          · exact hno.out j b h1 hb
          · rcases (by omega : j = pos ∨ pos < j) with rfl | h2
            · rw [hdl] at hb
              injection hb with hb
              subst hb
              simp only [not_or] at hhit
              simp [hhit.1, hhit.2]
            · obtain ⟨q1, q2⟩ := hdr (j - pos) (by omega) (by omega)
              rw [show pos + (j - pos) = j by omega] at q1 q2
              rw [Lib.data_getElem? s j q1] at hb
              injection hb with hb
              have hb2 : 128 ≤ b.toNat := by rw [← hb]; have := get_at s j q1; rw [Nat.add_zero] at this; rw [← this]; exact q2
              have e1 : b ≠ 58 := fun e => by rw [e] at hb2; exact absurd hb2 (by decide)
              have e2 : b ≠ 47 := fun e => by rw [e] at hb2; exact absurd hb2 (by decide)
              simp [e1, e2]
        have HC := Lib.hid (fun W => rune_miss R W hR.1 hR.2)
        have Hno2 := Lib.hid hno2
        have Hbw2 := Lib.hid hbw2
        have Hit2 := Lib.hid hit2
        clear hdh hda hdr hdl hhit hR hno Hno hit hbw hno2 hbw2 hit2
        go_wp2_with fail
        refine (HC.out _).mono ?_
        rintro e w2 ⟨rfl, hb2⟩
        have Hit3 := Lib.hid ((hb2.block w.heap.size (Array.getElem?_eq_some_iff.1 Hit2.out).1).trans Hit2.out)
        have Hb2 := Lib.hid (Hbw2.out.trans (hb2.mono Hbw2.out.size))
        clear hb2
        go_wp2_with fail
        go_roundg g'
        case measure => omega
        case rel => exact ⟨pos + K, by omega, Hit3.out, Hb2.out, Hno2.out⟩
    · have hnx : ∀ ty, (Instr.next (.pointer (some ⟨w.heap.size, 0, none⟩)) true ty).run Tryd.prog wr = _ := fun ty => Lib.run_next_end_at wr w.heap.size s pos ty hit hps
      have hres : Lib.indexAny s.data.toList [58, 47] = -1 := Lib.indexAny_none (fun j b hj hb => hno.out j b (by rw [← Lib.size_eq] at hj; omega) hb)
      have Hres := Lib.hid hres
      clear hres hno hit
      go_wp2_with fail
      go_ret
      exact ⟨by rw [Hres.out]; rfl, hbw⟩
theorem IndexAny_cs (l : List UInt8) (w : World) (hl : l.length ≤ 1000000) : Calls Tryd.prog 107 #[str l, .string ⟨#[58, 47]⟩] w fun e w' => e = .returned (.int .i64 (Lib.indexAny l [58, 47])) ∧ Below w.heap.size w w' := by
  rcases Nat.lt_or_ge 8 l.length with h | h
  · have hsz : (⟨l.toArray⟩ : ByteArray).size = l.length := by simp [ByteArray.size]
    refine (Go.Proofs.Tryd.strings_IndexAny_long zero_set ⟨l.toArray⟩ ⟨#[58, 47]⟩ w (by decide) (by rw [hsz]; exact h) (by rw [hsz]; omega) (by decide) ?_).mono ?_
    · intro j b hj
      match j, hj with
      | 0, hj => simp at hj; subst hj; decide
      | 1, hj => simp at hj; subst hj; decide
    · rintro e w' ⟨rfl, rfl⟩
      exact ⟨rfl, ((Below.refl _ w).alloc (Nat.le_refl _) _).alloc (by simp) _⟩
  · exact IndexAny_short l w h
end Go.Proofs.YtdhmmepcnladcaaDoor

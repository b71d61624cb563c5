import Derived.Test.YtdhmmepcnladcaaDoorUrl1
namespace Go.Proofs.YtdhmmepcnladcaaDoor
open Go.RowKit

set_option maxRecDepth 100000 in
set_option maxHeartbeats 1000000 in
theorem lowerU_any (l : List UInt8) (w : World) (hl : l.length ≤ maxLen) : Calls Tryd.prog 109 #[str l] w fun e w' => e = .returned (str (lowL l)) ∧ Below w.heap.size w w' := by
  unfold maxLen at hl
  obtain ⟨c, w1, hconv, hown, hc, hb1, hsz⟩ := run_toOwn (P := Tryd.prog) w 9 22 5 l Tryd.underlying9 Tryd.underlying22 Tryd.underlying5 rfl
  obtain ⟨n, hn⟩ : ∃ n, n = l.length := ⟨_, rfl⟩
  rw [← hn] at hconv hl hc
  have Hn := Lib.hid hn
  have Hown := Lib.hid hown
  have Hsz := Lib.hid hsz
  clear hn hown hsz
  go_enter Tryd.func109, Tryd.ntmps109
  go_wp2_with fail
  go_loopw [4, 5, 10] (fun _ _ iv wr => LowRel w n l iv wr) (fun _ _ iv _ => n - (intOf iv).toNat)
  case atStart => exact ⟨0, by omega, rfl, hb1, by simpa using Hown.out⟩
  case round =>
    obtain ⟨k, hk, rfl, hbel, hO⟩ := hrel
    have hlen : ((l.take k).map lowB ++ l.drop k).length = n := by
      simp only [List.length_append, List.length_map, List.length_take, List.length_drop]; have := Hn.out; omega
    by_cases hkn : k < n
    · have hkl : k < l.length := by rw [← Hn.out]; exact hkn
      have hfz := hO.fz k (by rw [hlen]; exact hkn)
      have hcell : wr.cell? ⟨w.heap.size, k, none⟩ = some (.int .u8 (nth l k)) := by
        obtain ⟨b, off, hA, _, hc⟩ := hO.by_.opn (by rw [hlen]; omega)
        injection hA with hA
        injection hA with hA hB _
        subst hA
        subst hB
        have := hc k (by rw [hlen]; exact hkn)
        rw [Nat.zero_add] at this
        rw [this]
        have e : nth ((l.take k).map lowB ++ l.drop k) k = nth l k := by
          have : ((l.take k).map lowB).length = k := by simp; omega
          unfold nth
          simp only [List.getD]
          rw [List.getElem?_append_right (by omega), this, Nat.sub_self, List.getElem?_drop, Nat.add_zero]
        rw [e]
      have hx := nth_lt l k
      have hset := (low_at l k hkl).2
      have hnk : l[k].toNat = nth l k := (nth_of l k hkl).symm
      have hO2 := hO.set k (lowB l[k])
      rw [← hset] at hO2
      have HO := Lib.hid hO
      have HO2 := Lib.hid hO2
      have Hset := Lib.hid hset
      have Hnk := Lib.hid hnk
      have Hlen := Lib.hid hlen
      clear hset hnk hO hO2 hlen
      have hsame : ¬ (65 ≤ nth l k ∧ nth l k ≤ 90) → LowRel w n l (.int .i64 ((k + 1 : Nat) : Int)) wr := by
        intro h
        refine ⟨k + 1, by omega, rfl, hbel, ?_⟩
        have e : lowB l[k] = l[k] := by
          unfold lowB
          rw [if_neg]
          intro ⟨h1, h2⟩
          have h1 := UInt8.le_iff_toNat_le.1 h1
          have h2 := UInt8.le_iff_toNat_le.1 h2
          rw [Hnk.out] at h1 h2
          exact h ⟨h1, h2⟩
        rw [Hset.out, e]
        have e2 : ((l.take k).map lowB ++ l.drop k)[k]'(by rw [Hlen.out]; exact hkn) = l[k] := by
          have : ((l.take k).map lowB).length = k := by simp; omega
          rw [List.getElem_append_right (by omega)]
          simp only [List.getElem_drop]
          congr 1
          omega
        rw [← e2, List.set_getElem_self]
        exact HO.out
      by_cases h1 : 65 ≤ nth l k
      · by_cases h2 : nth l k ≤ 90
        · clear hsame
          go_wp2_with fail
          refine ⟨⟨k + 1, by omega, by go_num, hbel.setCell (Nat.le_refl _) _, ?_⟩, by simp [intOf]; omega⟩
          have e : (lowB l[k]).toNat = nth l k + 32 := by
            unfold lowB
            rw [if_pos ⟨UInt8.le_iff_toNat_le.2 (by rw [Hnk.out]; exact h1), UInt8.le_iff_toNat_le.2 (by rw [Hnk.out]; exact h2)⟩, UInt8.toNat_add, Hnk.out]
            show (nth l k + 32) % 256 = _
            omega
          have e2 : ((nth l k : Nat) : Int) + 97 - 65 = (((lowB l[k]).toNat : Nat) : Int) := by rw [e]; omega
          rw [e2]
          exact HO2.out
        · have hs := Lib.hid (hsame (by omega))
          clear hsame
          go_wp2_with fail
          exact ⟨by have := hs.out; simpa using this, by simp [intOf]; omega⟩
      · have hs := Lib.hid (hsame (by omega))
        clear hsame
        go_wp2_with fail
        exact ⟨by have := hs.out; simpa using this, by simp [intOf]; omega⟩
    · have hkn' : k = n := by omega
      have hM : (l.take k).map lowB ++ l.drop k = lowL l := by
        rw [hkn', List.take_of_length_le (by rw [← Hn.out]; omega), List.drop_of_length_le (by rw [← Hn.out]; omega), List.append_nil]; rfl
      rw [hM] at hO hlen
      have hts := run_toStr (P := Tryd.prog) wr 22 9 5 _ (some ⟨w.heap.size, 0, none⟩) n c (lowL l) (by have := hO.by_; rw [hlen] at this; exact this) Tryd.underlying22 Tryd.underlying5 Tryd.underlying9
      clear hO hM hlen hkn'
      go_wp2_with fail
      go_ret
      exact ⟨rfl, hbel⟩
set_option maxRecDepth 100000 in
theorem word1U_any (x b : Nat) (but : List UInt8) (hx : x < 256) (w : World) (hc : w.cell? ⟨b, 0, none⟩ = some (.string ⟨but.toArray⟩)) : Calls Tryd.prog 179 #[.int .u8 (x : Int), .pointer (some ⟨b, 0, none⟩)] w fun e w' => e = .returned (.bool (badU but x)) ∧ w = w' := by
  have hch := fun W => char_any x hx W
  unfold badU
  cases h : charU x with
  | false =>
    rw [h] at hch
    have Hch := Lib.hid hch
    clear hch h
    go_enter Tryd.func179, Tryd.ntmps179
    go_wp2_with fail
    refine (Hch.out _).mono ?_
    rintro e w1 ⟨rfl, rfl⟩
    go_wp2_with fail
    go_ret
    exact ⟨rfl, rfl⟩
  | true =>
    rw [h] at hch
    have hi := fun W => IndexByte_any but x W
    generalize Lib.indexByte but (UInt8.ofNat x) = i at hi ⊢
    have Hch := Lib.hid hch
    have Hi := Lib.hid hi
    clear hch h hi
    go_enter Tryd.func179, Tryd.ntmps179
    go_wp2_with fail
    refine (Hch.out _).mono ?_
    rintro e w1 ⟨rfl, rfl⟩
    go_wp2_with fail
    refine (Hi.out _).mono ?_
    rintro e w1 ⟨rfl, rfl⟩
    go_wp2_with fail
    all_goals
      go_ret
      exact ⟨rfl, rfl⟩
theorem predWordU (b : Nat) (but : List UInt8) (w : World) (hb : b < w.heap.size) (hc : w.cell? ⟨b, 0, none⟩ = some (.string ⟨but.toArray⟩)) : PredB 179 #[.pointer (some ⟨b, 0, none⟩)] (badU but) w := fun W x hx hW =>
  (word1U_any x b but hx W ((hW.cell (p := ⟨b, 0, none⟩) hb).trans hc)).mono fun e w' ⟨h1, h2⟩ => ⟨h1, h2 ▸ Below.refl _ _⟩
set_option maxRecDepth 100000 in
set_option maxHeartbeats 400000 in
theorem wordU_any (s but : List UInt8) (w : World) (hl : s.length ≤ maxLen) : Calls Tryd.prog 120 #[str s, .string ⟨but.toArray⟩] w fun e w' => e = .returned (.bool (wordU s but)) ∧ Below w.heap.size w w' := by
  have hb0 : Below w.heap.size w (w.alloc (.cells #[.string ⟨but.toArray⟩] 9)) := (Below.refl _ w).alloc (Nat.le_refl _) _
  obtain ⟨A, c, w1, hconv, hby, hnc, hb1, hlt1⟩ := run_toBytes (P := Tryd.prog) (w.alloc (.cells #[.string ⟨but.toArray⟩] 9)) 9 22 5 s Tryd.underlying9 Tryd.underlying22 Tryd.underlying5
  have hc0 : (w.alloc (.cells #[.string ⟨but.toArray⟩] 9)).cell? ⟨w.heap.size, 0, none⟩ = some (.string ⟨but.toArray⟩) := by rw [Go.Joins.cell_of_block (heap_alloc_new w _)]; rfl
  have hc1 : w1.cell? ⟨w.heap.size, 0, none⟩ = some (.string ⟨but.toArray⟩) := (hb1.cell (p := ⟨w.heap.size, 0, none⟩) (by simp)).trans hc0
  have hcf := ContainsFunc_bytes 179 #[.pointer (some ⟨w.heap.size, 0, none⟩)] (enters_of Tryd.func179 (by kernel_rfl) rfl) (badU but) A s.length c _ s w1 hby (Nat.le_refl _) hl (predWordU w.heap.size but w1 (by simp at hlt1; omega) hc1)
  unfold wordU
  generalize s.any (fun b => badU but b.toNat) = r at hcf ⊢
  have hbel1 := hb0.trans (hb1.mono hb0.size)
  have Hcf := Lib.hid hcf
  clear hcf hby hc0 hc1 hb1 hb0
  go_enter Tryd.func120, Tryd.ntmps120
  go_wp2_with fail
  refine Hcf.out.mono ?_
  rintro e w2 ⟨rfl, hb2⟩
  go_wp2_with fail
  go_ret
  exact ⟨rfl, hbel1.trans (hb2.mono hbel1.size)⟩
theorem all_missU (l : List UInt8) (p : Nat → Bool) (k : Nat) (hk : k < l.length) (h : p (nth l k) = false) : l.all (fun b => p b.toNat) = false := by
  rw [List.all_eq_false]
  exact ⟨l[k], List.getElem_mem hk, by rw [← nth_of l k hk, h]; simp⟩
theorem all_hitU (l : List UInt8) (p : Nat → Bool) (h : ∀ j, j < l.length → p (nth l j) = true) : l.all (fun b => p b.toNat) = true := by
  rw [List.all_eq_true]
  intro x hx
  obtain ⟨j, hj, rfl⟩ := List.getElem_of_mem hx
  rw [← nth_of l j hj, h j hj]
set_option maxRecDepth 100000 in
set_option maxHeartbeats 4000000 in
theorem schemeU_any (l : List UInt8) (w : World) (hl : l.length ≤ maxLen) : Calls Tryd.prog 108 #[str l] w fun e w' => e = .returned (.bool (schemeU l)) ∧ Below w.heap.size w w' := by
  unfold maxLen at hl
  obtain ⟨A, c, w1, hconv, hby, hnc, hb1, hlt1⟩ := run_toBytes (P := Tryd.prog) w 9 22 5 l Tryd.underlying9 Tryd.underlying22 Tryd.underlying5
  obtain ⟨n, hn⟩ : ∃ n, n = l.length := ⟨_, rfl⟩
  rw [← hn] at hconv hl hby hnc
  obtain ⟨R, hR⟩ : ∃ R, R = schemeU l := ⟨_, rfl⟩
  rw [← hR]
  rw [lowC_scheme] at hR
  have Hn := Lib.hid hn
  have HR := Lib.hid hR
  have Hby := Lib.hid hby
  clear hn hR hby
  go_enter Tryd.func108, Tryd.ntmps108
  go_wp2_with fail
  go_loopw [3, 4, 8] (fun _ _ iv wr => ∃ k : Nat, k ≤ n ∧ iv = .int .i64 k ∧ wr = w1 ∧ Hid (∀ j, j < k → schC (nth l j) = true ∧ (j = 0 → schA (nth l j) = true))) (fun _ _ iv _ => n - (intOf iv).toNat)
  case atStart => exact ⟨0, by omega, rfl, rfl, fun j hj => absurd hj (by omega)⟩
  case round =>
    obtain ⟨k, hk, rfl, rfl, hz⟩ := hrel
    by_cases hkn : k < n
    · obtain ⟨b, off, rfl, _, hcell⟩ := Hby.out.at_ hkn
      have hx := nth_lt l k
      have hkl : k < l.length := by rw [← Hn.out]; exact hkn
      have hbad : (schA (nth l k) = false ∧ (k = 0 ∨ schC (nth l k) = false)) → R = false := by
        rintro ⟨h1, h2⟩
        rw [HR.out, Bool.and_eq_false_iff]
        rcases h2 with rfl | h2
        · right
          have : l ≠ [] := by intro e; rw [e] at hkl; simp at hkl
          simp [this, h1]
        · left
          exact all_missU l schC k hkl h2
      have hgood : (schA (nth l k) = true ∨ (k ≠ 0 ∧ schC (nth l k) = true)) → ∀ j, j < k + 1 → schC (nth l j) = true ∧ (j = 0 → schA (nth l j) = true) := by
        intro h j hj
        rcases Nat.lt_or_ge j k with h' | h'
        · exact hz.out j h'
        · obtain rfl : j = k := by omega
          rcases h with h | ⟨h1, h2⟩
          · exact ⟨by unfold schA at h; unfold schC; simp only [h, Bool.true_or], fun _ => h⟩
          · exact ⟨h2, fun e => absurd e h1⟩
      have Hbad := Lib.hid hbad
      have Hgood := Lib.hid hgood
      clear hbad hgood
      generalize nth l k = x at hcell hx Hbad Hgood
      obtain ⟨q3, d3, e3⟩ : ∃ q : Bool, ((k : Int) == 0) = q ∧ (q = true ↔ k = 0) := ⟨_, rfl, by simp⟩
      obtain ⟨q6, d6, e6⟩ : ∃ q : Bool, ((x : Int) != 43) = q ∧ (q = true ↔ x ≠ 43) := ⟨_, rfl, by simp; omega⟩
      obtain ⟨q7, d7, e7⟩ : ∃ q : Bool, ((x : Int) != 45) = q ∧ (q = true ↔ x ≠ 45) := ⟨_, rfl, by simp; omega⟩
      obtain ⟨q8, d8, e8⟩ : ∃ q : Bool, ((x : Int) != 46) = q ∧ (q = true ↔ x ≠ 46) := ⟨_, rfl, by simp; omega⟩
      by_cases p1 : x < 97 <;> by_cases p2 : 122 < x <;> by_cases p4 : x < 48 <;> by_cases p5 : 57 < x <;> cases q3 <;> cases q6 <;> cases q7 <;> cases q8 <;> simp at e3 e6 e7 e8 <;> (try (exfalso; omega))
      all_goals
        have E3 := Lib.hid e3
        have E6 := Lib.hid e6
        have E7 := Lib.hid e7
        have E8 := Lib.hid e8
        clear e3 e6 e7 e8
        go_wp2_with fail
        first
        | (go_ret
           have hRf := Hbad.out ⟨by simp [schA]; omega, by first | exact .inl E3.out | (right; have := E6.out; have := E7.out; have := E8.out; simp [schC]; omega)⟩
           exact ⟨by rw [hRf]; rfl, hb1⟩)
        | exact ⟨⟨k + 1, by omega, by go_num, trivial, Hgood.out (by first | (left; simp [schA]; omega) | (right; have := E3.out; have := E6.out; have := E7.out; have := E8.out; exact ⟨by omega, by simp [schC]; omega⟩))⟩, by simp [intOf]; omega⟩
    · have hRt : R = true := by
        rw [HR.out, Bool.and_eq_true]
        refine ⟨all_hitU l schC fun j hj => (hz.out j (by rw [← Hn.out] at hj; omega)).1, ?_⟩
        rcases Nat.eq_zero_or_pos l.length with h | h
        · rw [List.eq_nil_of_length_eq_zero h]; rfl
        · rw [(hz.out 0 (by rw [← Hn.out] at h; omega)).2 rfl]; simp
      have HRt := Lib.hid hRt
      clear hRt
      go_wp2_with fail
      go_ret
      exact ⟨by rw [HRt.out]; rfl, hb1⟩
theorem first_any (l : List UInt8) (w : World) (hl : l.length ≤ maxLen) : Calls Tryd.prog 121 #[str l] w fun e w' => e = .returned (str (Lib.cut l [47]).1) ∧ Below w.heap.size w w' := by
  have h := Cut_one l 47 w hl
  generalize Lib.cut l [47] = x at h ⊢
  obtain ⟨a, b, d⟩ := x
  have H := Lib.hid h
  clear h
  go_enter Tryd.func121, Tryd.ntmps121
  go_wp2_with fail
  refine H.out.mono ?_
  rintro e w1 ⟨rfl, q, rfl⟩
  go_wp2_with fail
  go_ret
  exact ⟨rfl, belN (Below.refl _ _) q⟩
end Go.Proofs.YtdhmmepcnladcaaDoor

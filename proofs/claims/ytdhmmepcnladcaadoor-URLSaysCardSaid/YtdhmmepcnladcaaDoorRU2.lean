import Derived.Test.YtdhmmepcnladcaaDoorRU1
import Derived.Test.YtdhmmepcnladcaaDoorIdxAny
import Derived.Shelf.Strings.SlTrimAscii
namespace Go.Proofs.YtdhmmepcnladcaaDoor
open Go.RowKit

/-! ### The document's tests of texts -/
def okB (lo hi : Nat) (but : List UInt8) (x : Nat) : Bool := !(decide (x < lo) || decide (hi < x) || decide (0 ≤ Lib.indexByte but (x : Int).toNat.toUInt8))
theorem all_miss (l : List UInt8) (p : Nat → Bool) (k : Nat) (hk : k < l.length) (h : p (nth l k) = false) : l.all (fun b => p b.toNat) = false := by
  rw [List.all_eq_false]
  exact ⟨l[k], List.getElem_mem hk, by rw [← nth_of l k hk, h]; simp⟩
theorem all_hit (l : List UInt8) (p : Nat → Bool) (h : ∀ j, j < l.length → p (nth l j) = true) : l.all (fun b => p b.toNat) = true := by
  rw [List.all_eq_true]
  intro x hx
  obtain ⟨j, hj, rfl⟩ := List.getElem_of_mem hx
  rw [← nth_of l j hj, h j hj]
set_option maxRecDepth 100000 in
set_option maxHeartbeats 1000000 in
theorem between_any (l : List UInt8) (lo hi : Nat) (but : ByteArray) (w : World) (hl : l.length ≤ maxLen) (h1 : lo < 256) (h2 : hi < 256) :
    Calls Tryd.prog 90 #[str l, .int .u8 (lo : Nat), .int .u8 (hi : Nat), .string but] w fun e w' => e = .returned (.bool (l.all (fun b => okB lo hi but.data.toList b.toNat))) ∧ w' = w := by
  unfold maxLen at hl
  have hm := fun k => all_miss l (okB lo hi but.data.toList) k
  have ha := all_hit l (okB lo hi but.data.toList)
  generalize l.all (fun b => okB lo hi but.data.toList b.toNat) = r at hm ha ⊢
  obtain ⟨n, hn⟩ : ∃ n, n = l.length := ⟨_, rfl⟩
  rw [← hn] at hm ha hl
  have Hn := Lib.hid hn
  have Hm := Lib.hid hm
  have Ha := Lib.hid ha
  clear hn hm ha
  go_enter Tryd.func90, Tryd.ntmps90
  go_wp2_with fail
  rw [← Hn.out]
  go_loopw [12] (fun iv wr => ∃ k : Nat, k ≤ n ∧ iv = .int .i64 k ∧ wr = w ∧ Hid (∀ j, j < k → okB lo hi but.data.toList (nth l j) = true)) (fun iv _ => n - (intOf iv).toNat)
  case atStart => exact ⟨0, by omega, rfl, rfl, Lib.hid fun j hj => absurd hj (by omega)⟩
  case round =>
    obtain ⟨k, hk, rfl, rfl, hz⟩ := hrel
    by_cases hkn : k < n
    · have hkl : k < l.length := by rw [← Hn.out]; exact hkn
      have hmk := Hm.out k hkn
      have hx : nth l k < 256 := nth_lt l k
      by_cases c1 : nth l k < lo
      · have d1 : decide (((nth l k : Nat) : Int) < lo) = true := by simp; omega
        have hr : Hid (r = false) := hmk (by simp [okB, c1])
        clear hmk
        go_wp2_with fail
        go_ret
        exact ⟨by rw [hr.out]; rfl, rfl⟩
      · have d1 : decide (((nth l k : Nat) : Int) < lo) = false := by simp; omega
        by_cases c2 : hi < nth l k
        · have d2 : decide ((hi : Int) < (nth l k : Nat)) = true := by simp; omega
          have hr : Hid (r = false) := hmk (by simp [okB, c2])
          clear hmk
          go_wp2_with fail
          go_ret
          exact ⟨by rw [hr.out]; rfl, rfl⟩
        · have d2 : decide ((hi : Int) < (nth l k : Nat)) = false := by simp; omega
          have hib := fun W => Go.Proofs.Tryd.strings_IndexByte but (nth l k : Nat) W
          have hok : okB lo hi but.data.toList (nth l k) = !decide (0 ≤ Lib.indexByte but.data.toList ((nth l k : Nat) : Int).toNat.toUInt8) := by simp [okB, c1, c2]
          generalize Lib.indexByte but.data.toList ((nth l k : Nat) : Int).toNat.toUInt8 = z at hib hok
          have Hib := Lib.hid hib
          have Hok := Lib.hid hok
          clear hib hok
          by_cases c3 : 0 ≤ z
          · have d3 : decide (0 ≤ z) = true := by simpa using c3
            have hr : Hid (r = false) := hmk (by rw [Hok.out, d3]; rfl)
            clear hmk
            go_wp2_with fail
            refine (Hib.out _).mono ?_
            rintro e w1 ⟨rfl, rfl⟩
            go_wp2_with fail
            go_ret
            exact ⟨by rw [hr.out]; rfl, rfl⟩
          · have d3 : decide (0 ≤ z) = false := by simpa using c3
            clear hmk
            go_wp2_with fail
            refine (Hib.out _).mono ?_
            rintro e w1 ⟨rfl, rfl⟩
            go_wp2_with fail
            refine ⟨⟨k + 1, by omega, by go_num, trivial, Lib.hid fun j hj => ?_⟩, by simp [intOf]; omega⟩
            rcases Nat.lt_or_ge j k with h | h
            · exact hz.out j h
            · rw [show j = k from by omega, Hok.out, d3]; rfl
    · have hr : Hid (r = true) := Ha.out fun j hj => hz.out j (by omega)
      go_wp2_with fail
      go_ret
      exact ⟨by rw [hr.out]; rfl, rfl⟩

/-! ### In url's own words -/
def notS (but : List UInt8) : List UInt8 := [34, 60, 62, 92, 94, 96, 123, 124, 125] ++ but
theorem ok_host : ∀ x : Fin 256, okB 33 126 (notS ([47, 63, 35] ++ capsL)) x.val = (!badU [47, 63, 35] x.val && !(decide (65 ≤ x.val) && decide (x.val ≤ 90))) := by decide +kernel
theorem ok_path : ∀ x : Fin 256, okB 33 126 (notS [63, 35]) x.val = !badU [63, 35] x.val := by decide +kernel
theorem ok_frag : ∀ x : Fin 256, okB 33 126 (notS [35]) x.val = !badU [35] x.val := by decide +kernel
theorem wordU_all (l but : List UInt8) : wordU l but = l.all (fun b => !badU but b.toNat) := by
  unfold wordU
  rw [List.all_eq_not_any_not]
  simp
theorem between_path (l : List UInt8) : l.all (fun b => okB 33 126 (notS [63, 35]) b.toNat) = wordU l [63, 35] := by
  rw [wordU_all]
  congr 1
  funext b
  exact ok_path ⟨b.toNat, b.toNat_lt⟩
theorem between_frag (l : List UInt8) : l.all (fun b => okB 33 126 (notS [35]) b.toNat) = wordU l [35] := by
  rw [wordU_all]
  congr 1
  funext b
  exact ok_frag ⟨b.toNat, b.toNat_lt⟩
theorem low_all (l : List UInt8) : (l == lowL l) = l.all (fun b => !(decide (65 ≤ b.toNat) && decide (b.toNat ≤ 90))) := by
  induction l with
  | nil => rfl
  | cons a l ih =>
    rw [List.all_cons, ← ih, Bool.eq_iff_iff]
    simp only [lowL, List.map_cons, beq_iff_eq, List.cons.injEq, Bool.and_eq_true, Bool.not_eq_true', Bool.and_eq_false_iff, decide_eq_false_iff_not]
    constructor
    · rintro ⟨h1, h2⟩
      refine ⟨?_, h2⟩
      have := congrArg UInt8.toNat h1
      rw [lowB_nat] at this
      split at this <;> omega
    · rintro ⟨h1, h2⟩
      exact ⟨(lowB_same (by omega)).symm, h2⟩
theorem all_and (l : List UInt8) (p q : UInt8 → Bool) : l.all (fun b => p b && q b) = (l.all p && l.all q) := by
  induction l with
  | nil => rfl
  | cons a l ih =>
    rw [List.all_cons, List.all_cons, List.all_cons, ih]
    cases p a <;> cases q a <;> cases l.all p <;> rfl
theorem between_host (l : List UInt8) : l.all (fun b => okB 33 126 (notS ([47, 63, 35] ++ capsL)) b.toNat) = (wordU l [47, 63, 35] && (l == lowL l)) := by
  rw [wordU_all, low_all, ← all_and]
  congr 1
  funext b
  exact ok_host ⟨b.toNat, b.toNat_lt⟩
def schS2 : List UInt8 := [97, 98, 99, 100, 101, 102, 103, 104, 105, 106, 107, 108, 109, 110, 111, 112, 113, 114, 115, 116, 117, 118, 119, 120, 121, 122, 48, 49, 50, 51, 52, 53, 54, 55, 56, 57, 43, 45, 46]
theorem sch_set : ∀ x : Fin 256, schS2.contains (UInt8.ofNat x.val) = schC x.val := by decide +kernel
theorem trim_all (l cs : List UInt8) : (Lib.trimS l cs == []) = l.all (fun b => cs.contains b) := by
  have h1 : ∀ l : List UInt8, (l.dropWhile (cs.contains ·) == []) = l.all (fun b => cs.contains b) := by
    intro l
    induction l with
    | nil => rfl
    | cons a l ih =>
      rw [List.dropWhile_cons, List.all_cons]
      cases h : cs.contains a
      · rfl
      · rw [if_pos rfl, Bool.true_and]; exact ih
  have h2 : (Lib.trimRightS l cs).all (fun b => cs.contains b) = l.all (fun b => cs.contains b) := by
    unfold Lib.trimRightS
    rw [List.all_reverse]
    have h3 : ∀ l : List UInt8, (l.dropWhile (cs.contains ·)).all (fun b => cs.contains b) = l.all (fun b => cs.contains b) := by
      intro l
      induction l with
      | nil => rfl
      | cons a l ih =>
        rw [List.dropWhile_cons, List.all_cons]
        cases h : cs.contains a
        · rw [if_neg (by simp), List.all_cons, h]
        · rw [if_pos rfl, Bool.true_and]; exact ih
    rw [h3, List.all_reverse]
  unfold Lib.trimS Lib.trimLeftS
  rw [h1, h2]
theorem Trim_sch (l : List UInt8) (w : World) (hl : l.length ≤ maxLen) : Calls Tryd.prog 94 #[str l, .string ⟨schS2.toArray⟩] w fun e w' => e = .returned (str (Lib.trimS l schS2)) ∧ Below w.heap.size w w' :=
  Any.strings_Trim_laid Go.Proofs.Tryd.lays160 (by kernel_rfl) ⟨l.toArray⟩ ⟨schS2.toArray⟩ w (by unfold maxLen at hl; simpa [ByteArray.size] using hl) (by decide) (ascii_of_all (by decide))
set_option maxRecDepth 100000 in
set_option maxHeartbeats 1000000 in
theorem isScheme_any (l : List UInt8) (w : World) (hl : l.length ≤ maxLen) : Calls Tryd.prog 115 #[str l] w fun e w' => e = .returned (.bool (schemeU l)) ∧ Below w.heap.size w w' := by
  by_cases h0 : l = []
  · subst h0
    go_enter Tryd.func115, Tryd.ntmps115
    go_wp2_with fail
    go_ret
    exact ⟨rfl, Below.refl _ _⟩
  · have e0 : (l == []) = false := by simpa using h0
    have hp : 0 < l.length := List.length_pos_iff.2 h0
    have hT : ∀ W, Calls Tryd.prog 94 #[str l, .string ⟨#[97, 98, 99, 100, 101, 102, 103, 104, 105, 106, 107, 108, 109, 110, 111, 112, 113, 114, 115, 116, 117, 118, 119, 120, 121, 122, 48, 49, 50, 51, 52, 53, 54, 55, 56, 57, 43, 45, 46]⟩] W fun e w' => e = .returned (str (Lib.trimS l schS2)) ∧ Below W.heap.size W w' := fun W => Trim_sch l W hl
    have hc := trim_all l schS2
    have hall : l.all (fun b => schS2.contains b) = l.all (fun b => schC b.toNat) := by
      congr 1
      funext b
      have := sch_set ⟨b.toNat, b.toNat_lt⟩
      rw [ofNat_toNat8] at this
      exact this
    rw [hall] at hc
    have hsU : schemeU l = (l.all (fun b => schC b.toNat) && (false || schA (nth l 0))) := by rw [lowC_scheme, e0]
    generalize l.all (fun b => schC b.toNat) = q at hc hsU
    generalize Lib.trimS l schS2 = t at hT hc
    obtain ⟨R, hR⟩ : ∃ R, R = schemeU l := ⟨_, rfl⟩
    rw [← hR] at hsU ⊢
    have HT := Lib.hid hT
    have HS := Lib.hid hsU
    have H0 := Lib.hid h0
    clear hT hsU hR hall h0
    cases q
    · go_enter Tryd.func115, Tryd.ntmps115
      go_wp2_with fail
      refine (HT.out _).mono ?_
      rintro e w1 ⟨rfl, hb1⟩
      go_wp2_with fail
      go_ret
      exact ⟨by rw [HS.out]; rfl, hb1⟩
    · by_cases c1 : 97 ≤ nth l 0
      · by_cases c2 : nth l 0 ≤ 122
        · have HA := Lib.hid (show schA (nth l 0) = true by simp [schA, c1, c2])
          have d2 : decide (((nth l 0 : Nat) : Int) ≤ 122) = true := decide_eq_true (by omega)
          go_enter Tryd.func115, Tryd.ntmps115
          go_wp2_with fail
          refine (HT.out _).mono ?_
          rintro e w1 ⟨rfl, hb1⟩
          go_wp2_with fail
          go_ret
          exact ⟨by rw [HS.out, HA.out]; rfl, hb1⟩
        · have HA := Lib.hid (show schA (nth l 0) = false by simp [schA, c2])
          have d2 : decide (((nth l 0 : Nat) : Int) ≤ 122) = false := decide_eq_false (by omega)
          go_enter Tryd.func115, Tryd.ntmps115
          go_wp2_with fail
          refine (HT.out _).mono ?_
          rintro e w1 ⟨rfl, hb1⟩
          go_wp2_with fail
          go_ret
          exact ⟨by rw [HS.out, HA.out]; rfl, hb1⟩
      · have HA := Lib.hid (show schA (nth l 0) = false by simp [schA, c1])
        go_enter Tryd.func115, Tryd.ntmps115
        go_wp2_with fail
        refine (HT.out _).mono ?_
        rintro e w1 ⟨rfl, hb1⟩
        go_wp2_with fail
        go_ret
        exact ⟨by rw [HS.out, HA.out]; rfl, hb1⟩
end Go.Proofs.YtdhmmepcnladcaaDoor

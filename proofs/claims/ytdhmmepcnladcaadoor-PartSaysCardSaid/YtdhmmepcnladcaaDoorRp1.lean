import Derived.Test.YtdhmmepcnladcaaDoorPart2
namespace Go.Proofs.YtdhmmepcnladcaaDoor
open Go.RowKit

/-! ### The document's tests of texts -/
def okP (lo hi : Nat) (but : List UInt8) (x : Nat) : Bool := !(decide (x < lo) || decide (hi < x) || decide (0 ≤ Lib.indexByte but (x : Int).toNat.toUInt8))
theorem all_missP (l : List UInt8) (p : Nat → Bool) (k : Nat) (hk : k < l.length) (h : p (nth l k) = false) : l.all (fun b => p b.toNat) = false := by
  rw [List.all_eq_false]
  exact ⟨l[k], List.getElem_mem hk, by rw [← nth_of l k hk, h]; simp⟩
theorem all_hitP (l : List UInt8) (p : Nat → Bool) (h : ∀ j, j < l.length → p (nth l j) = true) : l.all (fun b => p b.toNat) = true := by
  rw [List.all_eq_true]
  intro x hx
  obtain ⟨j, hj, rfl⟩ := List.getElem_of_mem hx
  rw [← nth_of l j hj, h j hj]
set_option maxRecDepth 100000 in
set_option maxHeartbeats 1000000 in
theorem betweenP_any (l : List UInt8) (lo hi : Nat) (but : ByteArray) (w : World) (hl : l.length ≤ maxLen) (h1 : lo < 256) (h2 : hi < 256) :
    Calls Tryd.prog 90 #[str l, .int .u8 (lo : Nat), .int .u8 (hi : Nat), .string but] w fun e w' => e = .returned (.bool (l.all (fun b => okP lo hi but.data.toList b.toNat))) ∧ w' = w := by
  unfold maxLen at hl
  have hm := fun k => all_missP l (okP lo hi but.data.toList) k
  have ha := all_hitP l (okP lo hi but.data.toList)
  generalize l.all (fun b => okP lo hi but.data.toList b.toNat) = r at hm ha ⊢
  obtain ⟨n, hn⟩ : ∃ n, n = l.length := ⟨_, rfl⟩
  rw [← hn] at hm ha hl
  have Hn := Lib.hid hn
  have Hm := Lib.hid hm
  have Ha := Lib.hid ha
  clear hn hm ha
  go_enter Tryd.func90, Tryd.ntmps90
  go_wp2_with fail
  rw [← Hn.out]
  go_loopw [12] (fun iv wr => ∃ k : Nat, k ≤ n ∧ iv = .int .i64 k ∧ wr = w ∧ Hid (∀ j, j < k → okP lo hi but.data.toList (nth l j) = true)) (fun iv _ => n - (intOf iv).toNat)
  case atStart => exact ⟨0, by omega, rfl, rfl, Lib.hid fun j hj => absurd hj (by omega)⟩
  case round =>
    obtain ⟨k, hk, rfl, rfl, hz⟩ := hrel
    by_cases hkn : k < n
    · have hkl : k < l.length := by rw [← Hn.out]; exact hkn
      have hmk := Hm.out k hkn
      have hx : nth l k < 256 := nth_lt l k
      by_cases c1 : nth l k < lo
      · have d1 : decide (((nth l k : Nat) : Int) < lo) = true := by simp; omega
        have hr : Hid (r = false) := hmk (by simp [okP, c1])
        clear hmk
        go_wp2_with fail
        go_ret
        exact ⟨by rw [hr.out]; rfl, rfl⟩
      · have d1 : decide (((nth l k : Nat) : Int) < lo) = false := by simp; omega
        by_cases c2 : hi < nth l k
        · have d2 : decide ((hi : Int) < (nth l k : Nat)) = true := by simp; omega
          have hr : Hid (r = false) := hmk (by simp [okP, c2])
          clear hmk
          go_wp2_with fail
          go_ret
          exact ⟨by rw [hr.out]; rfl, rfl⟩
        · have d2 : decide ((hi : Int) < (nth l k : Nat)) = false := by simp; omega
          have hib := fun W => Go.Proofs.Tryd.strings_IndexByte but (nth l k : Nat) W
          have hok : okP lo hi but.data.toList (nth l k) = !decide (0 ≤ Lib.indexByte but.data.toList ((nth l k : Nat) : Int).toNat.toUInt8) := by simp [okP, c1, c2]
          generalize Lib.indexByte but.data.toList ((nth l k : Nat) : Int).toNat.toUInt8 = z at hib hok
          have Hib := Lib.hid hib
          have Hok := Lib.hid hok
          clear hib hok
          by_cases c3 : 0 ≤ z
          · have d3 : decide (0 ≤ z) = true := by simpa using c3
            have hr : Hid (r = false) := hmk (by rw [Hok.out, d3]; rfl)
            clear hmk
            go_wp2_with fail
            refine (Hib.out _).mono ?_
            rintro e w1 ⟨rfl, rfl⟩
            go_wp2_with fail
            go_ret
            exact ⟨by rw [hr.out]; rfl, rfl⟩
          · have d3 : decide (0 ≤ z) = false := by simpa using c3
            clear hmk
            go_wp2_with fail
            refine (Hib.out _).mono ?_
            rintro e w1 ⟨rfl, rfl⟩
            go_wp2_with fail
            refine ⟨⟨k + 1, by omega, by go_num, trivial, Lib.hid fun j hj => ?_⟩, by simp [intOf]; omega⟩
            rcases Nat.lt_or_ge j k with h | h
            · exact hz.out j h
            · rw [show j = k from by omega, Hok.out, d3]; rfl
    · have hr : Hid (r = true) := Ha.out fun j hj => hz.out j (by omega)
      go_wp2_with fail
      go_ret
      exact ⟨by rw [hr.out]; rfl, rfl⟩
end Go.Proofs.YtdhmmepcnladcaaDoor

import Derived.Test.YtoolfhjlhhcbgaaDoorLet
import Derived.Test.YtoolfhjlhhcbgaaDoorLines
namespace Go.Proofs.YtoolfhjlhhcbgaaDoor
open Go.RowKit

set_option maxHeartbeats 400000 in
theorem wide1_any (x : List UInt8) (w : World) : Calls Tryd.prog 49 #[str x] w fun e w' => e = .returned (.bool (decide ((76 : Int) < x.length))) ∧ w = w' := by
  go_enter Tryd.func49, Tryd.ntmps49
  go_wp2_with fail
  go_ret
  exact ⟨rfl, rfl⟩

set_option maxHeartbeats 400000 in
theorem indexFunc_wide (A : Option Addr) (n c B : Nat) (L : List (List UInt8)) (w : World) (hS : Sl w B 1 A n (L.map str)) (hm : n ≤ 4000000) (hL : ∀ x ∈ L, x.length ≤ 76) :
    Calls Tryd.prog 87 #[.slice A n c, .func (.func 49) #[] #[]] w fun e w' => e = .returned (.int .i64 (-1)) ∧ w = w' := by
  go_enter Tryd.func87, Tryd.ntmps87
  go_wp2_with fail
  go_loopw [8] (fun iv wr => ∃ k : Nat, k ≤ n ∧ iv = .int .i64 k ∧ wr = w) (fun iv _ => n - (intOf iv).toNat)
  case atStart => exact ⟨0, by omega, rfl, rfl⟩
  case round =>
    obtain ⟨k, hk, rfl, rfl⟩ := hrel
    by_cases hkn : k < n
    · obtain ⟨b, off, u, rfl, _, hu, hc⟩ := hS.at_ hkn
      obtain ⟨x, hx, hxu⟩ : ∃ x ∈ L, str x = u := by
        rw [List.getElem?_map, Option.map_eq_some_iff] at hu
        obtain ⟨x, hx, hxu⟩ := hu
        exact ⟨x, List.mem_of_getElem? hx, hxu⟩
      subst hxu
      have h76 := hL x hx
      clear hu
      go_wp2_with fail
      refine (wide1_any x _).mono ?_
      rintro e w1 ⟨rfl, rfl⟩
      have hd : decide ((76 : Int) < x.length) = false := by simp; omega
      go_wp2_with fail
      exact ⟨⟨k + 1, by omega, by go_num, trivial⟩, by simp [intOf]; omega⟩
    · go_wp2_with fail
      go_ret
      exact ⟨rfl, rfl⟩

set_option maxHeartbeats 400000 in
theorem containsFunc_wide (A : Option Addr) (n c B : Nat) (L : List (List UInt8)) (w : World) (hS : Sl w B 1 A n (L.map str)) (hm : n ≤ 4000000) (hL : ∀ x ∈ L, x.length ≤ 76) :
    Calls Tryd.prog 47 #[.slice A n c, .func (.func 49) #[] #[]] w fun e w' => e = .returned (.bool false) ∧ w = w' := by
  go_enter Tryd.func47, Tryd.ntmps47
  go_wp2_with fail
  refine (indexFunc_wide A n c B L _ hS hm hL).mono ?_
  rintro e w1 ⟨rfl, rfl⟩
  go_wp2_with fail
  go_ret
  exact ⟨rfl, rfl⟩

/-- What the walks ask of the library's own variable. -/
def MaxLenOk (w : World) : Prop := ∃ m, w.cell? ⟨0, 0, none⟩ = some (.int .i64 m)
theorem MaxLenOk.below {w w' : World} (h : MaxLenOk w) (hb : Below w.heap.size w w') : MaxLenOk w' := by
  obtain ⟨m, hm⟩ := h
  have hlt : 0 < w.heap.size := by
    rcases Nat.lt_or_ge 0 w.heap.size with h' | h'
    · exact h'
    · simp [World.cell?, Array.getElem?_eq_none h'] at hm
  exact ⟨m, (hb.cell (p := ⟨0, 0, none⟩) hlt).trans hm⟩

set_option maxHeartbeats 400000 in
theorem wide_any (L : List (List UInt8)) (w : World) (hM : MaxLenOk w) (h0 : L ≠ []) (hL : ∀ x ∈ L, x.length ≤ 76 ∧ ∀ c ∈ x, c ≠ 13 ∧ c ≠ 10) (hl : (joinL L).length ≤ 24000) :
    Calls Tryd.prog 13 #[str (joinL L)] w fun e w' => e = .returned (.bool true) ∧ Below w.heap.size w w' := by
  obtain ⟨m, hm⟩ := hM
  have hx : ∀ x ∈ L, ∀ c ∈ x, c ≠ 13 := fun x h c hc => ((hL x h).2 c hc).1
  have hLn : L.length ≤ 24001 := by have := joinL_len L; omega
  have hsp := Go.Proofs.Tryd.strings_Split ⟨(joinL L).toArray⟩ ⟨#[13, 10]⟩ m w (by simp [ByteArray.size]; omega) hm (by decide)
  have hcnt : Lib.countB (⟨(joinL L).toArray⟩ : ByteArray) ⟨#[13, 10]⟩ = L.length - 1 := count_join L hx
  have hpos : 0 < L.length := List.length_pos_iff.2 h0
  rw [hcnt, splitB_data [13, 10] (L.length - 1) ⟨(joinL L).toArray⟩] at hsp
  rw [show (⟨(joinL L).toArray⟩ : ByteArray).data.toList = joinL L from rfl, split_join L h0 hx, show L.length - 1 + 1 = L.length by omega] at hsp
  have Hsp := Lib.hid hsp
  clear hsp hcnt
  generalize hj : joinL L = J at *
  have HJ := Lib.hid hj; clear hj hm
  go_enter Tryd.func13, Tryd.ntmps13
  go_wp2_with fail
  refine Hsp.out.mono ?_
  rintro e w1 ⟨rfl, rfl⟩
  go_wp2_with fail
  refine (containsFunc_wide _ L.length L.length (w.heap.size + 1) L _ (Sl.row w _ 1 L.length (L.map str) (by simp)) (by omega) (fun x h => (hL x h).1)).mono ?_
  rintro e w2 ⟨rfl, rfl⟩
  go_wp2_with fail
  go_ret
  exact ⟨rfl, (Below.refl _ w).alloc (Nat.le_refl _) _⟩
end Go.Proofs.YtoolfhjlhhcbgaaDoor

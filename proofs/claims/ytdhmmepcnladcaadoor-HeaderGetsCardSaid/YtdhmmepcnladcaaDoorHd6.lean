import Derived.Test.YtdhmmepcnladcaaDoorHd5
import Derived.Test.YtdhmmepcnladcaaDoorHdG
namespace Go.Proofs.YtdhmmepcnladcaaDoor
open Go.RowKit

/-! ### header.Get, of ASCII names -/
def asciiL (l : List UInt8) : Prop := l.length ≤ 1000 ∧ ∀ b ∈ l, b.toNat < 128
theorem EqualFold_ascii (a b : List UInt8) (w : World) (ha : asciiL a) (hb : asciiL b) :
    Calls Tryd.prog 69 #[str a, str b] w fun e w' => e = .returned (.bool (Lib.equalFold a b)) ∧ w' = w :=
  Go.Proofs.Tryd.strings_EqualFold ⟨a.toArray⟩ ⟨b.toArray⟩ w (by have := ha.1; simp [ByteArray.size]; omega) (fun j x hx => ha.2 x (List.mem_of_getElem? hx)) (fun j x hx => hb.2 x (List.mem_of_getElem? hx))
theorem tok_asciiL {l : List UInt8} (h : tokB l = true) : asciiL l := ⟨by have := (tok_mem h).2.1; omega, tok_ascii l h⟩
theorem chk_asciiL {l : List FieldD} (h : chkF l = 0) : ∀ f ∈ l, asciiL f.name := fun f hf => tok_asciiL (ok_field ((chk_len h).2 f hf)).1
def GetRel (l : List FieldD) (name R : List UInt8) (n : Nat) (w : World) (iv : Value) (wr : World) : Prop :=
  ∃ i : Nat, iv = .int .i64 (i : Nat) ∧ i ≤ n ∧ Hid (getF (l.drop i) name = R) ∧ Below w.heap.size w wr
theorem getF_cons (f : FieldD) (l : List FieldD) (name : List UInt8) : getF (f :: l) name = if Lib.equalFold f.name name then f.value else getF l name := rfl
set_option maxRecDepth 100000 in
set_option maxHeartbeats 1000000 in
theorem Get_ascii (l : List FieldD) (name : List UInt8) (A : Option Addr) (n c B : Nat) (w : World) (h : Sl w B 2 A n (fieldC l)) (hB : B ≤ w.heap.size) (hn : n ≤ maxLen) (ha : ∀ f ∈ l, asciiL f.name) (hna : asciiL name) :
    Calls Tryd.prog 61 #[.slice A n c, str name] w fun e w' => e = .returned (str (getF l name)) ∧ Below w.heap.size w w' := by
  have hl : l.length = n := by have := h.1; rw [fieldC_len] at this; omega
  obtain ⟨R, hR⟩ : ∃ R, getF l name = R := ⟨_, rfl⟩
  rw [hR]
  unfold maxLen at hn
  have HR := Lib.hid hR
  have Hl := Lib.hid hl
  have Ha := Lib.hid ha
  have Hna := Lib.hid hna
  have HS := Lib.hid h
  clear hR hl ha hna h
  go_enter Tryd.func61, Tryd.ntmps61
  go_wp2_with fail
  go_loopw [9] (GetRel l name R n w) (fun iv _ => n - (intOf iv).toNat)
  case atStart => exact ⟨0, rfl, Nat.zero_le _, HR.out, Below.refl _ _⟩
  case round =>
    clear HR
    obtain ⟨i, rfl, hi, hE, hbel⟩ := hrel
    by_cases hin : i < n
    · obtain ⟨b, off, x, rfl, hbB, hx, x0, x1⟩ := (HS.out.below (hbel.mono hB)).field i hin
      have hxa := Ha.out x (List.mem_of_mem_drop (i := i) (by rw [hx]; simp))
      have hef := fun W => EqualFold_ascii x.name name W hxa Hna.out
      have hE2 : Hid (R = if Lib.equalFold x.name name then x.value else getF (l.drop (i + 1)) name) := by show R = _; rw [← hE.out, hx, getF_cons]
      generalize Lib.equalFold x.name name = r at hef hE2
      have Hef := Lib.hid hef
      have hbA := hbel.alloc hbel.size (.cells #[str x.name, str x.value] 46)
      have y1 := (box2_new wr 46 (str x.name) (str x.value)).2
      clear hx hE hef hxa
      go_wp2_with fail
      refine (Hef.out _).mono ?_
      rintro e w1 ⟨rfl, rfl⟩
      clear x0 x1
      cases r
      · have hE3 : Hid (getF (l.drop (i + 1)) name = R) := by show _ = R; rw [hE2.out]; simp
        clear hE2
        go_wp2_with fail
        exact ⟨⟨i + 1, by go_num, by omega, hE3, hbA⟩, by simp [intOf]; omega⟩
      · have hE3 : Hid (x.value = R) := by show _ = R; rw [hE2.out]; simp
        clear hE2
        go_wp2_with fail
        go_ret
        exact ⟨by rw [← hE3.out]; rfl, hbA⟩
    · have hE3 : Hid ([] = R) := by show [] = R; rw [← hE.out, List.drop_of_length_le (by rw [Hl.out]; omega)]; rfl
      clear hE
      go_wp2_with fail
      go_ret
      exact ⟨by rw [← hE3.out]; rfl, hbel⟩
end Go.Proofs.YtdhmmepcnladcaaDoor

import Derived.Test.YtdhmmepcnladcaaDoorBuild
import Derived.Test.YtdhmmepcnladcaaDoorUrlP
import Derived.Shelf.Strings.CaseAny
namespace Go.Proofs.YtdhmmepcnladcaaDoor
open Go.RowKit

/-! ### The document's Small, of ASCII text -/
/-- What the package variables of the library's decoder hold. -/
def U8Ok (w : World) : Prop := Lib.Utf8Tabs 4 5 w
theorem U8Ok.below {w w' : World} (h : U8Ok w) (hb : Below w.heap.size w w') : U8Ok w' := Utf8Tabs_below h hb
theorem U8Ok.drewN {w : World} (h : U8Ok w) (n : Nat) : U8Ok (w.drewN n) := h
def lowR (x : Int) : Int := if 65 ≤ x ∧ x ≤ 90 then x + 32 else x
set_option maxRecDepth 100000 in
theorem lowR_byte : ∀ i : Fin 128, Lib.encodeRune (lowR (i.val : Int)) = [lowB (UInt8.ofNat i.val)] := by decide
theorem mapD_low : ∀ (l : List UInt8), (∀ b ∈ l, b.toNat < 128) → Lib.mapD lowR l = lowL l
  | [], _ => rfl
  | b :: t, ha => by
    have hb := ha b List.mem_cons_self
    have ih := mapD_low t (fun x hx => ha x (List.mem_cons_of_mem _ hx))
    rw [Lib.mapD_step lowR (b :: t) (by simp), Lib.decodeL_ascii b t hb]
    dsimp only
    have h0 : 0 ≤ lowR (b.toNat : Int) := by unfold lowR; split <;> omega
    rw [if_pos h0, lowR_byte ⟨b.toNat, hb⟩, List.drop_succ_cons, List.drop_zero, ih]
    simp [lowL]
set_option maxRecDepth 100000 in
set_option maxHeartbeats 400000 in
theorem small1_any (x : Nat) (hx : x ≤ 1114111) (w : World) : Calls Tryd.prog 161 #[.int .i32 (x : Int)] w fun e w' => e = .returned (.int .i32 (lowR x)) ∧ w' = w := by
  unfold lowR
  by_cases h1 : (65 : Int) ≤ x
  · by_cases h2 : (x : Int) ≤ 90
    · have i1 : IntKind.i32.wrap ((x : Int) + 32) = (x : Int) + 32 := by rw [IntKind.wrap_i32]; omega
      go_enter Tryd.func161, Tryd.ntmps161
      go_wp2_with fail
      go_ret
      exact ⟨rfl, rfl⟩
    · go_enter Tryd.func161, Tryd.ntmps161
      go_wp2_with fail
      go_ret
      exact ⟨rfl, rfl⟩
  · go_enter Tryd.func161, Tryd.ntmps161
    go_wp2_with fail
    go_ret
    exact ⟨rfl, rfl⟩
set_option maxRecDepth 100000 in
set_option maxHeartbeats 400000 in
theorem Small_ascii (l : List UInt8) (w : World) (hl : l.length ≤ 1000000) (ha : ∀ b ∈ l, b.toNat < 128) (hT : U8Ok w) :
    Calls Tryd.prog 86 #[str l] w fun e w' => e = .returned (str (lowL l)) ∧ Below w.heap.size w w' := by
  have h := Go.Proofs.Tryd.strings_Map_runes 161 #[] (enters_of Tryd.func161 (by kernel_rfl) rfl) lowR ⟨l.toArray⟩ w (by simp [ByteArray.size]; omega)
    (fun W x hx _ => (small1_any x hx W).mono fun e w' ⟨h1, h2⟩ => ⟨h1, 0, h2⟩) (fun x hx => by unfold lowR; split <;> omega) hT
  rw [show (⟨l.toArray⟩ : ByteArray).data.toList = l from rfl, mapD_low l ha] at h
  have H := Lib.hid h
  clear h
  go_enter Tryd.func86, Tryd.ntmps86
  go_wp2_with fail
  refine H.out.mono ?_
  rintro e w1 ⟨rfl, hb⟩
  go_wp2_with fail
  go_ret
  exact ⟨rfl, hb⟩
end Go.Proofs.YtdhmmepcnladcaaDoor

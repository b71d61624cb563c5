import Derived.Test.YtoolfhjlhhcbgaaDoorLk9
import Derived.Test.YtoolfhjlhhcbgaaDoorAppOp
import Derived.Test.YtoolfhjlhhcbgaaDoorIdx
namespace Go.Proofs.YtoolfhjlhhcbgaaDoor
open Go.RowKit

/-- What may not be put, of runes. -/
def badPutR (r : Nat) : Bool := decide (r ≤ 32) || decide (126 < r) || decide (0 ≤ Lib.indexByte [34, 39, 60, 62, 38, 61] (UInt8.ofNat r))
theorem badPut_eq : ∀ x : Fin 256, badPutR x.val = badPut x.val := by decide +kernel
theorem badPut_any (l : List UInt8) : l.any (fun b => badPutR b.toNat) = l.any (fun b => badPut b.toNat) := by
  congr 1
  funext b
  exact badPut_eq ⟨b.toNat, b.toNat_lt⟩
theorem ContainsRune_put (r : Nat) (hr : r < 128) (w : World) : Calls Tryd.prog 74 #[.string ⟨#[34, 39, 60, 62, 38, 61]⟩, .int .i32 (r : Int)] w fun e w' => e = .returned (.bool (decide (0 ≤ Lib.indexByte [34, 39, 60, 62, 38, 61] (UInt8.ofNat r)))) ∧ w' = w := by
  have h := Go.Proofs.Tryd.strings_IndexRune_ascii ⟨#[34, 39, 60, 62, 38, 61]⟩ (r : Int) w (by omega) (by omega)
  have e : ((r : Int)).toNat.toUInt8 = UInt8.ofNat r := rfl
  rw [e] at h
  have h2 : (⟨#[34, 39, 60, 62, 38, 61]⟩ : ByteArray).data.toList = [34, 39, 60, 62, 38, 61] := rfl
  rw [h2] at h
  generalize Lib.indexByte [34, 39, 60, 62, 38, 61] (UInt8.ofNat r) = z at h ⊢
  have H := Lib.hid h
  clear h e h2
  go_enter Tryd.func74, Tryd.ntmps74
  go_wp2_with fail
  refine H.out.mono ?_
  rintro e w1 ⟨rfl, rfl⟩
  go_wp2_with fail
  go_ret
  exact ⟨rfl, rfl⟩
set_option maxRecDepth 100000 in
theorem put1_any (x : Nat) (hx : x ≤ 1114111) (w : World) : Calls Tryd.prog 73 #[.int .i32 (x : Int)] w fun e w' => e = .returned (.bool (badPutR x)) ∧ w' = w := by
  by_cases h1 : x ≤ 32
  · rw [show badPutR x = true by simp [badPutR, h1]]
    go_enter Tryd.func73, Tryd.ntmps73
    go_wp2_with fail
    go_ret
    exact ⟨rfl, rfl⟩
  · by_cases h2 : 126 < x
    · rw [show badPutR x = true by simp [badPutR, h2]]
      go_enter Tryd.func73, Tryd.ntmps73
      go_wp2_with fail
      go_ret
      exact ⟨rfl, rfl⟩
    · have hc := ContainsRune_put x (by omega) w
      rw [show badPutR x = decide (0 ≤ Lib.indexByte [34, 39, 60, 62, 38, 61] (UInt8.ofNat x)) by simp [badPutR, h1, h2]]
      generalize decide (0 ≤ Lib.indexByte [34, 39, 60, 62, 38, 61] (UInt8.ofNat x)) = z at hc ⊢
      have Hc := Lib.hid hc
      have d1 : decide ((x : Int) ≤ 32) = false := by simp; omega
      have d2 : decide ((126 : Int) < x) = false := by simp; omega
      clear hc
      go_enter Tryd.func73, Tryd.ntmps73
      go_wp2_with fail
      refine Hc.out.mono ?_
      rintro e w1 ⟨rfl, rfl⟩
      go_wp2_with fail
      all_goals
        go_ret
        exact ⟨rfl, rfl⟩
theorem containsPut_any (l : List UInt8) (w : World) : Calls Tryd.prog 43 #[str l, .func (.func 73) #[] #[]] w fun e w' => e = .returned (.bool (l.any (fun b => badPut b.toNat))) ∧ Below w.heap.size w w' := by
  have h := Go.Proofs.Tryd.strings_ContainsFunc_runes 73 #[] (enters_of Tryd.func73 (by kernel_rfl) rfl) badPutR ⟨l.toArray⟩ w
    (fun W x hx _ => (put1_any x hx W).mono fun e w' ⟨h1, h2⟩ => ⟨h1, 0, h2⟩)
  rw [idxFunc_any badPutR l (.inl fun r hr => by simp [badPutR]; omega), badPut_any] at h
  exact h

/-! ### Links in order -/
def LOk : Nat → Nat → List LinkD → Prop
  | at_, n, [] => at_ ≤ n
  | at_, n, x :: l => at_ ≤ x.frm ∧ x.frm ≤ x.til ∧ LOk x.til n l
theorem LOk.le : ∀ {l : List LinkD} {at_ n : Nat}, LOk at_ n l → at_ ≤ n
  | [], _, _, h => h
  | _ :: _, _, _, h => Nat.le_trans h.1 (Nat.le_trans h.2.1 h.2.2.le)
theorem LOk.links : ∀ (l : List (List UInt8 × List UInt8)) (at_ pos n : Nat), at_ ≤ pos → pos + (weaveL l (l.map (·.1))).length ≤ n → LOk at_ n (linksL pos l)
  | [], at_, pos, n, h, hn => by simp only [linksL, LOk]; simp [weaveL] at hn; omega
  | x :: l, at_, pos, n, h, hn => by
    simp only [linksL, LOk]
    simp only [List.map_cons, weaveL, List.length_append] at hn
    exact ⟨h, by omega, LOk.links l _ _ n (by omega) (by omega)⟩
theorem LOk.find {l : List UInt8} {ls : List LinkD} (h : findB l = some ls) : LOk 0 l.length ls := by
  rw [findB_eq] at h
  split at h
  · cases h
  · have h := Option.some.inj h
    rw [← h]
    refine LOk.links (pcs l).2 0 (0 + (pcs l).1.length) l.length (Nat.zero_le _) ?_
    have := congrArg List.length (pcs_app l)
    unfold weave at this
    rw [List.length_append] at this
    unfold vals at this
    omega
theorem Sl.link {w : World} {B n : Nat} {A : Option Addr} {ls : List LinkD} (h : Sl w B 3 A n (linkC ls)) (i : Nat) (hi : i < n) :
    ∃ b off x, A = some ⟨b, off, none⟩ ∧ b < B ∧ ls.drop i = x :: ls.drop (i + 1) ∧ w.cell? ⟨b, off + i * 3, none⟩ = some (.int .i64 (x.frm : Nat)) ∧ w.cell? ⟨b, off + i * 3 + 1, none⟩ = some (.int .i64 (x.til : Nat)) ∧ w.cell? ⟨b, off + i * 3 + 2, none⟩ = some (str x.text) := by
  obtain ⟨b, off, hA, hb, hc⟩ := h.2 (by omega)
  have hl : ls.length = n := by have := h.1; rw [linkC_len] at this; omega
  have hil : i < ls.length := by omega
  have hd := List.drop_eq_getElem_cons hil
  have hsplit : linkC ls = linkC (ls.take i) ++ linkC (ls.drop i) := by rw [← linkC_app, List.take_append_drop]
  have hat : ∀ k, k < 3 → (linkC ls)[i * 3 + k]? = [Value.int .i64 ((ls[i].frm : Nat) : Int), .int .i64 ((ls[i].til : Nat) : Int), str ls[i].text][k]? := by
    intro k hk
    have e : (linkC (ls.take i)).length = i * 3 := by rw [linkC_len, List.length_take, Nat.min_eq_left (by omega)]
    rw [hsplit, List.getElem?_append_right (by omega), e, Nat.add_sub_cancel_left, hd]
    show ((linkC (ls[i] :: ls.drop (i + 1))))[k]? = _
    rw [show linkC (ls[i] :: ls.drop (i + 1)) = [Value.int .i64 ((ls[i].frm : Nat) : Int), .int .i64 ((ls[i].til : Nat) : Int), str ls[i].text] ++ linkC (ls.drop (i + 1)) from rfl, List.getElem?_append_left (by simpa using hk)]
  exact ⟨b, off, ls[i], hA, hb, hd, hc _ _ (hat 0 (by omega)), hc _ _ (hat 1 (by omega)), hc _ _ (hat 2 (by omega))⟩
end Go.Proofs.YtoolfhjlhhcbgaaDoor

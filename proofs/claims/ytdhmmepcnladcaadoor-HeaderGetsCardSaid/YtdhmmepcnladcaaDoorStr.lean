import Derived.Test.YtdhmmepcnladcaaDoorBuild
import Derived.Lib.IndexBytes
import Derived.Lib.IndexMore
namespace Go.Proofs.YtdhmmepcnladcaaDoor
open Go.RowKit

theorem own_below {w w' : World} {base : Nat} {e : TypeId} {size : Nat} {v : Value} {n : Nat} {xs : List Value} (h : w.ownsRow base e size v n xs) (hb : Below w.heap.size w w') : w'.ownsRow base e size v n xs :=
  h.kept (row := none) ⟨hb.os, hb.tape, hb.output, hb.size, fun k hk _ => hb.block k hk⟩ (by cases h : v.ownBlock <;> simp)

theorem own_cap {w : World} {base : Nat} {e : TypeId} {size : Nat} {S : Option Addr} {n c : Nat} {xs : List Value} (h : w.ownsRow base e size (.slice S n c) n xs) : n ≤ c := by
  rcases h.2 with ⟨hv, h0⟩ | ⟨g', cap', cur', hv', _, _, hnc', _⟩
  · omega
  · injection hv' with _ _ hcc; omega
theorem one_u8 (x : Int) : ∀ u ∈ [Value.int .u8 x], u.oneCell' = true := by intro u hu; simp at hu; subst hu; rfl
theorem two_u8 (x y : Int) : ∀ u ∈ [Value.int .u8 x, Value.int .u8 y], u.oneCell' = true := by intro u hu; simp at hu; rcases hu with rfl | rfl <;> rfl
theorem news_one (w : World) (t : TypeId) (v : Value) : ∀ j u, [v][j]? = some u → (w.alloc (.cells #[v] t)).cell? ((⟨w.heap.size, 0, none⟩ : Addr).add j) = some u := by
  intro j u hj
  match j, hj with
  | 0, hj => simp at hj; subst hj; simp [Addr.add]
theorem wrap_u8N (z : Nat) (h : z < 256) : IntKind.u8.wrap (z : Int) = (z : Int) := by
  rw [IntKind.wrap_u8]; omega
theorem byte_cell (x : Nat) (h : x < 256) : Lib.byteCells [UInt8.ofNat x] = [.int .u8 (x : Int)] := by
  have : (UInt8.ofNat x).toNat = x := by rw [UInt8.toNat_ofNat']; omega
  simp [Lib.byteCells]
  omega

/-! ### The library's texts, by lists of bytes -/
theorem cut_one_yes {l : List UInt8} {c : UInt8} {k : Nat} (h : Lib.indexByte l c = (k : Int)) : Lib.cut l [c] = (l.take k, l.drop (k + 1), true) := by
  unfold Lib.cut
  rw [Lib.index_one, h, if_pos (by omega)]
  simp
theorem cut_one_no {l : List UInt8} {c : UInt8} (h : Lib.indexByte l c < 0) : Lib.cut l [c] = (l, [], false) := by
  unfold Lib.cut
  rw [Lib.index_one, if_neg (by omega)]

set_option maxHeartbeats 400000 in
theorem sliteCut_one (l : List UInt8) (c : UInt8) (w : World) (hl : l.length ≤ maxLen) :
    Calls Tryd.prog 158 #[str l, .string ⟨#[c]⟩] w fun e w' => e = .returned (.tuple #[str (Lib.cut l [c]).1, str (Lib.cut l [c]).2.1, .bool (Lib.cut l [c]).2.2]) ∧ ∃ q, w' = w.drewN q := by
  unfold maxLen at hl
  have hge := Lib.indexByte_ge l c
  by_cases h0 : 0 ≤ Lib.indexByte l c
  · obtain ⟨k, hk⟩ := Int.eq_ofNat_of_zero_le h0
    have hlt : k < l.length := by
      have := (Lib.indexByte_some hk).1
      rcases Nat.lt_or_ge k l.length with h | h
      · exact h
      · rw [List.getElem?_eq_none h] at this; cases this
    have hidx := fun W => Go.Proofs.Tryd.stringslite_Index_one ⟨l.toArray⟩ c W
    rw [show (⟨l.toArray⟩ : ByteArray).data.toList = l from rfl, hk] at hidx
    rw [cut_one_yes hk]
    have Hidx := Lib.hid hidx
    clear hidx hk h0 hge
    go_enter Tryd.func158, Tryd.ntmps158
    go_wp2_with fail
    refine (Hidx.out _).mono ?_
    rintro e w1 ⟨rfl, rfl⟩
    go_wp2_with fail
    have i1 : IntKind.i64.wrap ((k : Int) + 1) = (k : Int) + 1 := IntWalk.i64_in _ (by omega)
    have i2 : 0 ≤ (k : Int) + 1 := by omega
    have i3 : ((k : Int) + 1).toNat = k + 1 := by omega
    have i4 : (k : Int) + 1 ≤ l.length := by omega
    have i5 : (k : Int) ≤ l.length := by omega
    go_quiet (fail)
    clear i1 i2 i3 i4 i5
    go_wp2_with fail
    go_ret3
    exact ⟨rfl, _, rfl⟩
  · have hidx := fun W => Go.Proofs.Tryd.stringslite_Index_one ⟨l.toArray⟩ c W
    rw [show (⟨l.toArray⟩ : ByteArray).data.toList = l from rfl, show Lib.indexByte l c = -1 by omega] at hidx
    rw [cut_one_no (by omega)]
    have Hidx := Lib.hid hidx
    clear hidx hge h0
    go_enter Tryd.func158, Tryd.ntmps158
    go_wp2_with fail
    refine (Hidx.out _).mono ?_
    rintro e w1 ⟨rfl, rfl⟩
    go_wp2_with fail
    go_ret3
    exact ⟨rfl, 0, rfl⟩
set_option maxHeartbeats 400000 in
theorem Cut_one (l : List UInt8) (c : UInt8) (w : World) (hl : l.length ≤ maxLen) :
    Calls Tryd.prog 82 #[str l, .string ⟨#[c]⟩] w fun e w' => e = .returned (.tuple #[str (Lib.cut l [c]).1, str (Lib.cut l [c]).2.1, .bool (Lib.cut l [c]).2.2]) ∧ ∃ q, w' = w.drewN q := by
  have h := sliteCut_one l c w hl
  generalize Lib.cut l [c] = x at h ⊢
  obtain ⟨a, b, d⟩ := x
  go_enter Tryd.func82, Tryd.ntmps82
  go_wp2_with fail
  refine h.mono ?_
  rintro e w1 ⟨rfl, q, rfl⟩
  go_wp2_with fail
  go_ret3
  exact ⟨rfl, q, rfl⟩
theorem HasPrefix_any (l p : List UInt8) (w : World) : Calls Tryd.prog 87 #[str l, .string ⟨p.toArray⟩] w fun e w' => e = .returned (.bool (Lib.hasPrefix l p)) ∧ w = w' := by
  refine (Go.Proofs.Tryd.strings_HasPrefix ⟨l.toArray⟩ ⟨p.toArray⟩ w).mono ?_
  rintro e w1 ⟨rfl, rfl⟩
  exact ⟨rfl, rfl⟩
end Go.Proofs.YtdhmmepcnladcaaDoor

import Derived.Test.YtoolfhjlhhcbgaaDoorLk6
import Derived.Test.YtoolfhjlhhcbgaaDoorMaxL
import Derived.Test.YtoolfhjlhhcbgaaDoorLinkS
import Derived.Lib.ReplaceLaws
namespace Go.Proofs.YtoolfhjlhhcbgaaDoor
open Go.RowKit

theorem cut_u8 (w : World) (A : Option Addr) (n c : Nat) (ki : IntKind) (k : Int) (h0 : 0 ≤ k) (h1 : k ≤ n) :
    (Instr.slice 22 (.slice A n c) (some (.int ki k)) none none).run Tryd.prog w = .ok (.slice (cutA A c k.toNat 1) (n - k.toNat) (c - k.toNat)) w :=
  run_cut w 22 5 1 Tryd.underlying22 (Tryd.sizeOf5 w) A n c ki k h0 h1
theorem mid_u8 (w : World) (A : Option Addr) (n c : Nat) (ki kj : IntKind) (i j : Int) (h0 : 0 ≤ i) (h1 : i ≤ j) (h2 : j ≤ n) (hc : n ≤ c) :
    (Instr.slice 22 (.slice A n c) (some (.int ki i)) (some (.int kj j)) none).run Tryd.prog w = .ok (.slice (cutA A c i.toNat 1) (j.toNat - i.toNat) (c - i.toNat)) w :=
  run_mid w 22 5 1 Tryd.underlying22 (Tryd.sizeOf5 w) A n c ki kj i j h0 h1 h2 hc
attribute [local go_sem high] cut_u8 mid_u8
theorem countB_le (l t : List UInt8) (h : 1 ≤ t.length) : Lib.countB ⟨l.toArray⟩ ⟨t.toArray⟩ ≤ l.length := by
  have h1 := Lib.countB_mul_le ⟨t.toArray⟩ (by simpa [ByteArray.size] using h) l.length ⟨l.toArray⟩ (by simp [ByteArray.size])
  have h2 : (⟨l.toArray⟩ : ByteArray).size = l.length := by simp [ByteArray.size]
  have h3 : (⟨t.toArray⟩ : ByteArray).size = t.length := by simp [ByteArray.size]
  rw [h2, h3] at h1
  exact Nat.le_trans (Nat.le_mul_of_pos_right _ h) h1
theorem unamp_any (v : List UInt8) (w : World) (hM : MaxLenOk w) (hl : v.length ≤ 1000000) :
    Calls Tryd.prog 14 #[str v, .string ⟨#[38, 97, 109, 112, 59]⟩, .string ⟨#[38]⟩] w fun e w' => e = .returned (str (unamp v)) ∧ Below w.heap.size w w' := by
  obtain ⟨m, hm⟩ := hM
  have h2 : (⟨v.toArray⟩ : ByteArray).size = v.length := by simp [ByteArray.size]
  refine Go.Proofs.Tryd.strings_ReplaceAll ⟨v.toArray⟩ ⟨#[38, 97, 109, 112, 59]⟩ ⟨#[38]⟩ m w (by rw [h2]; omega) hm (by decide) ?_
  have := countB_le v [38, 97, 109, 112, 59] (by decide)
  rw [h2]
  show v.length + Lib.countB ⟨v.toArray⟩ ⟨#[38, 97, 109, 112, 59]⟩ * 1 ≤ _
  omega
/-- A page's bytes, cut. -/
theorem By.cutR {w : World} {B n c : Nat} {A : Option Addr} {l r : List UInt8} (h : By w B A n l) (hr : r <:+ l) (hc : n ≤ c) : By w B (cutA A c (n - r.length) 1) (n - (n - r.length)) r := by
  have := h.cut (k := n - r.length) (Nat.sub_le _ _) hc
  rw [← h.len, suffix_drop hr, h.len] at this
  exact this
theorem By.midR {w : World} {B n c : Nat} {A : Option Addr} {l r x y : List UInt8} (h : By w B A n l) (hr : r <:+ l) (hc : n ≤ c) (hx : r = x ++ y) : By w B (cutA A c (n - r.length) 1) (n - y.length - (n - r.length)) x := by
  have h1 := h.cutR hr hc
  have hl := h.len
  have hle := hr.length_le
  have hlen : r.length = x.length + y.length := by rw [hx]; simp
  have h2 := h1.upto (k := n - y.length - (n - r.length)) (by omega)
  have e : n - y.length - (n - r.length) = x.length := by omega
  rw [e] at h2 ⊢
  rw [hx, List.take_left] at h2
  rw [hx]
  exact h2
set_option maxRecDepth 100000 in
set_option maxHeartbeats 1000000 in
theorem past_any (t : List UInt8) (s : Nat) (A : Option Addr) (n c B : Nat) (out : Value) (l r : List UInt8) (w : World) (hM : MaxLenOk w) (ht : t.length ≤ 100)
    (hs : ScanIs w s (.slice A n c) (n - r.length) out) (hr : r <:+ l) (hb : By w B A n l) (hB : B ≤ s) (hn : n ≤ 1000000) (hc : n ≤ c) :
    Calls Tryd.prog 70 #[.pointer (some ⟨s, 0, none⟩), .string ⟨t.toArray⟩] w (TillOut s (.slice A n c) out (n - (pastL t r).length) w) := by
  have hl := hb.len
  have hle := hr.length_le
  have hcut := hb.cutR hr hc
  obtain ⟨a1, ha1⟩ : ∃ a1, a1 = n - r.length := ⟨_, rfl⟩
  rw [← ha1] at hs hcut
  have hts := fun k => run_toStr (P := Tryd.prog) (w.drewN k) 22 9 5 _ (cutA A c a1 1) (n - a1) (c - a1) r hcut Tryd.underlying22 Tryd.underlying5 Tryd.underlying9
  have hix := fun k => Index_any r t (w.drewN k) (hM.drewN k) (by omega)
  have hige := Lib.index_ge r t
  have hile := Lib.index_le r t
  have ha1n : a1 ≤ n := by omega
  have y0 := hs.c0
  have y1 := hs.c1
  have yf := hs.fz 1
  have Hs := Lib.hid hs
  have Ha1 := Lib.hid ha1
  by_cases h0 : Lib.index r t < 0
  · have hp : pastL t r = [] := by unfold pastL; rw [if_pos h0]
    rw [hp]
    have hneg : Lib.index r t = -1 := by omega
    rw [hneg] at hix
    have Hix := Lib.hid hix
    clear hp h0 hix hige hile hneg hs ha1 hl
    go_enter Tryd.func70, Tryd.ntmps70
    go_wp2_with fail
    go_quiet ((go_at_call 62; exact Calls.quiet_of_same (Hix.out _)))
    have y0' := (Hs.out.drewN nq).c0
    have y1' := (Hs.out.drewN nq).c1
    have yf' := (Hs.out.drewN nq).fz 1
    go_wp2_with fail
    go_end0
    exact ⟨rfl, by simpa using (Hs.out.drewN nq).set1 n, grown_tr (grown_drewN (World.grownBy.refl w _) nq) (grown_set _ s 1 _)⟩
  · obtain ⟨k, hk⟩ := Int.eq_ofNat_of_zero_le (show 0 ≤ Lib.index r t by omega)
    have hp : pastL t r = r.drop (k + t.length) := by unfold pastL; rw [if_neg h0, hk]; rfl
    rw [hk] at hix hile
    have hroom : t ≠ [] → k + t.length ≤ r.length := fun h => (index_keep t r [] k hk h).2
    have hkt : k + t.length ≤ r.length := by
      rcases Nat.eq_zero_or_pos t.length with h | h
      · omega
      · exact hroom (by intro e; rw [e] at h; simp at h)
    have hp2 : n - (pastL t r).length = a1 + (k + t.length) := by rw [hp, List.length_drop]; omega
    rw [hp2]
    have hbd : a1 + (k + t.length) ≤ n := by omega
    have Hix := Lib.hid hix
    clear hp hp2 h0 hix hige hile hk hroom hs ha1 hl
    go_enter Tryd.func70, Tryd.ntmps70
    go_wp2_with fail
    go_quiet ((go_at_call 62; exact Calls.quiet_of_same (Hix.out _)))
    have y0' := (Hs.out.drewN nq).c0
    have y1' := (Hs.out.drewN nq).c1
    have yf' := (Hs.out.drewN nq).fz 1
    go_wp2_with fail
    go_end0
    have h := (Hs.out.drewN nq).set1 (a1 + (k + t.length))
    exact ⟨rfl, by simpa using h, grown_tr (grown_drewN (World.grownBy.refl w _) nq) (grown_set _ s 1 _)⟩
end Go.Proofs.YtoolfhjlhhcbgaaDoor

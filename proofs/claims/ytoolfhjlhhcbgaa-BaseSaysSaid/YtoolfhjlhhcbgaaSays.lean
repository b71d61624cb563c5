/-
  PROVED HERE: BaseSays: for every slice of bytes and every text the call returns true, and nothing that was in memory is changed.
  CONDITIONS: none beyond the given row's own.
-/
import Derived.Test.YtoolfhjlhhcbgaaLet
import Derived.Test.YtoolfhjlhhcbgaaRefT
import Derived.Test.YtoolfhjlhhcbgaaRefR
import Derived.Test.YtoolfhjlhhcbgaaOpen
namespace Go.Proofs.Ytoolfhjlhhcbgaa
open Go.ChangeShapes Go.WideShapes Go.ChangeAt Go.RowKit
open Go.ChangeMaps (open_string shut_string)

theorem below_drewN' {B : Nat} {a w : World} (h : Below B a w) (n : Nat) : Below B a (w.drewN n) := ⟨h.os, h.tape, h.output, h.size, h.block⟩

set_option maxHeartbeats 1000000 in
theorem baseSays_walk (A : Option Addr) (n c : Nat) (l s : List UInt8) (w : World) (hb : By w w.heap.size A n l) (hn : n ≤ c) (hm : c ≤ maxLen) (hs : s.length ≤ maxLen) :
    Calls Try.prog 5 #[.slice A n c, str s] w (LawPost w) := by
  have hs2 : s.length ≤ 9223372036854775807 := hs
  unfold maxLen at hm
  obtain ⟨r, hr⟩ : ∃ r, r = readB s := ⟨_, rfl⟩
  have hR := fun W => Read_any s W hs2
  have hR2 := fun W => BaseRead_any s W hs2
  have hxl : r.1.length ≤ 4000 := by rw [hr]; exact readB_len s
  rw [← hr] at hR hR2
  have HR := Lib.hid hR; have HR2 := Lib.hid hR2
  clear hR hR2 hr hs hs2
  obtain ⟨x, y⟩ := r
  have hxm : x.length ≤ maxLen := by unfold maxLen; exact Nat.le_trans hxl (by omega)
  clear hxl
  by_cases h4 : n ≤ 4000
  · go_enter Try.func5, Try.ntmps5
    go_wp2_with fail
    refine (Write_ok A n c l _ hb hn h4).mono ?_
    rintro e w1 ⟨rfl, hb1⟩
    go_wp2_with fail
    refine (HR.out _).mono ?_
    rintro e w2 ⟨A2, c2, rfl, hby2, hc2, hb2⟩
    have hbel2 := hb1.trans (hb2.mono hb1.size)
    go_wp2_with fail
    refine (HR2.out _).mono ?_
    rintro e w3 ⟨A3, c3, rfl, hby3, hc3, hb3⟩
    have hbel3 := hbel2.trans (hb3.mono hbel2.size)
    have hby2' := hby2.below hb3
    go_wp2_with fail
    refine (lettered_any _).mono ?_
    rintro e w4 ⟨rfl, hb4⟩
    have hbel4 := hbel3.trans (hb4.mono hbel3.size)
    have hby2'' := hby2'.belowN hb4 hb3.size
    have hby3' := hby3.below hb4
    go_wp2_with fail
    refine (Equal_bytes A2 A3 x.length c2 x.length c3 _ _ x x _ hby2'' hby3' hxm).mono ?_
    rintro e w5 ⟨rfl, q, rfl⟩
    have hxx : (x == x) = true := by simp
    go_wp2_with fail
    have hbel5 := below_drewN' hbel4 q
    refine (BaseText_any A n c l _ ((hb.belowN hbel5 (Nat.le_refl _)).more hbel5.size) h4).mono ?_
    rintro e w6 ⟨rfl, rfl⟩
    have hee : (enc 0 l == enc 0 l) = true := by simp
    go_wp2_with fail
    go_ret
    exact ⟨rfl, hbel5⟩
  · go_enter Try.func5, Try.ntmps5
    go_wp2_with fail
    refine (Write_many A n c _ h4 (by unfold maxLen; omega)).mono ?_
    rintro e w1 ⟨rfl, rfl⟩
    go_wp2_with fail
    refine (HR.out _).mono ?_
    rintro e w2 ⟨A2, c2, rfl, hby2, hc2, hb2⟩
    go_wp2_with fail
    refine (HR2.out _).mono ?_
    rintro e w3 ⟨A3, c3, rfl, hby3, hc3, hb3⟩
    have hbel3 := hb2.trans (hb3.mono hb2.size)
    have hby2' := hby2.below hb3
    go_wp2_with fail
    refine (lettered_any _).mono ?_
    rintro e w4 ⟨rfl, hb4⟩
    have hbel4 := hbel3.trans (hb4.mono hbel3.size)
    have hby2'' := hby2'.belowN hb4 hb3.size
    have hby3' := hby3.below hb4
    go_wp2_with fail
    refine (Equal_bytes A2 A3 x.length c2 x.length c3 _ _ x x _ hby2'' hby3' hxm).mono ?_
    rintro e w5 ⟨rfl, q, rfl⟩
    have hxx : (x == x) = true := by simp
    go_wp2_with fail
    go_ret
    exact ⟨rfl, below_drewN' hbel4 q⟩

set_option maxRecDepth 100000 in
theorem baseSays_lifted (os : Os) (started : os.Started) (H : Type) (enc : TypeId × Value → H) :
    ReturnsInHanded {} Try.checked os 5 .any (Rows.baseSaysSpec.pre6 enc Try.prog Try.f5 Rows.baseSaysRow.domain false) (Rows.baseSaysSpec.post enc Try.prog Try.f5 false true false false) := by
  refine returnsInHanded_of_change (C := Try.checked) own started (by kernel_rfl) Try.func5
    (ChangeSpec.witness6 (enc := enc) (C := Try.checked) false ⟨#[], #[.slice none 0 0, .string ⟨#[]⟩], []⟩ 8 (by kernel_rfl) (by kernel_rfl) (by kernel_rfl) (by kernel_rfl)) ?_
  intro W base args ds gs before hval0 hW hcnd _
  have hval : ∀ (j : Nat) t v, Try.f5.params[j]? = some t → args[j]? = some v → Value.okWide Try.prog W .any base t v := hval0
  have hW' := hW
  obtain ⟨p, q, hA0, hV, rfl, hfz, hnd⟩ := hW
  have hA : DataW.TrodAll enc Try.prog W 0 (fun _ => true) true Try.f5.params.toList args.toList ds p := hA0
  rw [Try.params5] at hA hval
  obtain ⟨v0, vs0, d0, ds0, p0, q0, hargs, rfl, rfl, h0, r0⟩ := trodAll_cons hA
  obtain ⟨v1, vs1, d1, ds1, p1, q1, rfl, rfl, rfl, h1, r1⟩ := trodAll_cons r0
  obtain ⟨rfl, rfl, rfl⟩ := trodAll_nil r1
  obtain rfl : args = #[v0, v1] := by cases args; simp_all
  obtain ⟨rfl, rfl⟩ := trodVars_none hV
  obtain ⟨a0, len0, cap0, rfl⟩ := okWide_slice Try.underlying27 (hval 0 27 v0 rfl rfl)
  have k0 := h0
  have lt0 : ∀ x ∈ p0, x.block < W.heap.size := by obtain ⟨m, hm⟩ := k0; exact DataW.trod_lt m _ _ _ hm
  obtain ⟨z0, w0⟩ : ∃ zs, IsRow .u8 W a0 len0 cap0 zs := by
    obtain ⟨fuel, hf⟩ := h0
    rcases open_ints Try.underlying27 Try.underlying5 (by kernel_rfl) hf with ⟨hcs, _⟩ | ⟨x, l, c, zs, hcs, _, hl, hm, hz, _, hcell, hwz⟩
    · simp [Value.cells] at hcs
      obtain ⟨rfl, rfl, rfl⟩ := hcs
      exact ⟨[], .inl ⟨rfl, rfl, rfl, rfl⟩⟩
    · simp [Value.cells] at hcs
      obtain ⟨rfl, rfl, rfl⟩ := hcs
      exact ⟨zs, .inr ⟨_, rfl, hl, hm, by simpa using hz, hcell, hwz⟩⟩
  obtain ⟨l0, b0, le0, mx0⟩ := w0.toBy
  obtain ⟨s1, rfl, rfl, rfl, w1⟩ := open_string Try.underlying9 (hval 1 9 v1 rfl rfl) h1
  clear hA0 hval0
  refine (baseSays_walk a0 len0 cap0 l0 s1.data.toList W b0 le0 mx0 w1).mono fun e W' ⟨he, bel⟩ => ?_
  subst he
  exact ⟨_, rfl, _, _, _, [], _, [], hW', trodAll_mk1 (shut_bool Try.underlying4 _), (trodAll_cons_mk (Below.trod laidOut (by kernel_rfl) (of_decide_eq_true (by kernel_rfl)) k0 bel lt0) (trodAll_cons_mk (shut_string Try.underlying9 w1) trodAll_mk0)), rfl, bel.frame _, fun h => by cases h⟩

/-- The statement. -/
theorem baseSays_proved : Rows.BaseSaysSaid :=
  OpenClaim.holds_of_wide 5 Try.f5 rfl rfl rfl rfl rfl rfl rfl ⟨rfl, rfl, rfl, rfl, rfl⟩ rfl rfl rfl rfl rfl (by kernel_rfl) Try.func5 (by kernel_rfl)
    (of_decide_eq_true (by kernel_rfl)) (by unfold Func.isWrapper; first | (rw [if_pos (by decide +kernel)]; kernel_rfl) | (rw [if_neg (by decide +kernel)]; exact ⟨rfl, rfl⟩))
    (fun os started H enc _ => baseSays_lifted os started H enc)

end Go.Proofs.Ytoolfhjlhhcbgaa

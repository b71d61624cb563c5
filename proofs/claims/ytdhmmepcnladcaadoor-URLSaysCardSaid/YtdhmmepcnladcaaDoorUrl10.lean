import Derived.Test.YtdhmmepcnladcaaDoorUrl9
import Derived.Test.YtdhmmepcnladcaaDoorUrl6
import Derived.Test.YtdhmmepcnladcaaDoorUrlX
namespace Go.Proofs.YtdhmmepcnladcaaDoor
open Go.RowKit

/-- A law's end. -/
def LawU (w : World) (e : Ending) (w' : World) : Prop := e = .returned (.bool true) ∧ Below w.heap.size w w'
theorem val_eq (u : UrlD) : u.val = .agg #[str u.scheme, .bool u.hasHost, str u.host, str u.path, .bool u.hasQuery, str u.query, .bool u.hasFrag, str u.frag] := rfl
theorem Print_val (u : UrlD) (w : World) : Calls Tryd.prog 39 #[u.val] w fun e w' => e = .returned (.tuple #[str (printU u).1, .int .i64 ((printU u).2 : Nat)]) ∧ Below w.heap.size w w' :=
  Print_any u.scheme u.host u.path u.query u.frag u.hasHost u.hasQuery u.hasFrag w
set_option maxRecDepth 100000 in
set_option maxHeartbeats 1000000 in
theorem addressed_any (w : World) (hM : MaxLenOk w) : Calls Tryd.prog 45 #[] w fun e w' => e = .returned (.bool true) ∧ Below w.heap.size w w' := by
  have k1 := fun W => Parse_any [72, 84, 84, 80, 58, 47, 47, 72, 47, 97, 47, 98, 63, 99] W (by decide)
  rw [read_ub] at k1
  have k2 := fun W => Parse_any [46, 46, 47, 100, 35, 101] W (by decide)
  rw [read_uu] at k2
  have k3 := fun W (h : MaxLenOk W) => Lead_parts ubU uuU W h
  rw [lead_ux] at k3
  have k4 := fun W => Print_val uxU W
  rw [print_ux] at k4
  simp only [UrlD.val, ubU, uuU, uxU] at k1 k2 k3 k4
  have K1 := Lib.hid k1
  have K2 := Lib.hid k2
  have K3 := Lib.hid k3
  have K4 := Lib.hid k4
  have HM := Lib.hid hM
  clear k1 k2 k3 k4 hM
  go_enter Tryd.func45, Tryd.ntmps45
  go_wp2_with fail
  refine (K1.out _).mono ?_
  rintro e w1 ⟨rfl, hb1⟩
  go_wp2_with fail
  refine (K2.out _).mono ?_
  rintro e w2 ⟨rfl, hb2⟩
  obtain ⟨W1, hW1⟩ : ∃ W1, W1 = w1.alloc (.cells #[str [104, 116, 116, 112], .bool true, str [104], str [47, 97, 47, 98], .bool true, str [99], .bool false, str []] 59) := ⟨_, rfl⟩
  have hbW1 : Below w1.heap.size w1 W1 := by rw [hW1]; exact (Below.refl _ _).alloc (Nat.le_refl _) _
  have hx1 : UB W1 w1.heap.size ubU := by rw [hW1]; exact UB.new w1 ubU
  rw [← hW1] at hb2
  have hbel2 := (hb1.trans (hbW1.mono hb1.size)).trans (hb2.mono (Nat.le_trans hb1.size hbW1.size))
  have hx2 := hx1.below hb2
  clear hW1 hb1 hb2 hbW1 hx1
  obtain ⟨c0, c1, c2, c3, c4, c5, c6, c7⟩ := hx2.box
  simp only [ubU] at c0 c1 c2 c3 c4 c5 c6 c7
  have hlt := hx2.lt
  go_wp2_with fail
  obtain ⟨W2, hW2⟩ : ∃ W2, W2 = w2.alloc (.cells #[str [], .bool false, str [], str [46, 46, 47, 100], .bool false, str [], .bool true, str [101]] 59) := ⟨_, rfl⟩
  have hbW2 : Below w2.heap.size w2 W2 := by rw [hW2]; exact (Below.refl _ _).alloc (Nat.le_refl _) _
  rw [← hW2]
  have hbel3 := hbel2.trans (hbW2.mono hbel2.size)
  have hx3 := hx2.below hbW2
  refine (K3.out _ (HM.out.below hbel3)).mono ?_
  rintro e w3 ⟨rfl, hb3⟩
  have hbel4 := hbel3.trans (hb3.mono hbel3.size)
  have hx4 := hx3.below hb3
  clear hW2 hbW2 hb3 hbel2 hbel3 hx2 hx3 c0 c1 c2 c3 c4 c5 c6 c7 hlt
  go_wp2_with fail
  obtain ⟨W3, hW3⟩ : ∃ W3, W3 = w3.alloc (.cells #[str [104, 116, 116, 112], .bool true, str [104], str [47, 100], .bool false, str [], .bool true, str [101]] 59) := ⟨_, rfl⟩
  have hbW3 : Below w3.heap.size w3 W3 := by rw [hW3]; exact (Below.refl _ _).alloc (Nat.le_refl _) _
  rw [← hW3]
  have hbel5 := hbel4.trans (hbW3.mono hbel4.size)
  have hx5 := hx4.below hbW3
  refine (K4.out _).mono ?_
  rintro e w4 ⟨rfl, hb4⟩
  have hbel6 := hbel5.trans (hb4.mono hbel5.size)
  have hx6 := hx5.below hb4
  clear hW3 hbW3 hb4 hbel4 hbel5 hx4 hx5
  obtain ⟨c0, c1, c2, c3, c4, c5, c6, c7⟩ := hx6.box
  simp only [ubU] at c0 c1 c2 c3 c4 c5 c6 c7
  go_wp2_with fail
  go_ret
  exact ⟨rfl, hbel6⟩
end Go.Proofs.YtdhmmepcnladcaaDoor

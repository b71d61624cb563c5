import Derived.Test.YtoolfhjlhhcbgaaDoorLk3
namespace Go.Proofs.YtoolfhjlhhcbgaaDoor
open Go.RowKit

theorem eqI (x k : Nat) : ((x : Int) == (k : Int)) = (x == k) := by
  rw [Bool.eq_iff_iff, beq_iff_eq, beq_iff_eq]; omega
theorem neI (x k : Nat) : ((x : Int) != (k : Int)) = !(x == k) := by
  rw [← eqI]; rfl
set_option maxRecDepth 100000 in
set_option maxHeartbeats 1000000 in
theorem find1_any (x : Nat) (hx : x < 256) (w : World) : Calls Tryd.prog 69 #[.int .u8 (x : Int)] w fun e w' => e = .returned (.bool (pIs 60 x)) ∧ w' = w := by
  unfold pIs
  have d60 : ((x : Int) == 60) = (x == 60) := eqI x 60
  generalize (x == 60) = q60 at d60 ⊢
  cases q60
  all_goals
    go_enter Tryd.func69, Tryd.ntmps69
    go_wp2_with fail
    go_ret
    exact ⟨rfl, rfl⟩
set_option maxRecDepth 100000 in
set_option maxHeartbeats 1000000 in
theorem blanks1_any (x : Nat) (hx : x < 256) (w : World) : Calls Tryd.prog 130 #[.int .u8 (x : Int)] w fun e w' => e = .returned (.bool (pNotSp x)) ∧ w' = w := by
  have hs := space_any x hx w
  unfold pNotSp
  generalize isSp x = r at hs ⊢
  have Hs := Lib.hid hs
  clear hs
  cases r
  all_goals
    go_enter Tryd.func130, Tryd.ntmps130
    go_wp2_with fail
    refine Hs.out.mono ?_
    rintro e w1 ⟨rfl, rfl⟩
    go_wp2_with fail
    go_ret
    exact ⟨rfl, rfl⟩
set_option maxRecDepth 100000 in
set_option maxHeartbeats 1000000 in
theorem value2_any (x : Nat) (hx : x < 256) (w : World) : Calls Tryd.prog 132 #[.int .u8 (x : Int)] w fun e w' => e = .returned (.bool (pVal x)) ∧ w' = w := by
  have hs := space_any x hx w
  unfold pVal
  generalize isSp x = r at hs ⊢
  have Hs := Lib.hid hs
  clear hs
  have d62 : ((x : Int) == 62) = (x == 62) := eqI x 62
  generalize (x == 62) = q62 at d62 ⊢
  cases r <;> cases q62
  all_goals
    go_enter Tryd.func132, Tryd.ntmps132
    go_wp2_with fail
    refine Hs.out.mono ?_
    rintro e w1 ⟨rfl, rfl⟩
    go_wp2_with fail
    go_ret
    exact ⟨rfl, rfl⟩
set_option maxRecDepth 100000 in
set_option maxHeartbeats 1000000 in
theorem tag1_any (x : Nat) (hx : x < 256) (w : World) : Calls Tryd.prog 101 #[.int .u8 (x : Int)] w fun e w' => e = .returned (.bool (pName x)) ∧ w' = w := by
  have hs := space_any x hx w
  unfold pName
  generalize isSp x = r at hs ⊢
  have Hs := Lib.hid hs
  clear hs
  have d47 : ((x : Int) == 47) = (x == 47) := eqI x 47
  have d62 : ((x : Int) == 62) = (x == 62) := eqI x 62
  generalize (x == 47) = q47 at d47 ⊢
  generalize (x == 62) = q62 at d62 ⊢
  cases r <;> cases q47 <;> cases q62
  all_goals
    go_enter Tryd.func101, Tryd.ntmps101
    go_wp2_with fail
    refine Hs.out.mono ?_
    rintro e w1 ⟨rfl, rfl⟩
    go_wp2_with fail
    go_ret
    exact ⟨rfl, rfl⟩
set_option maxRecDepth 100000 in
set_option maxHeartbeats 1000000 in
theorem tag2_any (x : Nat) (hx : x < 256) (w : World) : Calls Tryd.prog 103 #[.int .u8 (x : Int)] w fun e w' => e = .returned (.bool (pAttr x)) ∧ w' = w := by
  have hs := space_any x hx w
  unfold pAttr
  generalize isSp x = r at hs ⊢
  have Hs := Lib.hid hs
  clear hs
  have d47 : ((x : Int) == 47) = (x == 47) := eqI x 47
  have n47 : ((x : Int) != 47) = !(x == 47) := neI x 47
  have e47 : (x != 47) = !(x == 47) := rfl
  rw [e47]
  clear e47
  generalize (x == 47) = q47 at d47 n47 ⊢
  cases r <;> cases q47
  all_goals
    go_enter Tryd.func103, Tryd.ntmps103
    go_wp2_with fail
    refine Hs.out.mono ?_
    rintro e w1 ⟨rfl, rfl⟩
    go_wp2_with fail
    go_ret
    exact ⟨rfl, rfl⟩
set_option maxRecDepth 100000 in
set_option maxHeartbeats 1000000 in
theorem tag3_any (x : Nat) (hx : x < 256) (w : World) : Calls Tryd.prog 104 #[.int .u8 (x : Int)] w fun e w' => e = .returned (.bool (pEq x)) ∧ w' = w := by
  have hs := space_any x hx w
  unfold pEq
  generalize isSp x = r at hs ⊢
  have Hs := Lib.hid hs
  clear hs
  have d47 : ((x : Int) == 47) = (x == 47) := eqI x 47
  have d62 : ((x : Int) == 62) = (x == 62) := eqI x 62
  have d61 : ((x : Int) == 61) = (x == 61) := eqI x 61
  generalize (x == 47) = q47 at d47 ⊢
  generalize (x == 62) = q62 at d62 ⊢
  generalize (x == 61) = q61 at d61 ⊢
  cases r <;> cases q47 <;> cases q62 <;> cases q61
  all_goals
    go_enter Tryd.func104, Tryd.ntmps104
    go_wp2_with fail
    refine Hs.out.mono ?_
    rintro e w1 ⟨rfl, rfl⟩
    go_wp2_with fail
    go_ret
    exact ⟨rfl, rfl⟩
set_option maxRecDepth 100000 in
theorem value1_any (q b x : Nat) (w : World) (hq : w.cell? ⟨b, 0, none⟩ = some (.int .u8 (q : Int))) : Calls Tryd.prog 131 #[.int .u8 (x : Int), .pointer (some ⟨b, 0, none⟩)] w fun e w' => e = .returned (.bool (pIs q x)) ∧ w' = w := by
  unfold pIs
  have d : ((x : Int) == (q : Int)) = (x == q) := eqI x q
  generalize (x == q) = r at d ⊢
  go_enter Tryd.func131, Tryd.ntmps131
  go_wp2_with fail
  go_ret
  exact ⟨rfl, rfl⟩
theorem predFind : PredQ 69 #[] (pIs 60) (fun _ => True) := fun W x hx _ => find1_any x hx W
theorem predBlank : PredQ 130 #[] pNotSp (fun _ => True) := fun W x hx _ => blanks1_any x hx W
theorem predVal : PredQ 132 #[] pVal (fun _ => True) := fun W x hx _ => value2_any x hx W
theorem predName : PredQ 101 #[] pName (fun _ => True) := fun W x hx _ => tag1_any x hx W
theorem predAttr : PredQ 103 #[] pAttr (fun _ => True) := fun W x hx _ => tag2_any x hx W
theorem predEq : PredQ 104 #[] pEq (fun _ => True) := fun W x hx _ => tag3_any x hx W
theorem predQuote (q b : Nat) : PredQ 131 #[.pointer (some ⟨b, 0, none⟩)] (pIs q) (fun W => W.cell? ⟨b, 0, none⟩ = some (.int .u8 (q : Int))) := fun W x _ h => value1_any q b x W h
end Go.Proofs.YtoolfhjlhhcbgaaDoor

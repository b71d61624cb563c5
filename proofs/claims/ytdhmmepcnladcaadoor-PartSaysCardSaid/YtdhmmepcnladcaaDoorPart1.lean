import Derived.Test.YtdhmmepcnladcaaDoorTok
import Derived.Test.YtdhmmepcnladcaaDoorPartM
namespace Go.Proofs.YtdhmmepcnladcaaDoor
open Go.RowKit

set_option maxRecDepth 100000 in
set_option maxHeartbeats 400000 in
theorem type1_any (x : Nat) (w : World) : Calls Tryd.prog 84 #[.int .i32 (x : Int)] w fun e w' => e = .returned (.bool (upR x)) ∧ w = w' := by
  go_enter Tryd.func84, Tryd.ntmps84
  go_wp2_with fail
  all_goals
    go_ret
    refine ⟨congrArg (fun b => Ending.returned (.bool b)) (?_ : _ = upR x), rfl⟩
    rw [Bool.eq_iff_iff]
    simp [upR]
    try omega
theorem containsUp_any (l : List UInt8) (w : World) (ha : ∀ b ∈ l, b.toNat < 128) : Calls Tryd.prog 83 #[str l, .func (.func 84) #[] #[]] w fun e w' => e = .returned (.bool (l.any (fun b => upR b.toNat))) ∧ Below w.heap.size w w' := by
  have h := Go.Proofs.Tryd.strings_ContainsFunc_runes 84 #[] (enters_of Tryd.func84 (by kernel_rfl) rfl) upR ⟨l.toArray⟩ w
    (fun W x hx _ => (type1_any x W).mono fun e w' ⟨h1, h2⟩ => ⟨h1, 0, h2.symm⟩)
  rw [idxFunc_any upR l (.inr ha)] at h
  exact h
theorem cut_len (l : List UInt8) (c : UInt8) : (Lib.cut l [c]).1.length ≤ l.length ∧ (Lib.cut l [c]).2.1.length ≤ l.length := by
  unfold Lib.cut
  split
  · simp; omega
  · simp
set_option maxRecDepth 100000 in
set_option maxHeartbeats 1000000 in
theorem Type_any (l : List UInt8) (w : World) (hl : l.length ≤ maxLen) : Calls Tryd.prog 18 #[str l] w fun e w' => e = .returned (.bool (typB l)) ∧ Below w.heap.size w w' := by
  have hcut := Cut_one l 47 w hl
  have hcl := cut_len l 47
  have hasc := typ_ascii l
  unfold typB
  have hup := fun W h => containsUp_any l W h
  generalize l.any (fun b => upR b.toNat) = up at hup ⊢
  generalize Lib.cut l [47] = x at hcut hcl hasc ⊢
  obtain ⟨a, b, ok⟩ := x
  simp only at hcut hcl hasc ⊢
  have hta := fun W => Token_any a W (by omega)
  have htb := fun W => Token_any b W (by omega)
  generalize tokB a = ta at hta hasc ⊢
  generalize tokB b = tb at htb hasc ⊢
  have Hcut := Lib.hid hcut
  have Hta := Lib.hid hta
  have Htb := Lib.hid htb
  have Hup := Lib.hid hup
  have Hasc := Lib.hid hasc
  clear hcut hta htb hup hasc hcl hl
  cases ok
  · go_enter Tryd.func18, Tryd.ntmps18
    go_wp2_with fail
    refine Hcut.out.mono ?_
    rintro e w1 ⟨rfl, q, rfl⟩
    have hb1 : Below w.heap.size w (w.drewN q) := belN (Below.refl _ w) q
    generalize w.drewN q = w1 at hb1 ⊢
    go_wp2_with fail
    go_ret
    exact ⟨rfl, hb1⟩
  · cases ta
    · go_enter Tryd.func18, Tryd.ntmps18
      go_wp2_with fail
      refine Hcut.out.mono ?_
      rintro e w1 ⟨rfl, q, rfl⟩
      have hb1 : Below w.heap.size w (w.drewN q) := belN (Below.refl _ w) q
      generalize w.drewN q = w1 at hb1 ⊢
      go_wp2_with fail
      refine (Hta.out _).mono ?_
      rintro e w2 ⟨rfl, hb2⟩
      go_wp2_with fail
      go_ret
      exact ⟨rfl, hb1.trans (hb2.mono hb1.size)⟩
    · cases tb
      · go_enter Tryd.func18, Tryd.ntmps18
        go_wp2_with fail
        refine Hcut.out.mono ?_
        rintro e w1 ⟨rfl, q, rfl⟩
        have hb1 : Below w.heap.size w (w.drewN q) := belN (Below.refl _ w) q
        generalize w.drewN q = w1 at hb1 ⊢
        go_wp2_with fail
        refine (Hta.out _).mono ?_
        rintro e w2 ⟨rfl, hb2⟩
        have hbel2 := hb1.trans (hb2.mono hb1.size)
        go_wp2_with fail
        refine (Htb.out _).mono ?_
        rintro e w3 ⟨rfl, hb3⟩
        go_wp2_with fail
        go_ret
        exact ⟨rfl, hbel2.trans (hb3.mono hbel2.size)⟩
      · have hu := fun W => Hup.out W (Hasc.out rfl rfl rfl)
        have Hu := Lib.hid hu
        clear hu Hup Hasc
        go_enter Tryd.func18, Tryd.ntmps18
        go_wp2_with fail
        refine Hcut.out.mono ?_
        rintro e w1 ⟨rfl, q, rfl⟩
        have hb1 : Below w.heap.size w (w.drewN q) := belN (Below.refl _ w) q
        generalize w.drewN q = w1 at hb1 ⊢
        go_wp2_with fail
        refine (Hta.out _).mono ?_
        rintro e w2 ⟨rfl, hb2⟩
        have hbel2 := hb1.trans (hb2.mono hb1.size)
        go_wp2_with fail
        refine (Htb.out _).mono ?_
        rintro e w3 ⟨rfl, hb3⟩
        have hbel3 := hbel2.trans (hb3.mono hbel2.size)
        go_wp2_with fail
        refine (Hu.out _).mono ?_
        rintro e w4 ⟨rfl, hb4⟩
        have hbel4 := hbel3.trans (hb4.mono hbel3.size)
        go_wp2_with fail
        go_ret
        exact ⟨rfl, hbel4⟩
set_option maxRecDepth 100000 in
set_option maxHeartbeats 400000 in
theorem Many_any (l : List UInt8) (w : World) : Calls Tryd.prog 20 #[str l] w fun e w' => e = .returned (.bool (manyB l)) ∧ w = w' := by
  go_enter Tryd.func20, Tryd.ntmps20
  go_wp2_with fail
  refine (HasPrefix_any l [109, 117, 108, 116, 105, 112, 97, 114, 116, 47] _).mono ?_
  rintro e w1 ⟨rfl, rfl⟩
  go_wp2_with fail
  go_ret
  exact ⟨rfl, rfl⟩
set_option maxRecDepth 100000 in
set_option maxHeartbeats 400000 in
theorem word1_any (x : Nat) (hx : x < 256) (w : World) : Calls Tryd.prog 89 #[.int .u8 (x : Int)] w fun e w' => e = .returned (.bool (badWord x)) ∧ w = w' := by
  go_enter Tryd.func89, Tryd.ntmps89
  go_wp2_with fail
  all_goals
    go_ret
    refine ⟨congrArg (fun b => Ending.returned (.bool b)) (?_ : _ = badWord x), rfl⟩
    rw [Bool.eq_iff_iff]
    simp [badWord]
    try omega
theorem predWord (w : World) : PredB 89 #[] badWord w := fun W x hx _ =>
  (word1_any x hx W).mono fun e w' ⟨h1, h2⟩ => ⟨h1, h2 ▸ Below.refl _ _⟩
set_option maxRecDepth 100000 in
set_option maxHeartbeats 400000 in
theorem Word_any (l : List UInt8) (w : World) (hl : l.length ≤ maxLen) : Calls Tryd.prog 22 #[str l] w fun e w' => e = .returned (.bool (wordB l)) ∧ Below w.heap.size w w' := by
  unfold maxLen at hl
  by_cases h30 : l.length ≤ 120
  · have e : wordB l = !l.any (fun b => badWord b.toNat) := by simp [wordB, h30]
    rw [e]
    clear e
    obtain ⟨A, c, w1, hconv, hby, hnc, hb1, hlt1⟩ := run_toBytes (P := Tryd.prog) w 9 22 5 l Tryd.underlying9 Tryd.underlying22 Tryd.underlying5
    have hcf := ContainsFunc_bytes 89 #[] (enters_of Tryd.func89 (by kernel_rfl) rfl) badWord A l.length c _ l w1 hby (Nat.le_refl _) (by unfold maxLen; omega) (predWord w1)
    generalize l.any (fun b => badWord b.toNat) = r at hcf ⊢
    have Hcf := Lib.hid hcf
    clear hcf hby
    go_enter Tryd.func22, Tryd.ntmps22
    go_wp2_with fail
    refine Hcf.out.mono ?_
    rintro e w2 ⟨rfl, hb2⟩
    go_wp2_with fail
    go_ret
    exact ⟨rfl, hb1.trans (hb2.mono hb1.size)⟩
  · have e : wordB l = false := by simp [wordB, h30]
    rw [e]
    clear e
    go_enter Tryd.func22, Tryd.ntmps22
    go_wp2_with fail
    go_ret
    exact ⟨rfl, Below.refl _ _⟩
end Go.Proofs.YtdhmmepcnladcaaDoor

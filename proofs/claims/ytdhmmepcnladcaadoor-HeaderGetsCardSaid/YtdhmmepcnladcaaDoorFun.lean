import Derived.Test.YtdhmmepcnladcaaDoorBuild
import Derived.Test.YtdhmmepcnladcaaDoorIdx
import Derived.Shelf.Abstract
namespace Go.Proofs.YtdhmmepcnladcaaDoor
open Go.RowKit

/-- What a predicate on bytes is good for. -/
def PredB (g : Nat) (lb : Array Value) (p : Nat → Bool) (w : World) : Prop :=
  ∀ (W : World) (x : Nat), x < 256 → Below w.heap.size w W → Calls Tryd.prog g (#[.int .u8 (x : Int)] ++ lb) W fun e w' => e = .returned (.bool (p x)) ∧ Below W.heap.size W w'
def IdxRes (b : Bool) (w : World) (e : Ending) (w' : World) : Prop := ∃ i : Int, e = .returned (.int .i64 i) ∧ decide (0 ≤ i) = b ∧ Below w.heap.size w w'
theorem any_hit (l : List UInt8) (p : Nat → Bool) (k : Nat) (hk : k < l.length) (h : p (nth l k) = true) : l.any (fun b => p b.toNat) = true := by
  rw [List.any_eq_true]
  exact ⟨l[k], List.getElem_mem hk, by rw [← nth_of l k hk]; exact h⟩
theorem any_miss (l : List UInt8) (p : Nat → Bool) (h : ∀ j, j < l.length → p (nth l j) = false) : l.any (fun b => p b.toNat) = false := by
  rw [List.any_eq_false]
  intro x hx
  obtain ⟨j, hj, rfl⟩ := List.getElem_of_mem hx
  rw [← nth_of l j hj, h j hj]
  simp

set_option maxHeartbeats 400000 in
theorem IndexFunc_bytes (g : Nat) (lb : Array Value) (eg : ∀ args w, (callFunc g args).run Tryd.prog w = .ok (.enter g args) w) (p : Nat → Bool) (A : Option Addr) (n c B : Nat) (l : List UInt8) (w : World) (hb : By w B A n l) (hB : B ≤ w.heap.size) (hm : n ≤ maxLen) (hp : PredB g lb p w) :
    Calls Tryd.prog 163 #[.slice A n c, .func (.func g) #[] lb] w (IdxRes (l.any (fun b => p b.toNat)) w) := by
  have hl := hb.len
  have h1 := any_hit l p
  have h2 := any_miss l p
  generalize l.any (fun b => p b.toNat) = r at h1 h2
  have Hl := Lib.hid hl
  have H1 := Lib.hid h1
  have H2 := Lib.hid h2
  have Hp := Lib.hid hp
  clear hl h1 h2 hp
  unfold maxLen at hm
  go_enter Tryd.func163, Tryd.ntmps163
  go_wp2_with fail
  go_loopw [8] (fun iv wr => ∃ k : Nat, k ≤ n ∧ iv = .int .i64 k ∧ Below w.heap.size w wr ∧ Hid (∀ j, j < k → p (nth l j) = false)) (fun iv _ => n - (intOf iv).toNat)
  case atStart => exact ⟨0, by omega, rfl, Below.refl _ _, fun j hj => absurd hj (by omega)⟩
  case round =>
    obtain ⟨k, hk, rfl, hbel, hz⟩ := hrel
    by_cases hkn : k < n
    · obtain ⟨b, off, rfl, hbB, hcell1⟩ := hb.at_ hkn
      have hcell := (hbel.cell (p := ⟨b, off + k, none⟩) (Nat.lt_of_lt_of_le hbB hB)).trans hcell1
      have cS := Hp.out wr (nth l k) (nth_lt l k) hbel
      clear hcell1
      by_cases hpk : p (nth l k) = true
      · have hr : Hid (r = true) := H1.out k (by rw [Hl.out]; exact hkn) hpk
        rw [hpk] at cS
        clear hpk
        go_wp2_with (go_at_fn g; refine cS.mono ?_; rintro e w1 ⟨rfl, hb1⟩)
        go_ret
        exact ⟨k, rfl, by rw [hr.out]; simp, hbel.trans (hb1.mono hbel.size)⟩
      · have hpf : p (nth l k) = false := by simpa using hpk
        rw [hpf] at cS
        have HF := Lib.hid hpf
        clear hpk hpf
        go_wp2_with (go_at_fn g; refine cS.mono ?_; rintro e w1 ⟨rfl, hb1⟩)
        refine ⟨⟨k + 1, by omega, by go_num, hbel.trans (hb1.mono hbel.size), fun j hj => ?_⟩, by simp [intOf]; omega⟩
        rcases Nat.lt_or_ge j k with h | h
        · exact hz.out j h
        · rw [show j = k from by omega]; exact HF.out
    · have hr : Hid (r = false) := H2.out fun j hj => hz.out j (by rw [Hl.out] at hj; omega)
      go_wp2_with fail
      go_ret
      exact ⟨-1, rfl, by rw [hr.out]; rfl, hbel⟩
set_option maxHeartbeats 400000 in
theorem ContainsFunc_bytes (g : Nat) (lb : Array Value) (eg : ∀ args w, (callFunc g args).run Tryd.prog w = .ok (.enter g args) w) (p : Nat → Bool) (A : Option Addr) (n c B : Nat) (l : List UInt8) (w : World) (hb : By w B A n l) (hB : B ≤ w.heap.size) (hm : n ≤ maxLen) (hp : PredB g lb p w) :
    Calls Tryd.prog 88 #[.slice A n c, .func (.func g) #[] lb] w fun e w' => e = .returned (.bool (l.any (fun b => p b.toNat))) ∧ Below w.heap.size w w' := by
  have h := IndexFunc_bytes g lb eg p A n c B l w hb hB hm hp
  generalize l.any (fun b => p b.toNat) = r at h ⊢
  clear hp hb
  have H := Lib.hid h
  clear h eg
  go_enter Tryd.func88, Tryd.ntmps88
  go_wp2_with fail
  refine H.out.mono ?_
  rintro e w1 ⟨i, rfl, hi, hb1⟩
  have Hi := Lib.hid hi
  clear hi
  go_wp2_with fail
  all_goals
    go_ret
    exact ⟨by rw [← Hi.out]; rfl, hb1⟩
end Go.Proofs.YtdhmmepcnladcaaDoor

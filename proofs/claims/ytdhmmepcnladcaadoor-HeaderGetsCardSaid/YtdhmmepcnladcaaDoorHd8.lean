import Derived.Test.YtdhmmepcnladcaaDoorHd7
import Derived.WalkSpells
import Derived.Lib.SliceRun
namespace Go.Proofs.YtdhmmepcnladcaaDoor
open Go.RowKit

theorem cloInfoField : (Tryd.prog.info? 46).map (fun i => (i.zero, i.size, i.bytes)) = some (some (Value.agg #[.string ⟨#[]⟩, .string ⟨#[]⟩]), 2, 32) := by kernel_rfl
def CloResField (xs : List Value) (n : Nat) (w : World) (e : Ending) (w' : World) : Prop := ∃ S c, e = .returned (.slice S n c) ∧ w'.ownsRow w.heap.size 46 2 (.slice S n c) n xs ∧ Below w.heap.size w w'
set_option maxRecDepth 100000 in
set_option maxHeartbeats 1000000 in
theorem Clone_Field (A : Option Addr) (n c B : Nat) (xs : List Value) (w : World) (hx : Sl w B 2 A n xs) (hB : B ≤ w.heap.size) (h1x : ∀ u ∈ xs, u.oneCell' = true) (hn : n ≤ 1000000000) :
    Calls Tryd.prog 67 #[.slice A n c] w (CloResField xs n w) := by
  obtain ⟨i0, hi, hz0, hz1, hz2⟩ := info_parts cloInfoField
  have hnil : ∀ (w : World) (a : Option Addr) (n c n' c' : Nat), (binOp .eql 42 (.slice a n c) (.slice none n' c')).run Tryd.prog w = .ok (.bool a.isNone) w := fun w a n c n' c' => Lib.run_eql_slice_nil w _ _ a n c n' c' Tryd.underlying42
  cases A with
  | none =>
    have hn0 : n = 0 := by
      rcases Nat.eq_zero_or_pos n with h | h
      · exact h
      · obtain ⟨_, _, h', _⟩ := hx.2 h; cases h'
    subst hn0
    have hx0 : xs = [] := List.eq_nil_of_length_eq_zero (by simpa using hx.1)
    subst hx0
    clear hx h1x
    go_enter Tryd.func67, Tryd.ntmps67
    go_wp2_with fail
    go_ret
    exact ⟨none, 0, rfl, World.ownsRow_nil _ _ _ _, Below.refl _ _⟩
  | some a =>
    have hW : Below w.heap.size w (w.alloc (.cells #[] 46)) := (Below.refl _ w).alloc (Nat.le_refl _) _
    have hxW := hx.belowN hW hB
    have hown := World.ownsRow_made (base := w.heap.size) (e := 46) (size := 2) w #[] 0 (Nat.le_refl _) (Nat.zero_le _) rfl
    have H1 := Lib.hid h1x
    have h63 : 0 + n ≤ maxLen := by unfold maxLen; omega
    have h47 : (0 + n) * 32 ≤ 140737488355328 := by omega
    clear hx h1x
    go_enter Tryd.func67, Tryd.ntmps67
    go_wp2_with (at_builtin; refine wpList_app rfl _ _ 42 rfl w.heap.size 46 i0 (Value.agg #[.string ⟨#[]⟩, .string ⟨#[]⟩]) 2 32 Tryd.underlying42 hi hz0 hz1 hz2 rfl (by decide) _ 0 0 [] rfl hown _ (some a) n c xs rfl hxW H1.out h63 h47 hW.size ?_)
    intro S' c' w4 hown4 hb4 _
    go_wp2_with fail
    go_ret
    refine ⟨S', c', by simp, ?_, hW.trans hb4⟩
    simpa using hown4

/-! ### Cells set one behind the other -/
def setL (xs : List Value) : Nat → List Value → List Value
  | _, [] => xs
  | o, v :: r => setL (xs.set o v) (o + 1) r
theorem setL_take : ∀ (vs xs : List Value) (o k : Nat), k ≤ o → (setL xs o vs).take k = xs.take k
  | [], _, _, _, _ => rfl
  | v :: r, xs, o, k, h => by
    rw [setL, setL_take r (xs.set o v) (o + 1) k (by omega)]
    rw [List.take_set_of_le (by omega)]
section
variable {base : Nat} {e : TypeId} {size g n c : Nat}
theorem own_setCells : ∀ (vs xs : List Value) (o : Nat) (w : World), w.ownsRow base e size (.slice (some ⟨g, 0, none⟩) n c) n xs → (w.setCells g o vs).ownsRow base e size (.slice (some ⟨g, 0, none⟩) n c) n (setL xs o vs)
  | [], _, _, _, h => h
  | v :: r, xs, o, w, h => by
    rw [World.setCells, setL]
    exact own_setCells r _ _ _ (h.stored o v).1
theorem own_head {w : World} {xs : List Value} (h : w.ownsRow base e size (.slice (some ⟨g, 0, none⟩) n c) n xs) {i : Nat} (hi : i ≤ n) : w.ownsRow base e size (.slice (some ⟨g, 0, none⟩) i c) i (xs.take (i * size)) := by
  have hle : i * size ≤ n * size := Nat.mul_le_mul_right _ hi
  rcases h with ⟨hl, ⟨hv, _⟩ | ⟨g', cap, cur, hv, hb, hg, hnc, hm, hs, ht⟩⟩
  · cases hv
  · injection hv with h1 _ h2
    injection h1 with h1
    injection h1 with h1
    subst h1
    subst h2
    refine ⟨by rw [List.length_take, hl]; exact Nat.min_eq_left hle, .inr ⟨g, c, cur, rfl, hb, hg, by omega, hm, hs, ?_⟩⟩
    rw [← ht, List.take_take, Nat.min_eq_left hle]
theorem below_setCellsF {B : Nat} {a : World} (hb : B ≤ g) : ∀ (vs : List Value) (o : Nat) (w : World), Below B a w → Below B a (w.setCells g o vs)
  | [], _, _, h => h
  | _ :: r, o, w, h => below_setCellsF hb r (o + 1) _ (h.setCell hb _)
end
theorem zeroField (w : World) : (zeroValue 46).run Tryd.prog w = .ok (.agg #[.string ⟨#[]⟩, .string ⟨#[]⟩]) w := by kernel_rfl
theorem clear_fields (w : World) (ty : TypeId) (g o n c : Nat) (hn : 0 < n) (hc : ∀ j, j < n * 2 → (w.cell? ⟨g, o + j, none⟩).isSome = true) (hf : ∀ j, w.frozen? ⟨g, j, none⟩ = false) :
    ∃ vs, (Builtin.clear_ #[42] ty #[.slice (some ⟨g, o, none⟩) n c]).run Tryd.prog w = .ok (.tuple #[]) (w.setCells g o vs) := by
  obtain ⟨m, rfl⟩ : ∃ m, n = m + 1 := ⟨n - 1, by omega⟩
  obtain ⟨Z, hZ⟩ : ∃ Z, Z = (Builtin.zeroCells (Value.agg #[.string ⟨#[]⟩, .string ⟨#[]⟩]).cells (m + 1)).toList := ⟨_, rfl⟩
  have hZl : Z.length = (m + 1) * 2 := by rw [hZ]; simp [size_zeroCells, Value.cells]
  have hZ1 : ∀ v ∈ Z, v.oneCell' = true := by
    rw [hZ]
    intro v hv
    simp [Builtin.zeroCells, Value.cells] at hv
    obtain ⟨i, hi, rfl⟩ := hv
    rcases (by omega : i % 2 = 0 ∨ i % 2 = 1) with h | h <;> simp [h] <;> rfl
  have hst := run_storeCells_cells (P := Tryd.prog) g o Z 0 w (by intro j hj; rw [Nat.add_zero]; exact hc j (by omega)) (by intro j hj; rw [Nat.add_zero]; exact hf _) hZ1
  rw [Nat.add_zero] at hst
  refine ⟨Z, ?_⟩
  simp only [Builtin.clear_]
  simp [run_underlying Tryd.underlying42, zeroField, ← hZ, hst]
theorem cut_fields (w : World) (g n c : Nat) (ki : IntKind) (k : Int) (h0 : 0 ≤ k) (h1 : k ≤ n) (hkc : k < c) :
    (Instr.slice 42 (.slice (some ⟨g, 0, none⟩) n c) (some (.int ki k)) none none).run Tryd.prog w = .ok (.slice (some ⟨g, k.toNat * 2, none⟩) (n - k.toNat) (c - k.toNat)) w := by
  rw [run_cut w _ _ 2 Tryd.underlying42 (Tryd.sizeOf46 w) _ n c ki k h0 h1]
  unfold cutA
  rw [if_neg (by omega), Option.map_some, Addr.add_lit, Nat.zero_add]
theorem upto_fields (w : World) (g n c : Nat) (ki : IntKind) (k : Int) (h0 : 0 ≤ k) (h1 : k ≤ n) (hc : n ≤ c) :
    (Instr.slice 42 (.slice (some ⟨g, 0, none⟩) n c) none (some (.int ki k)) none).run Tryd.prog w = .ok (.slice (some ⟨g, 0, none⟩) k.toNat c) w := by
  rw [run_upto w _ _ 2 Tryd.underlying42 (Tryd.sizeOf46 w) _ n c ki k h0 h1 hc]
  unfold cutA
  split
  · rfl
  · rw [Option.map_some, Addr.add_lit]
attribute [local go_sem high] cut_fields upto_fields
theorem fieldC_swap (a r : List FieldD) (y x : FieldD) : ((fieldC (a ++ y :: r)).set (a.length * 2) (str x.name)).set (a.length * 2 + 1) (str x.value) = fieldC (a ++ x :: r) := by
  have e : ∀ z : FieldD, fieldC (a ++ z :: r) = fieldC a ++ (str z.name :: str z.value :: fieldC r) := by intro z; rw [fieldC_app]; rfl
  have hl := fieldC_len a
  rw [e, e, List.set_append_right _ _ (by omega), hl, Nat.sub_self, List.set_append_right _ _ (by omega), hl, show a.length * 2 + 1 - a.length * 2 = 1 from by omega]
  rfl

/-! ### slices.IndexFunc and slices.DeleteFunc at fields -/
/-- A test of the fields of a list, in all worlds behind one. -/
def PredF (g : Nat) (lb : Array Value) (p : FieldD → Bool) (l : List FieldD) (w : World) : Prop :=
  ∀ (W : World) (x : FieldD), x ∈ l → Below w.heap.size w W → Calls Tryd.prog g (#[.agg #[str x.name, str x.value]] ++ lb) W fun e w' => e = .returned (.bool (p x)) ∧ Below W.heap.size W w'
theorem PredF.later {g : Nat} {lb : Array Value} {p : FieldD → Bool} {l : List FieldD} {w w' : World} (h : PredF g lb p l w) (hb : Below w.heap.size w w') : PredF g lb p l w' :=
  fun W x hx hW => h W x hx (hb.trans (hW.mono hb.size))
/-- The first place for which it is so. -/
def firstF (p : FieldD → Bool) (l : List FieldD) : Int := if (l.any p) then ((l.takeWhile (fun x => !p x)).length : Int) else -1
theorem firstF_hit (p : FieldD → Bool) : ∀ (a : List FieldD) (x : FieldD) (r : List FieldD), (∀ y ∈ a, p y = false) → p x = true → firstF p (a ++ x :: r) = (a.length : Int)
  | a, x, r, h, hx => by
    have h1 : (a ++ x :: r).any p = true := by simp [hx]
    have h2 : (a ++ x :: r).takeWhile (fun x => !p x) = a := by
      rw [List.takeWhile_append_of_pos (by intro y hy; simp [h y hy]), List.takeWhile_cons, if_neg (by simp [hx]), List.append_nil]
    unfold firstF
    rw [if_pos h1, h2]
theorem firstF_none (p : FieldD → Bool) (l : List FieldD) (h : ∀ y ∈ l, p y = false) : firstF p l = -1 := by
  unfold firstF
  rw [if_neg (by rw [List.any_eq_true]; rintro ⟨y, hy, hp⟩; rw [h y hy] at hp; cases hp)]
def IdxFRel (p : FieldD → Bool) (l : List FieldD) (n : Nat) (w : World) (iv : Value) (wr : World) : Prop :=
  ∃ i : Nat, iv = .int .i64 (i : Nat) ∧ i ≤ n ∧ Hid (∀ y ∈ l.take i, p y = false) ∧ Below w.heap.size w wr
set_option maxRecDepth 100000 in
set_option maxHeartbeats 1000000 in
theorem IndexFunc_fields (g : Nat) (lb : Array Value) (eg : ∀ args w, (callFunc g args).run Tryd.prog w = .ok (.enter g args) w) (p : FieldD → Bool) (l : List FieldD) (A : Option Addr) (n c B : Nat) (w : World)
    (h : Sl w B 2 A n (fieldC l)) (hB : B ≤ w.heap.size) (hn : n ≤ maxLen) (hp : PredF g lb p l w) :
    Calls Tryd.prog 138 #[.slice A n c, .func (.func g) #[] lb] w fun e w' => e = .returned (.int .i64 (firstF p l)) ∧ Below w.heap.size w w' := by
  have hl : l.length = n := by have := h.1; rw [fieldC_len] at this; omega
  have f1 := firstF_hit p
  have f2 := firstF_none p l
  obtain ⟨R, hR⟩ : ∃ R, R = firstF p l := ⟨_, rfl⟩
  rw [← hR]
  unfold maxLen at hn
  have F1 := Lib.hid f1
  have F2 := Lib.hid f2
  have HR := Lib.hid hR
  have Hl := Lib.hid hl
  have HS := Lib.hid h
  have HP := Lib.hid hp
  clear f1 f2 hR hl h hp
  go_enter Tryd.func138, Tryd.ntmps138
  go_wp2_with fail
  go_loopw [8] (IdxFRel p l n w) (fun iv _ => n - (intOf iv).toNat)
  case atStart => exact ⟨0, rfl, Nat.zero_le _, fun y hy => by simp at hy, Below.refl _ _⟩
  case round =>
    obtain ⟨i, rfl, hi, hz, hbel⟩ := hrel
    by_cases hin : i < n
    · obtain ⟨b, off, x, rfl, hbB, hx, x0, x1⟩ := (HS.out.below (hbel.mono hB)).field i hin
      have hxl : x ∈ l := List.mem_of_mem_drop (i := i) (by rw [hx]; simp)
      have hcl := HP.out wr x hxl hbel
      have Hx := Lib.hid hx
      clear hx
      cases hpx : p x
      case true =>
        rw [hpx] at hcl
        have Hcl := Lib.hid hcl
        have hRi : Hid (R = (i : Int)) := by
          show R = _
          have e : l = l.take i ++ x :: l.drop (i + 1) := by rw [← Hx.out, List.take_append_drop]
          have := F1.out (l.take i) x (l.drop (i + 1)) hz.out hpx
          rw [← e, List.length_take, Hl.out, Nat.min_eq_left hi] at this
          rw [HR.out, this]
        clear hcl hpx
        go_wp2_with (go_at_fn g; refine Hcl.out.mono ?_; rintro e w1 ⟨rfl, hb1⟩)
        go_ret
        exact ⟨by rw [hRi.out]; rfl, hbel.trans (hb1.mono hbel.size)⟩
      case false =>
        rw [hpx] at hcl
        have Hcl := Lib.hid hcl
        have hz2 : Hid (∀ y ∈ l.take (i + 1), p y = false) := by
          intro y hy
          rw [List.take_succ_eq_append_getElem (by rw [Hl.out]; exact hin)] at hy
          rcases List.mem_append.1 hy with h | h
          · exact hz.out y h
          · simp only [List.mem_cons, List.not_mem_nil, or_false] at h
            have e : l[i]'(by rw [Hl.out]; exact hin) = x := by
              have := Hx.out
              rw [List.drop_eq_getElem_cons (by rw [Hl.out]; exact hin)] at this
              injection this
            rw [h, e]
            exact hpx
        clear hcl hpx
        go_wp2_with (go_at_fn g; refine Hcl.out.mono ?_; rintro e w1 ⟨rfl, hb1⟩)
        exact ⟨⟨i + 1, by go_num, by omega, hz2, hbel.trans (hb1.mono hbel.size)⟩, by simp [intOf]; omega⟩
    · have hRi : Hid (R = -1) := by
        show R = _
        rw [HR.out]
        refine F2.out fun y hy => hz.out y ?_
        rw [List.take_of_length_le (by rw [Hl.out]; omega)]
        exact hy
      go_wp2_with fail
      go_ret
      exact ⟨by rw [hRi.out]; rfl, hbel⟩
end Go.Proofs.YtdhmmepcnladcaaDoor

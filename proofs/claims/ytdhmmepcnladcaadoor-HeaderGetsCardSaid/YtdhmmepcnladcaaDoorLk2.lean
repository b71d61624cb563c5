import Derived.Test.YtdhmmepcnladcaaDoorLk1
namespace Go.Proofs.YtdhmmepcnladcaaDoor
open Go.RowKit

theorem grown_set (w : World) (b i : Nat) (v : Value) : w.grownBy (w.setCell ⟨b, i, none⟩ v) (some b) :=
  ⟨rfl, rfl, rfl, by simp, fun k _ hne => Below.heap_setCell w ⟨b, i, none⟩ v k (fun e => hne (by rw [e]))⟩

/-- A row of bytes of the call's own, that may be written. -/
def OwnB (w : World) (g : Nat) (l : List UInt8) : Prop := ∃ (cs : Array Value) (fr : Nat × Nat), w.heap[g]? = some (.cells cs 5 fr) ∧ l.length ≤ cs.size ∧ cs.toList.take l.length = Lib.byteCells l ∧ ∀ o, o < l.length → ¬ (fr.1 ≤ o ∧ o < fr.2)
theorem OwnB.by_ {w : World} {g : Nat} {l : List UInt8} (h : OwnB w g l) : By w w.heap.size (some ⟨g, 0, none⟩) l.length l := by
  obtain ⟨cs, fr, h1, h2, h3, _⟩ := h
  refine Sl.of_block h1 (by simp [Lib.byteCells]) fun j u hu => ?_
  rw [Nat.zero_add]
  rw [← h3, List.getElem?_take] at hu
  split at hu
  · simpa using hu
  · cases hu
theorem OwnB.fz {w : World} {g : Nat} {l : List UInt8} (h : OwnB w g l) (o : Nat) (ho : o < l.length) : w.frozen? ⟨g, o, none⟩ = false := by
  obtain ⟨cs, fr, h1, _, _, h4⟩ := h
  have := h4 o ho
  unfold World.frozen?
  rw [h1]
  simp
  omega
theorem OwnB.set {w : World} {g : Nat} {l : List UInt8} (h : OwnB w g l) (k : Nat) (x : UInt8) : OwnB (w.setCell ⟨g, k, none⟩ (.int .u8 (x.toNat : Int))) g (l.set k x) := by
  obtain ⟨cs, fr, h1, h2, h3, h4⟩ := h
  refine ⟨_, fr, Go.Joins.block_setCell h1 _, by simpa using h2, ?_, by simpa using h4⟩
  rw [List.length_set, Array.toList_setIfInBounds, List.take_set, h3]
  simp [Lib.byteCells, List.map_set]
theorem OwnB.below {w w' : World} {g : Nat} {l : List UInt8} (h : OwnB w g l) (hb : Below (g + 1) w w') : OwnB w' g l := by
  obtain ⟨cs, fr, h1, h2⟩ := h
  exact ⟨cs, fr, (hb.block g (by omega)).trans h1, h2⟩
theorem run_toOwn {P : Program} (w : World) (src dst e : TypeId) (l : List UInt8) (hs : P.underlying src = some .string) (hd : P.underlying dst = some (.slice e)) (he : P.underlying e = some (.int .u8)) (hee : e = 5) :
    ∃ c w', (convert src dst (str l)).run P w = .ok (.slice (some ⟨w.heap.size, 0, none⟩) l.length c) w' ∧ OwnB w' w.heap.size l ∧ l.length ≤ c ∧ Below w.heap.size w w' ∧ w'.heap.size = w.heap.size + 1 := by
  subst hee
  refine ⟨_, _, run_bytes_of_string w src dst _ ⟨l.toArray⟩ hs hd he, ⟨_, _, heap_alloc_new w.drew _, ?_, ?_, ?_⟩, grownCap_ge _ _ _ _, (Below.drew (Below.refl _ w)).alloc (Nat.le_refl _) _, by simp⟩
  · simp [bytesRow]
  · simp [bytesRow, Lib.byteCells]
  · intro o ho
    simp [bytesRow]
    omega
theorem low_at (l : List UInt8) (k : Nat) (h : k < l.length) : (l.take k).map lowB ++ l.drop k = ((l.take k).map lowB ++ l.drop k) ∧ ((l.take (k + 1)).map lowB ++ l.drop (k + 1) = ((l.take k).map lowB ++ l.drop k).set k (lowB l[k])) := by
  refine ⟨rfl, ?_⟩
  have hk : ((l.take k).map lowB).length = k := by simp; omega
  rw [List.set_append_right _ _ (by omega), hk, Nat.sub_self, List.drop_eq_getElem_cons h, List.set_cons_zero, List.take_add_one, List.getElem?_eq_getElem h, List.map_append, List.append_assoc]
  rfl
theorem wrap_lo : ∀ x : Fin 256, 65 ≤ x.val → x.val ≤ 90 → IntKind.u8.wrap (IntKind.u8.wrap ((x.val : Nat) : Int) + 97) - 65 = ((x.val + 32 : Nat) : Int) := by decide +kernel
def LowRel (w : World) (n : Nat) (l : List UInt8) (iv : Value) (wr : World) : Prop :=
  ∃ k : Nat, k ≤ n ∧ iv = .int .i64 k ∧ Below w.heap.size w wr ∧ OwnB wr w.heap.size ((l.take k).map lowB ++ l.drop k)
set_option maxRecDepth 100000 in
set_option maxHeartbeats 1000000 in
theorem lower_any (l : List UInt8) (w : World) (hl : l.length ≤ maxLen) : Calls Tryd.prog 185 #[str l] w fun e w' => e = .returned (str (lowL l)) ∧ Below w.heap.size w w' := by
  unfold maxLen at hl
  obtain ⟨c, w1, hconv, hown, hc, hb1, hsz⟩ := run_toOwn (P := Tryd.prog) w 9 22 5 l Tryd.underlying9 Tryd.underlying22 Tryd.underlying5 rfl
  obtain ⟨n, hn⟩ : ∃ n, n = l.length := ⟨_, rfl⟩
  rw [← hn] at hconv hl hc
  have Hn := Lib.hid hn
  have Hown := Lib.hid hown
  have Hsz := Lib.hid hsz
  clear hn hown hsz
  go_enter Tryd.func185, Tryd.ntmps185
  go_wp2_with fail
  go_loopw [4, 5, 10] (fun _ _ iv wr => LowRel w n l iv wr) (fun _ _ iv _ => n - (intOf iv).toNat)
  case atStart => exact ⟨0, by omega, rfl, hb1, by simpa using Hown.out⟩
  case round =>
    obtain ⟨k, hk, rfl, hbel, hO⟩ := hrel
    have hlen : ((l.take k).map lowB ++ l.drop k).length = n := by
      simp only [List.length_append, List.length_map, List.length_take, List.length_drop]; have := Hn.out; omega
    by_cases hkn : k < n
    · have hkl : k < l.length := by rw [← Hn.out]; exact hkn
      have hfz := hO.fz k (by rw [hlen]; exact hkn)
      have hcell : wr.cell? ⟨w.heap.size, k, none⟩ = some (.int .u8 (nth l k)) := by
        obtain ⟨b, off, hA, _, hc⟩ := hO.by_.opn (by rw [hlen]; omega)
        injection hA with hA
        injection hA with hA hB _
        subst hA
        subst hB
        have := hc k (by rw [hlen]; exact hkn)
        rw [Nat.zero_add] at this
        rw [this]
        have e : nth ((l.take k).map lowB ++ l.drop k) k = nth l k := by
          have : ((l.take k).map lowB).length = k := by simp; omega
          unfold nth
          simp only [List.getD]
          rw [List.getElem?_append_right (by omega), this, Nat.sub_self, List.getElem?_drop, Nat.add_zero]
        rw [e]
      have hx := nth_lt l k
      have hset := (low_at l k hkl).2
      have hnk : l[k].toNat = nth l k := (nth_of l k hkl).symm
      have hO2 := hO.set k (lowB l[k])
      rw [← hset] at hO2
      have HO := Lib.hid hO
      have HO2 := Lib.hid hO2
      have Hset := Lib.hid hset
      have Hnk := Lib.hid hnk
      have Hlen := Lib.hid hlen
      clear hset hnk hO hO2 hlen
      have hsame : ¬ (65 ≤ nth l k ∧ nth l k ≤ 90) → LowRel w n l (.int .i64 ((k + 1 : Nat) : Int)) wr := by
        intro h
        refine ⟨k + 1, by omega, rfl, hbel, ?_⟩
        have e : lowB l[k] = l[k] := by
          unfold lowB
          rw [if_neg]
          intro ⟨h1, h2⟩
          have h1 := UInt8.le_iff_toNat_le.1 h1
          have h2 := UInt8.le_iff_toNat_le.1 h2
          rw [Hnk.out] at h1 h2
          exact h ⟨h1, h2⟩
        rw [Hset.out, e]
        have e2 : ((l.take k).map lowB ++ l.drop k)[k]'(by rw [Hlen.out]; exact hkn) = l[k] := by
          have : ((l.take k).map lowB).length = k := by simp; omega
          rw [List.getElem_append_right (by omega)]
          simp only [List.getElem_drop]
          congr 1
          omega
        rw [← e2, List.set_getElem_self]
        exact HO.out
      by_cases h1 : 65 ≤ nth l k
      · by_cases h2 : nth l k ≤ 90
        · clear hsame
          go_wp2_with fail
          refine ⟨⟨k + 1, by omega, by go_num, hbel.setCell (Nat.le_refl _) _, ?_⟩, by simp [intOf]; omega⟩
          have e : (lowB l[k]).toNat = nth l k + 32 := by
            unfold lowB
            rw [if_pos ⟨UInt8.le_iff_toNat_le.2 (by rw [Hnk.out]; exact h1), UInt8.le_iff_toNat_le.2 (by rw [Hnk.out]; exact h2)⟩, UInt8.toNat_add, Hnk.out]
            show (nth l k + 32) % 256 = _
            omega
          have e2 : ((nth l k : Nat) : Int) + 97 - 65 = (((lowB l[k]).toNat : Nat) : Int) := by rw [e]; omega
          rw [e2]
          exact HO2.out
        · have hs := Lib.hid (hsame (by omega))
          clear hsame
          go_wp2_with fail
          exact ⟨by have := hs.out; simpa using this, by simp [intOf]; omega⟩
      · have hs := Lib.hid (hsame (by omega))
        clear hsame
        go_wp2_with fail
        exact ⟨by have := hs.out; simpa using this, by simp [intOf]; omega⟩
    · have hkn' : k = n := by omega
      have hM : (l.take k).map lowB ++ l.drop k = lowL l := by
        rw [hkn', List.take_of_length_le (by rw [← Hn.out]; omega), List.drop_of_length_le (by rw [← Hn.out]; omega), List.append_nil]; rfl
      rw [hM] at hO hlen
      have hts := run_toStr (P := Tryd.prog) wr 22 9 5 _ (some ⟨w.heap.size, 0, none⟩) n c (lowL l) (by have := hO.by_; rw [hlen] at this; exact this) Tryd.underlying22 Tryd.underlying5 Tryd.underlying9
      clear hO hM hlen hkn'
      go_wp2_with fail
      go_ret
      exact ⟨rfl, hbel⟩
end Go.Proofs.YtdhmmepcnladcaaDoor

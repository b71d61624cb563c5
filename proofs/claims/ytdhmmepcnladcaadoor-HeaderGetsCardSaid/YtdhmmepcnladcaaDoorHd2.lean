import Derived.Test.YtdhmmepcnladcaaDoorHd1
namespace Go.Proofs.YtdhmmepcnladcaaDoor
open Go.RowKit

set_option maxRecDepth 100000 in
set_option maxHeartbeats 1000000 in
theorem lowerH_any (l : List UInt8) (w : World) (hl : l.length ≤ maxLen) : Calls Tryd.prog 100 #[str l] w fun e w' => e = .returned (str (lowL l)) ∧ Below w.heap.size w w' := by
  unfold maxLen at hl
  obtain ⟨c, w1, hconv, hown, hc, hb1, hsz⟩ := run_toOwn (P := Tryd.prog) w 9 22 5 l Tryd.underlying9 Tryd.underlying22 Tryd.underlying5 rfl
  obtain ⟨n, hn⟩ : ∃ n, n = l.length := ⟨_, rfl⟩
  rw [← hn] at hconv hl hc
  have Hn := Lib.hid hn
  have Hown := Lib.hid hown
  have Hsz := Lib.hid hsz
  clear hn hown hsz
  go_enter Tryd.func100, Tryd.ntmps100
  go_wp2_with fail
  go_loopw [4, 5, 10] (fun _ _ iv wr => LowRel w n l iv wr) (fun _ _ iv _ => n - (intOf iv).toNat)
  case atStart => exact ⟨0, by omega, rfl, hb1, by simpa using Hown.out⟩
  case round =>
    obtain ⟨k, hk, rfl, hbel, hO⟩ := hrel
    have hlen : ((l.take k).map lowB ++ l.drop k).length = n := by
      simp only [List.length_append, List.length_map, List.length_take, List.length_drop]; have := Hn.out; omega
    by_cases hkn : k < n
    · have hkl : k < l.length := by rw [← Hn.out]; exact hkn
      have hfz := hO.fz k (by rw [hlen]; exact hkn)
      have hcell : wr.cell? ⟨w.heap.size, k, none⟩ = some (.int .u8 (nth l k)) := by
        obtain ⟨b, off, hA, _, hc⟩ := hO.by_.opn (by rw [hlen]; omega)
        injection hA with hA
        injection hA with hA hB _
        subst hA
        subst hB
        have := hc k (by rw [hlen]; exact hkn)
        rw [Nat.zero_add] at this
        rw [this]
        have e : nth ((l.take k).map lowB ++ l.drop k) k = nth l k := by
          have : ((l.take k).map lowB).length = k := by simp; omega
          unfold nth
          simp only [List.getD]
          rw [List.getElem?_append_right (by omega), this, Nat.sub_self, List.getElem?_drop, Nat.add_zero]
        rw [e]
      have hx := nth_lt l k
      have hset := (low_at l k hkl).2
      have hnk : l[k].toNat = nth l k := (nth_of l k hkl).symm
      have hO2 := hO.set k (lowB l[k])
      rw [← hset] at hO2
      have HO := Lib.hid hO
      have HO2 := Lib.hid hO2
      have Hset := Lib.hid hset
      have Hnk := Lib.hid hnk
      have Hlen := Lib.hid hlen
      clear hset hnk hO hO2 hlen
      have hsame : ¬ (65 ≤ nth l k ∧ nth l k ≤ 90) → LowRel w n l (.int .i64 ((k + 1 : Nat) : Int)) wr := by
        intro h
        refine ⟨k + 1, by omega, rfl, hbel, ?_⟩
        have e : lowB l[k] = l[k] := by
          unfold lowB
          rw [if_neg]
          intro ⟨h1, h2⟩
          have h1 := UInt8.le_iff_toNat_le.1 h1
          have h2 := UInt8.le_iff_toNat_le.1 h2
          rw [Hnk.out] at h1 h2
          exact h ⟨h1, h2⟩
        rw [Hset.out, e]
        have e2 : ((l.take k).map lowB ++ l.drop k)[k]'(by rw [Hlen.out]; exact hkn) = l[k] := by
          have : ((l.take k).map lowB).length = k := by simp; omega
          rw [List.getElem_append_right (by omega)]
          simp only [List.getElem_drop]
          congr 1
          omega
        rw [← e2, List.set_getElem_self]
        exact HO.out
      by_cases h1 : 65 ≤ nth l k
      · by_cases h2 : nth l k ≤ 90
        · clear hsame
          go_wp2_with fail
          refine ⟨⟨k + 1, by omega, by go_num, hbel.setCell (Nat.le_refl _) _, ?_⟩, by simp [intOf]; omega⟩
          have e : (lowB l[k]).toNat = nth l k + 32 := by
            unfold lowB
            rw [if_pos ⟨UInt8.le_iff_toNat_le.2 (by rw [Hnk.out]; exact h1), UInt8.le_iff_toNat_le.2 (by rw [Hnk.out]; exact h2)⟩, UInt8.toNat_add, Hnk.out]
            show (nth l k + 32) % 256 = _
            omega
          have e2 : ((nth l k : Nat) : Int) + 97 - 65 = (((lowB l[k]).toNat : Nat) : Int) := by rw [e]; omega
          rw [e2]
          exact HO2.out
        · have hs := Lib.hid (hsame (by omega))
          clear hsame
          go_wp2_with fail
          exact ⟨by have := hs.out; simpa using this, by simp [intOf]; omega⟩
      · have hs := Lib.hid (hsame (by omega))
        clear hsame
        go_wp2_with fail
        exact ⟨by have := hs.out; simpa using this, by simp [intOf]; omega⟩
    · have hkn' : k = n := by omega
      have hM : (l.take k).map lowB ++ l.drop k = lowL l := by
        rw [hkn', List.take_of_length_le (by rw [← Hn.out]; omega), List.drop_of_length_le (by rw [← Hn.out]; omega), List.append_nil]; rfl
      rw [hM] at hO hlen
      have hts := run_toStr (P := Tryd.prog) wr 22 9 5 _ (some ⟨w.heap.size, 0, none⟩) n c (lowL l) (by have := hO.by_; rw [hlen] at this; exact this) Tryd.underlying22 Tryd.underlying5 Tryd.underlying9
      clear hO hM hlen hkn'
      go_wp2_with fail
      go_ret
      exact ⟨rfl, hbel⟩


/-! ### header.Text -/
theorem textF_cons (f : FieldD) (l : List FieldD) : textF (f :: l) = lineF f ++ textF l := by simp [textF]
def FTextRel (w : World) (n : Nat) (l : List FieldD) (T : List UInt8) (iv : Value) (wr : World) : Prop :=
  ∃ (i : Nat) (out : List UInt8), iv = .int .i64 (i : Nat) ∧ i ≤ n ∧ Hid (out ++ textF (l.drop i) = T) ∧ Bld w.heap.size out wr ∧ Below w.heap.size w wr
set_option maxRecDepth 100000 in
set_option maxHeartbeats 1000000 in
theorem FText_any (l : List FieldD) (A : Option Addr) (n c B : Nat) (w : World) (h : Sl w B 2 A n (fieldC l)) (hB : B ≤ w.heap.size) (hn : n ≤ maxLen) (hlen : (textF l).length ≤ 1000000) :
    Calls Tryd.prog 102 #[.slice A n c] w fun e w' => e = .returned (str (textF l)) ∧ Below w.heap.size w w' := by
  have hl : l.length = n := by have := h.1; rw [fieldC_len] at this; omega
  obtain ⟨T, hT⟩ : ∃ T, T = textF l := ⟨_, rfl⟩
  rw [← hT] at hlen ⊢
  unfold maxLen at hn
  have HT := Lib.hid hT; have Hl := Lib.hid hl; clear hT hl
  go_enter Tryd.func102, Tryd.ntmps102
  go_wp2_with fail
  go_loopw [8] (FTextRel w n l T) (fun iv _ => n - (intOf iv).toNat)
  case atStart => exact ⟨0, [], rfl, by omega, by show [] ++ textF l = T; rw [HT.out]; rfl, Bld.fresh w, (Below.refl _ _).alloc (Nat.le_refl _) _⟩
  case round =>
    obtain ⟨i, out, rfl, hi, hE, hBl, hbel⟩ := hrel
    by_cases hin : i < n
    · obtain ⟨b, off, x, rfl, hbB, hx, x0, x1⟩ := (h.below (hbel.mono hB)).field i hin
      have hE2 : Hid ((out ++ (x.name ++ 58 :: 32 :: (x.value ++ [13, 10]))) ++ textF (l.drop (i + 1)) = T) := by
        show _ = T
        rw [← hE.out, hx, textF_cons, show lineF x = x.name ++ 58 :: 32 :: (x.value ++ [13, 10]) from by simp [lineF], List.append_assoc]
      have hol : out.length + (x.name.length + x.value.length + 4) ≤ 1000000 := by
        have := congrArg List.length hE2.out
        simp only [List.length_append, List.length_cons, List.length_nil] at this
        omega
      have hbA := (Below.refl wr.heap.size wr).alloc (Nat.le_refl _) (.cells #[str x.name, str x.value] 46)
      have hB1 := hBl.below hbA
      have hbelA := hbel.trans (hbA.mono hbel.size)
      have c1 : x.name.length + 2 ≤ 9223372036854775807 := by omega
      have c2 : x.name.length + 2 + x.value.length ≤ 9223372036854775807 := by omega
      have c3 : x.name.length + 2 + x.value.length + 2 ≤ 9223372036854775807 := by omega
      clear hE hx hbA hBl hbel
      go_wp2_with fail
      refine (WriteString_any w.heap.size out _ _ hB1 (by simp only [List.length_append, List.length_cons, List.length_nil]; omega)).mono ?_
      rintro e w2 ⟨rfl, hB2, hb2⟩
      go_wp2_with fail
      exact ⟨⟨i + 1, _, by go_num, by omega, hE2, hB2, hbelA.trans hb2⟩, by simp [intOf]; omega⟩
    · have hE1 : Hid (out ++ [13, 10] = T) := by
        have h := hE.out
        rw [List.drop_of_length_le (by rw [Hl.out]; omega)] at h
        exact h
      have hol : out.length + 2 ≤ 1000000 := by have := congrArg List.length hE1.out; simp only [List.length_append, List.length_cons, List.length_nil] at this; omega
      clear hE
      go_wp2_with fail
      refine (WriteString_any w.heap.size out [13, 10] _ hBl (by simp; omega)).mono ?_
      rintro e w1 ⟨rfl, hB1, hb1⟩
      go_wp2_with fail
      refine (String_any w.heap.size _ _ hB1).mono ?_
      rintro e w2 ⟨rfl, hb2⟩
      go_wp2_with fail
      go_ret
      exact ⟨by rw [hE1.out]; rfl, (hbel.trans hb1).trans hb2⟩

/-! ### header.Print -/
def PrintRes (r : List UInt8 × Nat) (w : World) (e : Ending) (w' : World) : Prop := e = .returned (.tuple #[str r.1, .int .i64 (r.2 : Nat)]) ∧ Below w.heap.size w w'
set_option maxRecDepth 100000 in
set_option maxHeartbeats 1000000 in
theorem FPrint_any (l : List FieldD) (A : Option Addr) (n c B : Nat) (w : World) (h : Sl w B 2 A n (fieldC l)) (hB : B ≤ w.heap.size) (hs : smallF l) (hn : n ≤ maxLen) :
    Calls Tryd.prog 36 #[.slice A n c] w (PrintRes (printF l) w) := by
  have hck := FCheck_any l A n c B w h hB hs hn
  have htl := @text_len l
  unfold PrintRes printF
  by_cases h0 : chkF l = 0
  · rw [h0] at hck
    have ht := htl h0
    rw [if_pos h0]
    have htx := fun W hb => FText_any l A n c B W (h.below hb) (Nat.le_trans hB hb.size) hn (by omega)
    have Htx := Lib.hid (show ∀ W, Below B w W → B ≤ W.heap.size → _ from fun W hb hW => FText_any l A n c B W (h.below hb) hW hn (by omega))
    have Hck := Lib.hid hck
    clear htx hck h0 htl ht h
    go_enter Tryd.func36, Tryd.ntmps36
    go_wp2_with fail
    refine Hck.out.mono ?_
    rintro e w1 ⟨rfl, hb1⟩
    go_wp2_with fail
    refine (Htx.out w1 (hb1.mono hB) (Nat.le_trans hB hb1.size)).mono ?_
    rintro e w2 ⟨rfl, hb2⟩
    go_wp2_with fail
    go_ret2
    exact ⟨rfl, hb1.trans (hb2.mono hb1.size)⟩
  · rw [if_neg h0]
    generalize chkF l = k at hck h0
    have hk : ((k : Int) != 0) = true := by simp; omega
    have Hck := Lib.hid hck
    clear hck h0 htl h
    go_enter Tryd.func36, Tryd.ntmps36
    go_wp2_with fail
    refine Hck.out.mono ?_
    rintro e w1 ⟨rfl, hb1⟩
    go_wp2_with fail
    go_ret2
    exact ⟨rfl, hb1⟩

/-! ### Fields held against one another -/
instance : DecidableEq FieldD := fun a b =>
  if h : a.name = b.name ∧ a.value = b.value then isTrue (by obtain ⟨a1, a2⟩ := a; obtain ⟨b1, b2⟩ := b; obtain ⟨rfl, rfl⟩ := h; rfl)
  else isFalse (fun e => h (by subst e; exact ⟨rfl, rfl⟩))
theorem fieldD_beq (a b : FieldD) : (a == b) = ((a.name == b.name) && (a.value == b.value)) := by
  rw [Bool.eq_iff_iff]
  simp only [beq_iff_eq, Bool.and_eq_true]
  constructor
  · rintro rfl; exact ⟨rfl, rfl⟩
  · rintro ⟨h1, h2⟩
    obtain ⟨a1, a2⟩ := a
    obtain ⟨b1, b2⟩ := b
    simp only at h1 h2
    subst h1
    subst h2
    rfl
theorem neq_field (W : World) (a b : FieldD) : (binOp .neq 46 (.agg #[str a.name, str a.value]) (.agg #[str b.name, str b.value])).run Tryd.prog W = .ok (.bool (!(a == b))) W := by
  rw [fieldD_beq, run_neq_struct, run_equalIn_agg _ _ _ _ _ (by kernel_rfl) (by kernel_rfl)]
  have hs : ∀ x y : List UInt8, (Op.equalIn 9999 9 (str x) (str y)).run Tryd.prog W = .ok (x == y) W := by
    intro x y
    rw [str_eq, str_eq, run_equalIn_string W 9998 9 _ _ Tryd.underlying9]
    simp
  have h1 := hs a.name b.name
  have h2 := hs a.value b.value
  clear hs
  by_cases e1 : a.name = b.name
  · rw [e1] at h1
    by_cases e2 : a.value = b.value
    · rw [e2] at h2
      go_simp
    · have e2' : (a.value == b.value) = false := by simpa using e2
      rw [e2'] at h2
      go_simp
  · have e1' : (a.name == b.name) = false := by simpa using e1
    rw [e1'] at h1
    go_simp
def EqFRel (n : Nat) (ls ls' : List FieldD) (w : World) (iv : Value) (wr : World) : Prop :=
  ∃ i q : Nat, iv = .int .i64 (i : Nat) ∧ i ≤ n ∧ wr = w.drewN q ∧ Hid (ls.take i = ls'.take i)
set_option maxRecDepth 100000 in
set_option maxHeartbeats 1000000 in
theorem Equal_fields (A A' : Option Addr) (n c n' c' B B' : Nat) (ls ls' : List FieldD) (w : World) (h : Sl w B 2 A n (fieldC ls)) (h' : Sl w B' 2 A' n' (fieldC ls')) (hn : n ≤ 1000000) (hn' : n' ≤ 1000000) :
    Calls Tryd.prog 35 #[.slice A n c, .slice A' n' c'] w fun e w' => e = .returned (.bool (ls == ls')) ∧ ∃ q, w' = w.drewN q := by
  have hl : ls.length = n := by have := h.1; rw [fieldC_len] at this; omega
  have hl' : ls'.length = n' := by have := h'.1; rw [fieldC_len] at this; omega
  by_cases hnn : n = n'
  · subst hnn
    have hne : ((n : Int) != (n : Int)) = false := by simp
    obtain ⟨R, hR⟩ : ∃ R, R = (ls == ls') := ⟨_, rfl⟩
    rw [← hR]
    have HR := Lib.hid hR
    have Hl := Lib.hid hl
    have Hl' := Lib.hid hl'
    clear hR hl hl'
    go_enter Tryd.func35, Tryd.ntmps35
    go_wp2_with fail
    go_loopw [13] (fun iv wr => EqFRel n ls ls' w iv wr) (fun iv _ => n - (intOf iv).toNat)
    case atStart => exact ⟨0, 0, rfl, Nat.zero_le _, rfl, rfl⟩
    case round =>
      obtain ⟨i, q, rfl, hi, rfl, hz⟩ := hrel
      by_cases hin : i < n
      · obtain ⟨b, off, x, rfl, _, hdx, x0, x1⟩ := h.field i hin
        obtain ⟨b', off', x', rfl, _, hdx', x0', x1'⟩ := h'.field i hin
        have hneq := fun W => neq_field W x x'
        have hget : ls.take (i + 1) = ls.take i ++ [x] ∧ ls'.take (i + 1) = ls'.take i ++ [x'] := by
          have e1 : ls[i]? = some x := by have := congrArg (fun l => l[0]?) hdx; simpa using this
          have e2 : ls'[i]? = some x' := by have := congrArg (fun l => l[0]?) hdx'; simpa using this
          rw [List.take_add_one, List.take_add_one, e1, e2]
          exact ⟨rfl, rfl⟩
        have Hget := Lib.hid hget
        clear hdx hdx' hget
        by_cases hxx : x = x'
        · have e : (x == x') = true := by simpa using hxx
          have Hxx := Lib.hid hxx
          rw [e] at hneq
          clear hxx e
          go_wp2_with fail
          go_quiet (fail)
          go_wp2_with fail
          refine ⟨⟨i + 1, _, by go_num, by omega, rfl, ?_⟩, by simp [intOf]; omega⟩
          show _ = _
          rw [Hget.out.1, Hget.out.2, hz.out, Hxx.out]
        · have e : (x == x') = false := by simpa using hxx
          have Hxx := Lib.hid hxx
          rw [e] at hneq
          clear hxx e
          go_wp2_with fail
          go_quiet (fail)
          go_wp2_with fail
          go_ret
          have hRf : R = false := by
            rw [HR.out, beq_eq_false_iff_ne]
            rintro rfl
            have := Hget.out.1.symm.trans Hget.out.2
            rw [List.append_cancel_left_eq] at this
            injection this with this
            exact Hxx.out this
          exact ⟨by rw [hRf]; rfl, _, World.drewN_drewN _ _ _⟩
      · obtain rfl : i = n := by omega
        have hRt : R = true := by
          rw [HR.out, beq_iff_eq]
          have := hz.out
          rw [List.take_of_length_le (by have := Hl.out; omega), List.take_of_length_le (by have := Hl'.out; omega)] at this
          exact this
        have HRt := Lib.hid hRt
        clear hRt
        go_wp2_with fail
        go_ret
        exact ⟨by rw [HRt.out]; rfl, _, rfl⟩
  · have hne : ((n : Int) != (n' : Int)) = true := by simp; omega
    have hR : (ls == ls') = false := by
      rw [beq_eq_false_iff_ne]; rintro rfl; exact hnn (hl.symm.trans hl')
    rw [hR]
    clear hR hnn hl hl'
    go_enter Tryd.func35, Tryd.ntmps35
    go_wp2_with fail
    go_ret
    exact ⟨rfl, 0, rfl⟩
end Go.Proofs.YtdhmmepcnladcaaDoor

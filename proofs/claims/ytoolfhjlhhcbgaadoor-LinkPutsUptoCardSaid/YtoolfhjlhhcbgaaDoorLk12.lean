import Derived.Test.YtoolfhjlhhcbgaaDoorLk11
import Derived.Laws.StructEq
namespace Go.Proofs.YtoolfhjlhhcbgaaDoor
open Go.RowKit

instance : DecidableEq LinkD := fun a b =>
  if h : a.frm = b.frm ∧ a.til = b.til ∧ a.text = b.text then isTrue (by obtain ⟨a1, a2, a3⟩ := a; obtain ⟨b1, b2, b3⟩ := b; obtain ⟨rfl, rfl, rfl⟩ := h; rfl)
  else isFalse (fun e => h (by subst e; exact ⟨rfl, rfl, rfl⟩))
theorem linkD_beq (a b : LinkD) : (a == b) = ((((a.frm : Nat) : Int) == ((b.frm : Nat) : Int)) && ((((a.til : Nat) : Int) == ((b.til : Nat) : Int)) && (a.text == b.text))) := by
  rw [Bool.eq_iff_iff]
  simp only [beq_iff_eq, Bool.and_eq_true]
  constructor
  · rintro rfl; exact ⟨rfl, rfl, rfl⟩
  · rintro ⟨h1, h2, h3⟩
    obtain ⟨a1, a2, a3⟩ := a
    obtain ⟨b1, b2, b3⟩ := b
    simp only at h1 h2 h3
    obtain rfl : a1 = b1 := by omega
    obtain rfl : a2 = b2 := by omega
    subst h3
    rfl
theorem neq_link (W : World) (a b : LinkD) : (binOp .neq 54 (.agg #[.int .i64 (a.frm : Nat), .int .i64 (a.til : Nat), str a.text]) (.agg #[.int .i64 (b.frm : Nat), .int .i64 (b.til : Nat), str b.text])).run Tryd.prog W = .ok (.bool (!(a == b))) W := by
  rw [linkD_beq, run_neq_struct, run_equalIn_agg _ _ _ _ _ (by kernel_rfl) (by kernel_rfl)]
  have hs : (Op.equalIn 9999 9 (str a.text) (str b.text)).run Tryd.prog W = .ok (a.text == b.text) W := by
    rw [str_eq, str_eq, run_equalIn_string W 9998 9 _ _ Tryd.underlying9]
    simp
  by_cases h1 : ((a.frm : Nat) : Int) = (b.frm : Nat)
  · by_cases h2 : ((a.til : Nat) : Int) = (b.til : Nat)
    · by_cases h3 : a.text = b.text
      · rw [h3] at hs
        go_simp
      · go_simp
    · go_simp
  · go_simp
def EqLRel (n : Nat) (ls ls' : List LinkD) (w : World) (iv : Value) (wr : World) : Prop :=
  ∃ i q : Nat, iv = .int .i64 (i : Nat) ∧ i ≤ n ∧ wr = w.drewN q ∧ Hid (ls.take i = ls'.take i)
set_option maxRecDepth 100000 in
set_option maxHeartbeats 1000000 in
theorem Equal_links (A A' : Option Addr) (n c n' c' B B' : Nat) (ls ls' : List LinkD) (w : World) (h : Sl w B 3 A n (linkC ls)) (h' : Sl w B' 3 A' n' (linkC ls')) (hn : n ≤ 1000000) (hn' : n' ≤ 1000000) :
    Calls Tryd.prog 37 #[.slice A n c, .slice A' n' c'] w fun e w' => e = .returned (.bool (ls == ls')) ∧ ∃ q, w' = w.drewN q := by
  have hl : ls.length = n := by have := h.1; rw [linkC_len] at this; omega
  have hl' : ls'.length = n' := by have := h'.1; rw [linkC_len] at this; omega
  by_cases hnn : n = n'
  · subst hnn
    have hne : ((n : Int) != (n : Int)) = false := by simp
    obtain ⟨R, hR⟩ : ∃ R, R = (ls == ls') := ⟨_, rfl⟩
    rw [← hR]
    have HR := Lib.hid hR
    have Hl := Lib.hid hl
    have Hl' := Lib.hid hl'
    clear hR hl hl'
    go_enter Tryd.func37, Tryd.ntmps37
    go_wp2_with fail
    go_loopw [13] (fun iv wr => EqLRel n ls ls' w iv wr) (fun iv _ => n - (intOf iv).toNat)
    case atStart => exact ⟨0, 0, rfl, Nat.zero_le _, rfl, rfl⟩
    case round =>
      obtain ⟨i, q, rfl, hi, rfl, hz⟩ := hrel
      by_cases hin : i < n
      · obtain ⟨b, off, x, rfl, _, hdx, x0, x1, x2⟩ := h.link i hin
        obtain ⟨b', off', x', rfl, _, hdx', x0', x1', x2'⟩ := h'.link i hin
        have hneq := fun W => neq_link W x x'
        have hget : ls.take (i + 1) = ls.take i ++ [x] ∧ ls'.take (i + 1) = ls'.take i ++ [x'] := by
          have e1 : ls[i]? = some x := by have := congrArg (fun l => l[0]?) hdx; simpa using this
          have e2 : ls'[i]? = some x' := by have := congrArg (fun l => l[0]?) hdx'; simpa using this
          rw [List.take_add_one, List.take_add_one, e1, e2]
          exact ⟨rfl, rfl⟩
        have Hget := Lib.hid hget
        clear hdx hdx' hget
        by_cases hxx : x = x'
        · have e : (x == x') = true := by simpa using hxx
          have Hxx := Lib.hid hxx
          rw [e] at hneq
          clear hxx e
          go_wp2_with fail
          go_quiet (fail)
          go_wp2_with fail
          refine ⟨⟨i + 1, _, by go_num, by omega, rfl, ?_⟩, by simp [intOf]; omega⟩
          show _ = _
          rw [Hget.out.1, Hget.out.2, hz.out, Hxx.out]
        · have e : (x == x') = false := by simpa using hxx
          have Hxx := Lib.hid hxx
          rw [e] at hneq
          clear hxx e
          go_wp2_with fail
          go_quiet (fail)
          go_wp2_with fail
          go_ret
          have hRf : R = false := by
            rw [HR.out, beq_eq_false_iff_ne]
            rintro rfl
            have := Hget.out.1.symm.trans Hget.out.2
            rw [List.append_cancel_left_eq] at this
            injection this with this
            exact Hxx.out this
          exact ⟨by rw [hRf]; rfl, _, World.drewN_drewN _ _ _⟩
      · obtain rfl : i = n := by omega
        have hRt : R = true := by
          rw [HR.out, beq_iff_eq]
          have := hz.out
          rw [List.take_of_length_le (by have := Hl.out; omega), List.take_of_length_le (by have := Hl'.out; omega)] at this
          exact this
        have HRt := Lib.hid hRt
        clear hRt
        go_wp2_with fail
        go_ret
        exact ⟨by rw [HRt.out]; rfl, _, rfl⟩
  · have hne : ((n : Int) != (n' : Int)) = true := by simp; omega
    have hR : (ls == ls') = false := by
      rw [beq_eq_false_iff_ne]; rintro rfl; exact hnn (hl.symm.trans hl')
    rw [hR]
    clear hR hnn hl hl'
    go_enter Tryd.func37, Tryd.ntmps37
    go_wp2_with fail
    go_ret
    exact ⟨rfl, 0, rfl⟩
set_option maxRecDepth 100000 in
set_option maxHeartbeats 1000000 in
theorem Index_byte (x : UInt8) (A : Option Addr) (n c B : Nat) (l : List UInt8) (w : World) (hb : By w B A n l) (hm : n ≤ maxLen) :
    Calls Tryd.prog 75 #[.slice A n c, .int .u8 (x.toNat : Int)] w fun e w' => (∃ i : Int, e = .returned (.int .i64 i) ∧ decide (0 ≤ i) = l.any (fun b => b == x)) ∧ w' = w := by
  have hl := hb.len
  obtain ⟨r, hr⟩ : ∃ r, r = l.any (fun b => b == x) := ⟨_, rfl⟩
  rw [← hr]
  have hx := x.toNat_lt
  obtain ⟨q, hq⟩ : ∃ q, q = x.toNat := ⟨_, rfl⟩
  rw [← hq] at hx ⊢
  have h1 : ∀ k, k < l.length → nth l k = q → r = true := by
    intro k hk h
    rw [hr, List.any_eq_true]
    refine ⟨l[k], List.getElem_mem hk, ?_⟩
    rw [beq_iff_eq]
    rw [nth_of l k hk, hq] at h
    exact UInt8.toNat_inj.1 h
  have h2 : (∀ k, k < l.length → nth l k ≠ q) → r = false := by
    intro h
    rw [hr, List.any_eq_false]
    intro y hy
    obtain ⟨j, hj, rfl⟩ := List.getElem_of_mem hy
    rw [beq_iff_eq]
    rintro rfl
    exact h j hj (by rw [nth_of l j hj, hq])
  have H1 := Lib.hid h1
  have H2 := Lib.hid h2
  have Hl := Lib.hid hl
  clear h1 h2 hr hl hq
  unfold maxLen at hm
  go_enter Tryd.func75, Tryd.ntmps75
  go_wp2_with fail
  go_loopw [8] (fun iv wr => ∃ k : Nat, k ≤ n ∧ iv = .int .i64 k ∧ wr = w ∧ Hid (∀ j, j < k → nth l j ≠ q)) (fun iv _ => n - (intOf iv).toNat)
  case atStart => exact ⟨0, by omega, rfl, rfl, fun j hj => absurd hj (by omega)⟩
  case round =>
    obtain ⟨k, hk, rfl, rfl, hz⟩ := hrel
    by_cases hkn : k < n
    · obtain ⟨b, off, rfl, _, hcell⟩ := hb.at_ hkn
      have d : ((q : Int) == ((nth l k : Nat) : Int)) = (q == nth l k) := by
        rw [Bool.eq_iff_iff, beq_iff_eq, beq_iff_eq]; omega
      by_cases he : q = nth l k
      · have e : (q == nth l k) = true := by simpa using he
        rw [e] at d
        have Hr := Lib.hid (H1.out k (by rw [Hl.out]; exact hkn) he.symm)
        clear he e
        go_wp2_with fail
        go_ret
        exact ⟨⟨k, rfl, by rw [Hr.out]; simp⟩, rfl⟩
      · have e : (q == nth l k) = false := by simpa using he
        rw [e] at d
        have He := Lib.hid he
        clear he e
        go_wp2_with fail
        refine ⟨⟨k + 1, by omega, by go_num, trivial, fun j hj => ?_⟩, by simp [intOf]; omega⟩
        rcases Nat.lt_or_ge j k with h | h
        · exact hz.out j h
        · rw [show j = k from by omega]; exact fun h => He.out h.symm
    · have Hr := Lib.hid (H2.out fun k hk => hz.out k (by rw [Hl.out] at hk; omega))
      go_wp2_with fail
      go_ret
      exact ⟨⟨-1, rfl, by rw [Hr.out]; rfl⟩, rfl⟩
set_option maxHeartbeats 400000 in
theorem Contains_byte (x : UInt8) (A : Option Addr) (n c B : Nat) (l : List UInt8) (w : World) (hb : By w B A n l) (hm : n ≤ maxLen) :
    Calls Tryd.prog 35 #[.slice A n c, .int .u8 (x.toNat : Int)] w fun e w' => e = .returned (.bool (l.any (fun b => b == x))) ∧ w' = w := by
  have h := Index_byte x A n c B l w hb hm
  generalize l.any (fun b => b == x) = r at h ⊢
  have H := Lib.hid h
  clear h hb
  go_enter Tryd.func35, Tryd.ntmps35
  go_wp2_with fail
  refine H.out.mono ?_
  rintro e w1 ⟨⟨i, rfl, hi⟩, rfl⟩
  have Hi := Lib.hid hi
  clear hi
  go_wp2_with fail
  all_goals
    go_ret
    exact ⟨by rw [← Hi.out]; rfl, rfl⟩
end Go.Proofs.YtoolfhjlhhcbgaaDoor

import Derived.Test.YtlbdnohnngkapaaGreatDoorU1
import Derived.Test.YtlbdnohnngkapaaGreatDoorU18
import Derived.Test.YtlbdnohnngkapaaGreatDoorU2
import Derived.Test.YtlbdnohnngkapaaGreatDoorU14
namespace Go.Proofs.YtlbdnohnngkapaaGreatDoor

/-! ### How many, how deep: the document's way -/
mutual
/-- sized, where so deep may still be gone. -/
def sizedD : Nat → PartD → Nat × Nat
  | 0, _ => (0, 99)
  | k + 1, ⟨_, _, _, _, _, _, parts⟩ => sizedsD k 1 0 parts
/-- Its loop. -/
def sizedsD (k : Nat) : Nat → Nat → List PartD → Nat × Nat
  | many, deep, [] => (many, deep + 1)
  | many, deep, p :: ps => if 100 < many + (sizedD k p).1 ∨ 50 < max deep (sizedD k p).2 then (100, 99) else sizedsD k (many + (sizedD k p).1) (max deep (sizedD k p).2) ps
end
def overD (k : Nat) (r : Nat × Nat) : Prop := 12 < r.1 ∨ k < r.2
theorem sizedsD_over (k : Nat) (hk : k ≤ 50) : ∀ (ps : List PartD) (many deep : Nat), (12 < many ∨ k < deep) → overD (k + 1) (sizedsD k many deep ps) := by
  intro ps
  induction ps with
  | nil =>
    intro many deep h
    rw [sizedsD]
    rcases h with h | h
    · exact .inl h
    · exact .inr (Nat.succ_lt_succ h)
  | cons p ps ih =>
    intro many deep h
    rw [sizedsD]
    split
    · exact .inl (by show 12 < 100; omega)
    · exact ih _ _ (by omega)
/-- What the two say of each other. -/
def LawSz (k : Nat) (p : PartD) : Prop := (cntD k p = none → overD k (sizedD k p)) ∧ ∀ c, cntD k p = some c → ∃ d, sizedD k p = (c, d) ∧ d ≤ k
theorem sizeds_law (k : Nat) (hk : k ≤ 50) (ihp : ∀ p, LawSz k p) : ∀ (ps : List PartD) (n deep : Nat), n ≤ 12 → deep ≤ k →
    (cntsD k n ps = none → overD (k + 1) (sizedsD k n deep ps)) ∧ ∀ c, cntsD k n ps = some c → ∃ d, sizedsD k n deep ps = (c, d) ∧ d ≤ k + 1 := by
  intro ps
  induction ps with
  | nil =>
    intro n deep hn hd
    rw [cntsD, sizedsD]
    refine ⟨fun h => (by cases h), fun c h => ?_⟩
    injection h with h
    subst h
    exact ⟨_, rfl, by omega⟩
  | cons p ps ih =>
    intro n deep hn hd
    obtain ⟨l1, l2⟩ := ihp p
    rw [cntsD_cons, sizedsD]
    cases hc : cntD k p with
    | none =>
      have ho := l1 hc
      unfold overD at ho
      refine ⟨fun _ => ?_, fun c h => (by cases h)⟩
      split
      · exact .inl (by show 12 < 100; omega)
      · exact sizedsD_over k hk _ _ _ (by omega)
    | some c =>
      obtain ⟨d, hs, hdk⟩ := l2 c hc
      rw [hs]
      have hc12 := (cntD_le k p c hc).2
      show (cntNext k n ps (some c) = none → _) ∧ ∀ c', cntNext k n ps (some c) = some c' → _
      unfold cntNext
      have hmax : max deep d ≤ k := Nat.max_le.2 ⟨hd, hdk⟩
      rw [if_neg (by simp only; omega)]
      simp only
      by_cases h12 : 12 < n + c
      · rw [if_pos h12]
        exact ⟨fun _ => sizedsD_over k hk _ _ _ (.inl h12), fun c' h => (by cases h)⟩
      · rw [if_neg h12]
        exact ih (n + c) (max deep d) (by omega) hmax
theorem sized_law : ∀ (k : Nat), k ≤ 50 → ∀ p, LawSz k p := by
  intro k
  induction k with
  | zero =>
    intro _ p
    refine ⟨fun _ => ?_, fun c h => ?_⟩
    · rw [sizedD]; exact .inr (by show 0 < 99; omega)
    · rw [cntD] at h; cases h
  | succ k ih =>
    intro hk p
    obtain ⟨t, cs, id, loc, how, body, parts⟩ := p
    unfold LawSz
    rw [cntD, sizedD]
    exact sizeds_law k (by omega) (ih (by omega)) parts 1 0 (by omega) (by omega)
theorem sizedD_succ (k : Nat) (p : PartD) : sizedD (k + 1) p = sizedsD k 1 0 p.parts := by cases p; rw [sizedD]
theorem checkD_sized (p : PartD) : checkD p = if 12 < (sizedD 3 p).1 ∨ 3 < (sizedD 3 p).2 then 2 else firstErr (flatD p) := by
  obtain ⟨l1, l2⟩ := sized_law 3 (by omega) p
  cases hc : cntD 3 p with
  | none => have h := l1 hc; unfold overD at h; rw [checkD_none p hc, if_pos h]
  | some c =>
    obtain ⟨d, hs, hd⟩ := l2 c hc
    have := (cntD_le 3 p c hc).2
    rw [checkD_some p c hc, hs, if_neg (by simp only; omega)]
/-- It stays small. -/
theorem sizedsD_small (k : Nat) : ∀ (ps : List PartD) (many deep : Nat), many ≤ 100 → deep ≤ 50 → (sizedsD k many deep ps).1 ≤ 100 ∧ (sizedsD k many deep ps).2 ≤ 99 := by
  intro ps
  induction ps with
  | nil => intro many deep h1 h2; rw [sizedsD]; exact ⟨h1, by show deep + 1 ≤ 99; omega⟩
  | cons p ps ih =>
    intro many deep h1 h2
    rw [sizedsD]
    split
    · exact ⟨by show 100 ≤ 100; omega, by show 99 ≤ 99; omega⟩
    · exact ih _ _ (by omega) (by omega)
theorem sizedD_small (k : Nat) (p : PartD) : (sizedD k p).1 ≤ 100 ∧ (sizedD k p).2 ≤ 99 := by
  cases k with
  | zero => rw [sizedD]; exact ⟨by show 0 ≤ 100; omega, by show 99 ≤ 99; omega⟩
  | succ k => rw [sizedD_succ]; exact sizedsD_small k _ 1 0 (by omega) (by omega)
end Go.Proofs.YtlbdnohnngkapaaGreatDoor

namespace Go.Proofs.YtlbdnohnngkapaaGreatDoor
open Go.RowKit

def szVal (r : Nat × Nat) : Value := .tuple #[.int .i64 (r.1 : Nat), .int .i64 (r.2 : Nat)]
def SzRel (k n2 : Nat) (ps : List PartD) (R : Nat × Nat) (w0 : World) (mv dv iv : Value) (wr : World) : Prop :=
  ∃ i m d : Nat, mv = .int .i64 (m : Nat) ∧ dv = .int .i64 (d : Nat) ∧ iv = .int .i64 (i : Nat) ∧ i ≤ n2 ∧ m ≤ 100 ∧ d ≤ 50 ∧ Hid (sizedsD k m d (ps.drop i) = R) ∧ Below w0.heap.size w0 wr
theorem sizedsD_cons (k m d : Nat) (p : PartD) (ps : List PartD) : sizedsD k m d (p :: ps) = if 100 < m + (sizedD k p).1 ∨ 50 < max d (sizedD k p).2 then (100, 99) else sizedsD k (m + (sizedD k p).1) (max d (sizedD k p).2) ps := by rw [sizedsD]
set_option maxRecDepth 100000 in
set_option maxHeartbeats 2000000 in
theorem sized_any (k : Nat) : ∀ (p : PartD) (v : List Value) (w : World), k ≤ 3 → PartAt (· < w.heap.size) w p v →
    Calls Tryz.prog 83 #[.agg v.toArray, .int .i64 (k : Nat)] w fun e w' => e = .returned (szVal (sizedD k p)) ∧ Below w.heap.size w w' := by
  induction k with
  | zero =>
    intro p v w hk hp
    obtain ⟨t, cs, id, loc, how, body, parts⟩ := p
    obtain ⟨A, n, c, A2, n2, c2, rows, rfl, _⟩ := hp
    have e : sizedD 0 ⟨t, cs, id, loc, how, body, parts⟩ = (0, 99) := by rw [sizedD]
    rw [e]
    clear e
    go_enter Tryz.func83, Tryz.ntmps83
    go_wp2_with fail
    go_ret2
    exact ⟨rfl, (Below.refl _ _).alloc (Nat.le_refl _) _⟩
  | succ k ih =>
    intro p v w hk hp
    obtain ⟨t, cs, id, loc, how, body, parts⟩ := p
    obtain ⟨A, n, c, A2, n2, c2, rows, rfl, _, _, _, _, hsl, hnc, hcm, hps⟩ := hp
    have hP : SlP (· < w.heap.size) w A2 n2 parts := ⟨rows, hsl, hps⟩
    have e : sizedD (k + 1) ⟨t, cs, id, loc, how, body, parts⟩ = sizedsD k 1 0 parts := by rw [sizedD]
    rw [e]
    obtain ⟨R, hR⟩ : ∃ R, sizedsD k 1 0 parts = R := ⟨_, rfl⟩
    rw [hR]
    have HR := Lib.hid hR
    have Hih := Lib.hid ih
    have hk1 : (((k + 1 : Nat) : Int) == 0) = false := by simp; omega
    have hk2 : IntKind.i64.wrap (((k + 1 : Nat) : Int) - 1) = (k : Int) := by rw [IntKind.wrap_i64]; omega
    have hn2 : n2 ≤ 9223372036854775807 := by unfold maxLen at hcm; omega
    obtain ⟨k1, hk3⟩ : ∃ k1 : Int, k1 = ((k + 1 : Nat) : Int) := ⟨_, rfl⟩
    rw [← hk3] at hk1 hk2 ⊢
    clear hsl hps e hR ih hcm hk3
    go_enter Tryz.func83, Tryz.ntmps83
    go_wp2_with fail
    go_loopw [4, 5, 15] (SzRel k n2 parts R w) (fun _ _ iv _ => n2 - (intOf iv).toNat)
    case atStart => exact ⟨0, 1, 0, rfl, rfl, rfl, by omega, by omega, by omega, HR.out, (Below.refl _ w).alloc (Nat.le_refl _) _⟩
    case round =>
      clear HR
      obtain ⟨i, m, d, rfl, rfl, rfl, hi, hm, hd, hE, hbel⟩ := hrel
      by_cases hin : i < n2
      · have hPr := hP.below hbel
        obtain ⟨b, off, q, A', n', c', A2', n2', c2', rfl, hbS, hq, hqa, x0, x1, x2, x3, x4, x5, x6⟩ := hPr.cells7 hin
        have hE2 : Hid (sizedsD k m d (q :: parts.drop (i + 1)) = R) := by show _ = R; rw [← hE.out, hq]
        clear hq hPr hP hE
        go_wp2_with fail
        have hqa2 := (hqa.below ((Below.refl w.heap.size wr).alloc hbel.size (.cells #[str q.type, str q.cs, str q.id, str q.loc, .int .i64 q.how, .slice A' n' c', .slice A2' n2' c2'] 25))).more (C := (wr.alloc (.cells #[str q.type, str q.cs, str q.id, str q.loc, .int .i64 q.how, .slice A' n' c', .slice A2' n2' c2'] 25)).heap.size) (by have := hbel.size; simp; omega)
        have hb0 := hbel.alloc hbel.size (.cells #[str q.type, str q.cs, str q.id, str q.loc, .int .i64 q.how, .slice A' n' c', .slice A2' n2' c2'] 25)
        have hsm := sizedD_small k q
        have hcl := Hih.out q _ _ (by omega) hqa2
        have hE3 : Hid (R = if 100 < m + (sizedD k q).1 ∨ 50 < max d (sizedD k q).2 then (100, 99) else sizedsD k (m + (sizedD k q).1) (max d (sizedD k q).2) (parts.drop (i + 1))) := by show R = _; rw [← hE2.out, sizedsD_cons]
        generalize sizedD k q = o at hcl hsm hE3
        obtain ⟨om, od⟩ := o
        simp only [szVal] at hcl hsm hE3
        clear x0 x1 x2 x3 x4 x5 x6 hqa hqa2 hE2
        have hmax : max (d : Int) (od : Int) = ((max d od : Nat) : Int) := by omega
        obtain ⟨d2, hd2⟩ : ∃ d2, d2 = max d od := ⟨_, rfl⟩
        rw [← hd2] at hmax hE3
        have hd99 : d2 ≤ 99 := by omega
        have Hd2 := Lib.hid hd2
        clear hd2
        by_cases h1 : 100 < m + om
        · obtain rfl : R = (100, 99) := by rw [hE3.out, if_pos (.inl h1)]
          have d1 : decide ((100 : Int) < (m : Int) + om) = true := by simp; omega
          refine hcl.mono ?_
          clear hcl hE3
          rintro e w1 ⟨rfl, hb1⟩
          have hbel1 := hb0.trans (hb1.mono hb0.size)
          go_wp2_with fail
          go_ret2
          exact ⟨rfl, hbel1⟩
        · have d1 : decide ((100 : Int) < (m : Int) + om) = false := by simp; omega
          by_cases h2 : 50 < d2
          · obtain rfl : R = (100, 99) := by rw [hE3.out, if_pos (.inr h2)]
            have d3 : decide ((50 : Int) < (d2 : Int)) = true := by simp; omega
            refine hcl.mono ?_
            clear hcl hE3
            rintro e w1 ⟨rfl, hb1⟩
            have hbel1 := hb0.trans (hb1.mono hb0.size)
            go_wp2_with fail
            go_ret2
            exact ⟨rfl, hbel1⟩
          · have d3 : decide ((50 : Int) < (d2 : Int)) = false := by simp; omega
            have hE4 : Hid (sizedsD k (m + om) d2 (parts.drop (i + 1)) = R) := by show _ = R; rw [hE3.out, if_neg (by omega)]
            refine hcl.mono ?_
            clear hcl hE3
            rintro e w1 ⟨rfl, hb1⟩
            have hbel1 := hb0.trans (hb1.mono hb0.size)
            go_wp2_with fail
            exact ⟨⟨i + 1, m + om, d2, by go_num, by rfl, by go_num, by omega, by omega, by omega, hE4, hbel1⟩, by simp [intOf]; omega⟩
      · have hR : (m, d + 1) = R := by rw [← hE.out, List.drop_of_length_le (by rw [hP.len]; omega), sizedsD]
        subst hR
        clear hE
        go_wp2_with fail
        go_ret2
        exact ⟨rfl, hbel⟩
end Go.Proofs.YtlbdnohnngkapaaGreatDoor

namespace Go.Proofs.YtlbdnohnngkapaaGreatDoor
open Go.RowKit

def DocRel (L : List PartD) (R : Nat) (w1 : World) (iv : Value) (wr : World) : Prop :=
  ∃ i : Nat, iv = .int .i64 (i : Nat) ∧ i ≤ L.length ∧ Hid (firstErr (L.drop i) = R) ∧ Below w1.heap.size w1 wr
/-- What stands behind one part's test. -/
def thenErr (e f : Nat) : Nat := if e = 0 then f else e
theorem thenErr_bad {e f : Nat} (h : e ≠ 0) : thenErr e f = e := if_neg h
theorem thenErr_ok (f : Nat) : thenErr 0 f = f := if_pos rfl
theorem firstErr_cons (q : PartD) (L : List PartD) : firstErr (q :: L) = thenErr (chkD q) (firstErr L) := rfl
set_option maxRecDepth 100000 in
set_option maxHeartbeats 4000000 in
theorem CheckPart_any (p : PartD) (v : List Value) (w : World) (hp : PartAt (· < w.heap.size) w p v) (hT : U8Ok w) :
    Calls Tryz.prog 24 #[.agg v.toArray] w fun e w' => e = .returned (.int .i64 (checkD p : Nat)) ∧ Below w.heap.size w w' := by
  have hck := checkD_sized p
  have hsl := sized_law 3 (by omega) p
  have hfl := cntD_flat 3 p
  have hcle := cntD_le 3 p
  have hsm := sizedD_small 3 p
  obtain ⟨A, c, A2, c2, rfl, _⟩ := hp.open
  obtain ⟨W, hW⟩ : ∃ W, W = w.alloc (.cells #[str p.type, str p.cs, str p.id, str p.loc, .int .i64 p.how, .slice A p.body.length c, .slice A2 p.parts.length c2] 25) := ⟨_, rfl⟩
  have hbW : Below w.heap.size w W := by rw [hW]; exact (Below.refl _ w).alloc (Nat.le_refl _) _
  have hbx : Box7 W w.heap.size (str p.type) (str p.cs) (str p.id) (str p.loc) (.int .i64 p.how) (.slice A p.body.length c) (.slice A2 p.parts.length c2) := by rw [hW]; exact Box7.new w _ _ _ _ _ _ _ _
  have hpW := hp.below hbW
  have hct := sized_any 3 p _ W (by omega) (hpW.more hbW.size)
  obtain ⟨n2, hn2⟩ : ∃ n2, n2 = p.parts.length := ⟨_, rfl⟩
  obtain ⟨n1, hn1⟩ : ∃ n1, n1 = p.body.length := ⟨_, rfl⟩
  have Hp := Lib.hid hp
  have HT := Lib.hid hT
  have ⟨x0, x1, x2, x3, x4, x5, x6⟩ := hbx
  obtain ⟨l1, l2⟩ := hsl
  generalize checkD p = R at hck ⊢
  rcases hsz : sizedD 3 p with ⟨many, deep⟩
  rw [hsz] at hct hck l1 l2 hsm
  simp only [szVal] at hct
  simp only at hck hsm
  by_cases hov : 12 < many ∨ 3 < deep
  · obtain rfl : R = 2 := by rw [hck, if_pos hov]
    have Hct := Lib.hid hct
    clear hct hck l1 l2 hfl hcle hpW hp hn1 hn2 hsz hT
    by_cases hm : 12 < many
    · have d1 : decide ((12 : Int) < (many : Int)) = true := by simp; omega
      clear hov
      go_enter Tryz.func24, Tryz.ntmps24
      go_wp2_with fail
      rw [← hW]
      clear hW
      refine Hct.out.mono ?_
      rintro e w1 ⟨rfl, hb1⟩
      clear x0 x1 x2 x3 x4 x5 x6
      go_wp2_with fail
      go_ret
      exact ⟨rfl, hbW.trans (hb1.mono hbW.size)⟩
    · have d1 : decide ((12 : Int) < (many : Int)) = false := by simp; omega
      have d2 : decide ((3 : Int) < (deep : Int)) = true := by simp; omega
      clear hov
      go_enter Tryz.func24, Tryz.ntmps24
      go_wp2_with fail
      rw [← hW]
      clear hW
      refine Hct.out.mono ?_
      rintro e w1 ⟨rfl, hb1⟩
      clear x0 x1 x2 x3 x4 x5 x6
      go_wp2_with fail
      go_ret
      exact ⟨rfl, hbW.trans (hb1.mono hbW.size)⟩
  · have d1 : decide ((12 : Int) < (many : Int)) = false := by simp; omega
    have d2 : decide ((3 : Int) < (deep : Int)) = false := by simp; omega
    have hR : R = firstErr (flatD p) := by rw [hck, if_neg hov]
    have hlen : (flatD p).length ≤ 12 := by
      cases hc : cntD 3 p with
      | none => have := l1 hc; unfold overD at this; simp only at this; omega
      | some c0 => have h1 := hfl c0 hc; have h2 := hcle c0 hc; omega
    obtain ⟨L, hL⟩ : ∃ L, L = flatD p := ⟨_, rfl⟩
    rw [← hL] at hR hlen
    have HR := Lib.hid hR
    have HL := Lib.hid hL
    have Hct := Lib.hid hct
    clear hct hck l1 l2 hfl hcle hpW hp hn1 hn2 hsz hov hR hL hT
    go_enter Tryz.func24, Tryz.ntmps24
    go_wp2_with fail
    rw [← hW]
    clear hW
    refine Hct.out.mono ?_
    clear Hct
    rintro e w1 ⟨rfl, hb1⟩
    have hbx1 := hbx.below hb1
    have hbel1 := hbW.trans (hb1.mono hbW.size)
    have hp1 := Hp.out.below hbel1
    have hal := Flat_any 12 p _ w.heap.size w1 (by rw [← HL.out]; exact hlen) (by omega) hbel1.size hp1
    rw [← HL.out] at hal
    have Hal := Lib.hid hal
    clear x0 x1 x2 x3 x4 x5 x6
    have ⟨x0, x1, x2, x3, x4, x5, x6⟩ := hbx1
    clear hbx hbx1 hp1 hal hb1 hbW
    go_wp2_with fail
    refine Hal.out.mono ?_
    clear Hal x0 x1 x2 x3 x4 x5 x6
    rintro e w2 ⟨S, c3, rows, rfl, hown, hrows, hb2⟩
    have hbel2 := hbel1.trans (hb2.mono hbel1.size)
    have hP := AllRes.slp hown hrows hbel2.size
    clear hown hrows
    go_wp2_with fail
    go_loopw [22] (DocRel L R w2) (fun iv _ => L.length - (intOf iv).toNat)
    case atStart => exact ⟨0, rfl, Nat.zero_le _, HR.out.symm, Below.refl _ _⟩
    case round =>
      obtain ⟨i, rfl, hi, hE, hbel⟩ := hrel
      by_cases hin : i < L.length
      · have hPr := hP.below hbel
        obtain ⟨b, off, q, A', n', c', A2', n2', c2', rfl, hbS, hq, hqa, x0, x1, x2, x3, x4, x5, x6⟩ := hPr.cells7 hin
        obtain ⟨A9, c9, A8, c8, hv, ⟨b1, b2, b3, b4, b5, b6⟩, _, b7, b8, _, b9, b10⟩ := hqa.open
        simp only [List.cons.injEq, Value.slice.injEq, and_true, true_and] at hv
        obtain ⟨⟨rfl, rfl, rfl⟩, rfl, rfl, rfl⟩ := hv
        have hE2 : Hid (R = thenErr (chkD q) (firstErr (L.drop (i + 1)))) := by show R = _; rw [← hE.out, hq, firstErr_cons]
        unfold chkD at hE2
        have h1 := fun W => IsMany_any q.type W b1
        have h2 := fun W h => IsType_any q.type W b1 h
        have h3 := fun W => IsToken_any q.cs W b2
        have h4 := fun W => IsWord_any q.id W b3
        have h5 := fun W => IsWord_any q.loc W b4
        generalize typB q.type = ty at h2 hE2
        generalize tokB q.cs = tk at h3 hE2
        generalize wordB q.id = wi at h4 hE2
        generalize wordB q.loc = wl at h5 hE2
        generalize manyB q.type = m at h1 hE2
        generalize hce : (q.cs == ([] : List UInt8)) = ce at hE2
        have HCE := Lib.hid hce
        have H1 := Lib.hid h1
        have H2 := Lib.hid h2
        have H3 := Lib.hid h3
        have H4 := Lib.hid h4
        have H5 := Lib.hid h5
        have hn4 : q.body.length ≤ 9223372036854775807 := by unfold maxLen at b8; omega
        have hn5 : q.parts.length ≤ 9223372036854775807 := by unfold maxLen at b10; omega
        generalize q.body.length = n at *
        generalize q.parts.length = n2 at *
        have hbA := hbel.alloc hbel.size (.cells #[str q.type, str q.cs, str q.id, str q.loc, .int .i64 q.how, .slice A' n c', .slice A2' n2 c2'] 25)
        have hTA : U8Ok (wr.alloc (.cells #[str q.type, str q.cs, str q.id, str q.loc, .int .i64 q.how, .slice A' n c', .slice A2' n2 c2'] 25)) := HT.out.below (hbel2.trans (hbA.mono hbel2.size))
        have hbx := Box7.new wr 25 (str q.type) (str q.cs) (str q.id) (str q.loc) (.int .i64 q.how) (.slice A' n c') (.slice A2' n2 c2')
        clear hq hqa hPr hE h1 h2 h3 h4 h5 hce b7 b8 b9 b10 hbel
        go_wp2_with fail
        refine (H1.out _).mono ?_
        rintro e w3 ⟨rfl, rfl⟩
        clear x0 x1 x2 x3 x4 x5 x6
        have ⟨x0, x1, x2, x3, x4, x5, x6⟩ := hbx
        go_wp2_with fail
        refine (H2.out _ hTA).mono ?_
        rintro e w4 ⟨rfl, hb4⟩
        have hbel4 := hbA.trans (hb4.mono hbA.size)
        have hbx4 := hbx.below hb4
        clear hbx hbA hb4 x0 x1 x2 x3 x4 x5 x6 H1 H2
        have ⟨x0, x1, x2, x3, x4, x5, x6⟩ := hbx4
        have E := hE2
        clear hE2
        have hbelX := hbel2.trans (hbel4.mono hbel2.size)
        cases ty
        · have E1 : Hid (R = 1) := by show R = 1; rw [E.out]; simp [chkB, thenErr]
          clear E
          go_wp2_with fail
          go_ret
          exact ⟨ret_nat E1.out.symm, hbelX⟩
        · cases ce
          case' true =>
            have hce := HCE.out
            go_wp2_with fail
            clear hce
          case' false =>
            have hce := HCE.out
            go_wp2_with fail
            refine (H3.out _).mono ?_
            rintro e w5 ⟨rfl, rfl⟩
            cases tk
            · have E1 : Hid (R = 1) := by show R = 1; rw [E.out]; simp [chkB, thenErr]
              clear E
              go_wp2_with fail
              go_ret
              exact ⟨ret_nat E1.out.symm, hbelX⟩
            go_wp2_with fail
            clear hce
          all_goals
            refine (H4.out _).mono ?_
            rintro e w6 ⟨rfl, rfl⟩
            cases wi
            · have E1 : Hid (R = 1) := by show R = 1; rw [E.out]; simp [chkB, thenErr]
              clear E
              go_wp2_with fail
              go_ret
              exact ⟨ret_nat E1.out.symm, hbelX⟩
            · go_wp2_with fail
              refine (H5.out _).mono ?_
              rintro e w7 ⟨rfl, rfl⟩
              cases wl
              · have E1 : Hid (R = 1) := by show R = 1; rw [E.out]; simp [chkB, thenErr]
                clear E
                go_wp2_with fail
                go_ret
                exact ⟨ret_nat E1.out.symm, hbelX⟩
              · by_cases hh0 : q.how < 0
                · have d0 : decide (q.how < 0) = true := by simpa using hh0
                  have E1 : Hid (R = 3) := by show R = 3; rw [E.out]; simp [chkB, thenErr, hh0]
                  clear E
                  go_wp2_with fail
                  go_ret
                  exact ⟨ret_nat E1.out.symm, hbelX⟩
                · have d0 : decide (q.how < 0) = false := by simpa using hh0
                  by_cases hh2 : 2 < q.how
                  · have d2 : decide (2 < q.how) = true := by simpa using hh2
                    have E1 : Hid (R = 3) := by show R = 3; rw [E.out]; simp [chkB, thenErr, hh0, hh2]
                    clear E
                    go_wp2_with fail
                    go_ret
                    exact ⟨ret_nat E1.out.symm, hbelX⟩
                  · have d2 : decide (2 < q.how) = false := by simpa using hh2
                    by_cases hn4' : 4000 < n
                    · have E1 : Hid (R = 2) := by show R = 2; rw [E.out]; simp [chkB, thenErr, hh0, hh2, hn4']
                      clear E
                      go_wp2_with fail
                      go_ret
                      exact ⟨ret_nat E1.out.symm, hbelX⟩
                    · have hce := HCE.out
                      have E2 := E.out
                      have hhow : ∃ hz, hz = q.how := ⟨_, rfl⟩
                      rcases (by omega : 0 < n2 ∨ n2 = 0) with hn0 | rfl <;> rcases (by omega : 0 < n ∨ n = 0) with hnn | rfl <;> rcases Decidable.em (q.how = 0) with hz | hz <;> cases m
                      all_goals
                        first
                        | have E1 : Hid (R = 4) := by show R = 4; rw [E2]; simp [chkB, thenErr, *]; done
                          have E0 : True := trivial
                        | have E1 : Hid (R = firstErr (L.drop (i + 1))) := by show R = _; rw [E2]; simp [chkB, thenErr, *]; done
                          have E9 : True := trivial
                        clear E E2
                        first
                        | have e0 : decide ((0 : Int) < n2) = true := by simp; omega
                          have e0b : ((n2 : Int) == 0) = false := by simp; omega
                        | have e0 : True := trivial
                        first
                        | have e1 : decide ((0 : Int) < n) = true := by simp; omega
                        | have e1 : True := trivial
                        first
                        | have e2 : (q.how != 0) = true := by simpa using hz
                        | have e2 : (q.how != 0) = false := by simpa using hz
                        go_wp2_with fail
                        first
                        | go_ret
                          exact ⟨ret_nat E1.out.symm, hbelX⟩
                        | exact ⟨⟨i + 1, by go_num, by omega, E1.out.symm, hbel4⟩, by simp [intOf]; omega⟩
      · obtain rfl : 0 = R := by rw [← hE.out, List.drop_of_length_le (by omega)]; rfl
        clear hE
        go_wp2_with fail
        go_ret
        exact ⟨rfl, hbel2.trans (hbel.mono hbel2.size)⟩
end Go.Proofs.YtlbdnohnngkapaaGreatDoor

namespace Go.Proofs.YtlbdnohnngkapaaGreatDoor
open Go.RowKit

/-! ### The law BundleSays -/
theorem goalsE_len (p : PartD) : (goalsE p).1.length ≤ 60 * (flatD p).length := by
  unfold goalsE
  split
  · unfold goalsD
    cases h : goalsF (flatD p) (whereD p) (flatD p) (whereD p) 0 [] with
    | none => simp
    | some g =>
      have := goalsF_len _ _ _ _ _ _ _ h
      simpa using this
  · simp
theorem goalsE_bad {p : PartD} (h : checkD p ≠ 0) : goalsE p = ([], checkD p) := by unfold goalsE; rw [if_neg h]
set_option maxRecDepth 100000 in
set_option maxHeartbeats 8000000 in
theorem bundleSays_walk (p : PartD) (v : List Value) (f t : List UInt8) (w : World) (hM : MaxLenOk w) (hU : U8Ok w) (hp : PartAt (· < w.heap.size) w p v) (hf : f.length ≤ maxLen) (ht : t.length ≤ maxLen) :
    Calls Tryz.prog 10 #[.agg v.toArray, str f, str t] w fun e w' => e = .returned (.bool true) ∧ Below w.heap.size w w' := by
  have KW := Lib.hid (fun X (h : Below w.heap.size w X) => Where_any p v X (hM.below h) ((hp.below h).more h.size))
  have KG := Lib.hid (fun X (h : Below w.heap.size w X) => Goals_any p v X (hM.below h) ((hp.below h).more h.size))
  have KC := Lib.hid (fun X (h : Below w.heap.size w X) => CheckPart_any p v X ((hp.below h).more h.size) (hU.below h))
  have KL := Lib.hid (fun X (h : Below w.heap.size w X) => led_any X (hM.below h))
  have KD := Lib.hid (fun X (h : Below w.heap.size w X) => Led_any f t X (hM.below h) hf ht)
  have KR := Lib.hid (fun X (h : Below w.heap.size w X) => RLed_any f t X (hM.below h) hf ht)
  have KRG := Lib.hid (fun X (h : Below w.heap.size w X) (h0 : checkD p = 0) => RGoals_any p v X (hM.below h) ((hp.below h).more h.size) h0)
  have KRW := Lib.hid (fun X (h : Below w.heap.size w X) (h0 : (flatD p).length ≤ 1000) => RWhere_any p v X (hM.below h) ((hp.below h).more h.size) h0)
  have hok := checkD_ok p
  have hwl := whereD_len p
  have hgl := goalsE_len p
  have hgb := fun h => goalsE_bad (p := p) h
  unfold WhereOut at KW
  unfold GoalsOut at KG KRG
  unfold LedRes at KD
  obtain ⟨A, c, A2, c2, rfl, _⟩ := hp.open
  obtain ⟨W, hW⟩ : ∃ W, W = w.alloc (.cells #[str p.type, str p.cs, str p.id, str p.loc, .int .i64 p.how, .slice A p.body.length c, .slice A2 p.parts.length c2] 25) := ⟨_, rfl⟩
  have hbW : Below w.heap.size w W := by rw [hW]; exact (Below.refl _ w).alloc (Nat.le_refl _) _
  have hbx : Box7 W w.heap.size (str p.type) (str p.cs) (str p.id) (str p.loc) (.int .i64 p.how) (.slice A p.body.length c) (.slice A2 p.parts.length c2) := by rw [hW]; exact Box7.new w _ _ _ _ _ _ _ _
  have Hbx := Lib.hid hbx
  obtain ⟨ld, hld⟩ : ∃ ld, ld = ledB f t := ⟨_, rfl⟩
  rw [← hld] at KD KR
  have dll : (ld == ld) = true := by simp
  generalize goalsE p = G at *
  generalize whereD p = L at *
  generalize checkD p = K at *
  obtain ⟨gs, ge⟩ := G
  simp only at KG KRG hgl hgb
  by_cases hK : K = 0
  · subst hK
    have h12 := (hok rfl).1
    obtain ⟨n, hn⟩ : ∃ n, n = (flatD p).length := ⟨_, rfl⟩
    obtain ⟨m, hm⟩ : ∃ m, m = gs.length := ⟨_, rfl⟩
    simp only [if_true] at KW
    rw [← hn] at KW KRW h12 hgl
    rw [← hm] at KG KRG hgl
    have hLL : (L == L) = true := by simp
    have hgg : (gs == gs) = true := by simp
    have Hll := Lib.hid hLL
    have Hgg := Lib.hid hgg
    have HKRG := Lib.hid (fun X h => KRG.out X h rfl)
    have HKRW := Lib.hid (fun X h => KRW.out X h (by omega))
    have dge : ((ge : Int) == (ge : Int)) = true := by simp
    clear hM hU hp hf ht hok hwl hgb hbx hld hn hm hLL hgg KRG KRW
    go_enter Tryz.func10, Tryz.ntmps10
    have ⟨x0, x1, x2, x3, x4, x5, x6⟩ := Hbx.out
    go_wp2_with fail
    rw [← hW]
    clear hW
    refine (KW.out W hbW).mono ?_
    rintro e w1 ⟨S1, c1, rfl, hs1, hc1, hm1, hb1⟩
    have hbel1 := hbW.trans (hb1.mono hbW.size)
    have Hbx1 := Lib.hid (Hbx.out.below hb1)
    have hs1 := Lib.hid hs1
    clear hb1 x0 x1 x2 x3 x4 x5 x6 hc1 hm1
    have ⟨x0, x1, x2, x3, x4, x5, x6⟩ := Hbx1.out
    go_wp2_with fail
    refine (KG.out w1 hbel1).mono ?_
    rintro e w2 ⟨S2, c2', rfl, ho2, hb2⟩
    have hbel2 := hbel1.trans (hb2.mono hbel1.size)
    have Hbx2 := Lib.hid (Hbx1.out.below hb2)
    have hs1 := Lib.hid ((Sl.below hs1.out hb2).more hb2.size)
    have hs2 := Lib.hid (Sl.of_own ho2)
    clear hb2 ho2 x0 x1 x2 x3 x4 x5 x6 Hbx1
    have ⟨x0, x1, x2, x3, x4, x5, x6⟩ := Hbx2.out
    go_wp2_with fail
    refine (KC.out w2 hbel2).mono ?_
    rintro e w3 ⟨rfl, hb3⟩
    have hbel3 := hbel2.trans (hb3.mono hbel2.size)
    have Hbx3 := Lib.hid (Hbx2.out.below hb3)
    have hs1 := Lib.hid ((Sl.below hs1.out hb3).more hb3.size)
    have hs2 := Lib.hid ((Sl.below hs2.out hb3).more hb3.size)
    clear hb3 x0 x1 x2 x3 x4 x5 x6 Hbx2
    go_wp2_with fail
    refine (KL.out w3 hbel3).mono ?_
    rintro e w4 ⟨rfl, hb4⟩
    have hbel4 := hbel3.trans (hb4.mono hbel3.size)
    have Hbx4 := Lib.hid (Hbx3.out.below hb4)
    have hs1 := Lib.hid ((Sl.below hs1.out hb4).more hb4.size)
    have hs2 := Lib.hid ((Sl.below hs2.out hb4).more hb4.size)
    clear hb4 Hbx3
    go_wp2_with fail
    refine (KD.out w4 hbel4).mono ?_
    rintro e w5 ⟨rfl, hb5⟩
    have hbel5 := hbel4.trans (hb5.mono hbel4.size)
    have Hbx5 := Lib.hid (Hbx4.out.below hb5)
    have hs1 := Lib.hid ((Sl.below hs1.out hb5).more hb5.size)
    have hs2 := Lib.hid ((Sl.below hs2.out hb5).more hb5.size)
    clear hb5 Hbx4
    go_wp2_with fail
    refine (KR.out w5 hbel5).mono ?_
    rintro e w6 ⟨rfl, hb6⟩
    have hbel6 := hbel5.trans (hb6.mono hbel5.size)
    have Hbx6 := Lib.hid (Hbx5.out.below hb6)
    have hs1 := Lib.hid ((Sl.below hs1.out hb6).more hb6.size)
    have hs2 := Lib.hid ((Sl.below hs2.out hb6).more hb6.size)
    clear hb6 Hbx5
    have ⟨x0, x1, x2, x3, x4, x5, x6⟩ := Hbx6.out
    go_wp2_with fail
    refine (HKRG.out w6 hbel6).mono ?_
    rintro e w7 ⟨S7, c7, rfl, ho7, hb7⟩
    have hbel7 := hbel6.trans (hb7.mono hbel6.size)
    have Hbx7 := Lib.hid (Hbx6.out.below hb7)
    have hs1 := Lib.hid ((Sl.below hs1.out hb7).more hb7.size)
    have hs2 := Lib.hid ((Sl.below hs2.out hb7).more hb7.size)
    have hs7 := Lib.hid (Sl.of_own ho7)
    clear hb7 ho7 x0 x1 x2 x3 x4 x5 x6 Hbx6
    have ⟨x0, x1, x2, x3, x4, x5, x6⟩ := Hbx7.out
    go_wp2_with fail
    refine (HKRW.out w7 hbel7).mono ?_
    rintro e w8 ⟨S8, c8, rfl, hs8, hb8⟩
    have hbel8 := hbel7.trans (hb8.mono hbel7.size)
    have hs1 := Lib.hid ((Sl.below hs1.out hb8).more hb8.size)
    have hs2 := Lib.hid ((Sl.below hs2.out hb8).more hb8.size)
    have hs7 := Lib.hid ((Sl.below hs7.out hb8).more hb8.size)
    have hE1 := Equal_strs S1 S8 n c1 n c8 _ _ L L w8 hs1.out hs8 (by omega) (by omega)
    rw [Hll.out] at hE1
    have HE1 := Lib.hid hE1
    have HE2 := Lib.hid (fun q => Equal_goals S2 S7 m c2' m c7 _ _ gs gs (w8.drewN q) (hs2.out.drewN q) (hs7.out.drewN q) (by omega) (by omega))
    clear hb8 hs8 hE1 x0 x1 x2 x3 x4 x5 x6 Hbx7
    go_wp2_with fail
    refine HE1.out.mono ?_
    rintro e w9 ⟨rfl, q9, rfl⟩
    go_wp2_with fail
    refine (HE2.out q9).mono ?_
    rintro e w10 ⟨rfl, q10, rfl⟩
    rw [Hgg.out]
    go_wp2_with fail
    go_ret
    exact ⟨rfl, belN hbel8 _⟩
  · obtain ⟨rfl, rfl⟩ := Prod.mk.inj (hgb hK)
    have hK1 : ((ge : Int) != 0) = true := by simp; omega
    have dge : ((ge : Int) == (ge : Int)) = true := by simp
    simp only [if_neg hK] at KW
    clear hM hU hp hf ht hok hwl hgb hgl hbx hld KRG KRW hK
    go_enter Tryz.func10, Tryz.ntmps10
    have ⟨x0, x1, x2, x3, x4, x5, x6⟩ := Hbx.out
    go_wp2_with fail
    rw [← hW]
    clear hW
    refine (KW.out W hbW).mono ?_
    rintro e w1 ⟨S1, c1, rfl, hs1, hc1, hm1, hb1⟩
    have hbel1 := hbW.trans (hb1.mono hbW.size)
    have Hbx1 := Lib.hid (Hbx.out.below hb1)
    clear hb1 hs1 x0 x1 x2 x3 x4 x5 x6 hc1 hm1
    have ⟨x0, x1, x2, x3, x4, x5, x6⟩ := Hbx1.out
    go_wp2_with fail
    refine (KG.out w1 hbel1).mono ?_
    rintro e w2 ⟨S2, c2', rfl, ho2, hb2⟩
    have hbel2 := hbel1.trans (hb2.mono hbel1.size)
    have Hbx2 := Lib.hid (Hbx1.out.below hb2)
    clear hb2 ho2 x0 x1 x2 x3 x4 x5 x6 Hbx1
    have ⟨x0, x1, x2, x3, x4, x5, x6⟩ := Hbx2.out
    go_wp2_with fail
    refine (KC.out w2 hbel2).mono ?_
    rintro e w3 ⟨rfl, hb3⟩
    have hbel3 := hbel2.trans (hb3.mono hbel2.size)
    clear hb3 x0 x1 x2 x3 x4 x5 x6 Hbx2
    go_wp2_with fail
    refine (KL.out w3 hbel3).mono ?_
    rintro e w4 ⟨rfl, hb4⟩
    have hbel4 := hbel3.trans (hb4.mono hbel3.size)
    clear hb4
    go_wp2_with fail
    refine (KD.out w4 hbel4).mono ?_
    rintro e w5 ⟨rfl, hb5⟩
    have hbel5 := hbel4.trans (hb5.mono hbel4.size)
    clear hb5
    go_wp2_with fail
    refine (KR.out w5 hbel5).mono ?_
    rintro e w6 ⟨rfl, hb6⟩
    have hbel6 := hbel5.trans (hb6.mono hbel5.size)
    clear hb6
    go_wp2_with fail
    go_ret
    exact ⟨rfl, hbel6⟩
end Go.Proofs.YtlbdnohnngkapaaGreatDoor

namespace Go.Proofs.YtlbdnohnngkapaaGreatDoor
open Go.ChangeShapes Go.WideShapes Go.ChangeAt Go.RowKit
open Go.ChangeMaps (open_string shut_string)

set_option maxRecDepth 100000 in
theorem bundleSays_contract (H : Type) (enc : TypeId × Value → H) (W : World) (base : Nat) (args : Array Value) (ds gs : List (DataW H)) (before : List MemPlace)
    (hval0 : ∀ (j : Nat) t v, Tryz.f10.params[j]? = some t → args[j]? = some v → Value.okWide Tryz.prog W .any base t v)
    (hW : DataW.Whole enc Tryz.prog Tryz.f10.params.toList Rows.bundleSaysSpec.vars false W args.toList ds gs before) (hL : laidMetH Tryz.prog Rows.bundleSaysRow.laid W) (hsh : W.ShapedOpen Tryz.prog) :
    Calls Tryz.prog 10 args W fun e W' => ∃ v, e = .returned v ∧ Rows.bundleSaysSpec.post enc Tryz.prog Tryz.f10 false true false false W args v W' := by
  have hMx : MaxLenOk W := maxLen_of_shaped hsh
  have _hL := hL
  have hval : ∀ (j : Nat) t v, Tryz.f10.params[j]? = some t → args[j]? = some v → Value.okWide Tryz.prog W .any base t v := hval0
  have hW' := hW
  obtain ⟨p, q, hA0, hV, rfl, hfz, hnd⟩ := hW
  have hA : DataW.TrodAll enc Tryz.prog W 0 (fun _ => true) true Tryz.f10.params.toList args.toList ds p := hA0
  rw [Tryz.params10] at hA hval
  obtain ⟨v0, vs0, d0, ds0, p0, q0, hargs, rfl, rfl, h0, r0⟩ := trodAll_cons hA
  obtain ⟨v1, vs1, d1, ds1, p1, q1, rfl, rfl, rfl, h1, r1⟩ := trodAll_cons r0
  obtain ⟨v2, vs2, d2, ds2, p2, q2, rfl, rfl, rfl, h2, r2⟩ := trodAll_cons r1
  obtain ⟨rfl, rfl, rfl⟩ := trodAll_nil r2
  obtain rfl : args = #[v0, v1, v2] := by cases args; simp_all
  obtain ⟨rfl, rfl⟩ := trodVars_none hV
  have k0 := h0
  have lt0 : ∀ x ∈ p0, x.block < W.heap.size := by obtain ⟨m, hm⟩ := k0; exact DataW.trod_lt m _ _ _ hm
  obtain ⟨pd0, pv0, rfl, w0⟩ := open_part (hval 0 25 v0 rfl rfl) h0
  obtain ⟨s1, rfl, rfl, rfl, w1⟩ := open_string Tryz.underlying9 (hval 1 9 v1 rfl rfl) h1
  obtain ⟨s2, rfl, rfl, rfl, w2⟩ := open_string Tryz.underlying9 (hval 2 9 v2 rfl rfl) h2
  clear hA0 hval0
  refine (bundleSays_walk pd0 pv0 s1.data.toList s2.data.toList W hMx (u8Ok_of_laid hL (by kernel_rfl)) w0 w1 w2).mono fun e W' ⟨he, bel⟩ => ?_
  subst he
  exact ⟨_, rfl, _, _, _, [], _, [], hW', trodAll_mk1 (shut_bool Tryz.underlying4 _), (trodAll_cons_mk (Below.trod laidOut (by kernel_rfl) (of_decide_eq_true (by kernel_rfl)) k0 bel lt0) (trodAll_cons_mk (shut_string Tryz.underlying9 w1) (trodAll_cons_mk (shut_string Tryz.underlying9 w2) trodAll_mk0))), rfl, bel.frame _, fun h => by cases h⟩

theorem bundleSays_laidMet (os : Os) : laidMet Tryz.prog Rows.bundleSaysRow.laid ((World.laidAll Tryz.prog os Rows.bundleSaysRow.laid).forCall (fun _ _ => 0) ⟨#[], #[.agg #[.string ⟨#[]⟩, .string ⟨#[]⟩, .string ⟨#[]⟩, .string ⟨#[]⟩, .int .i64 0, .slice none 0 0, .slice none 0 0], .string ⟨#[]⟩, .string ⟨#[]⟩], []⟩).memory :=
  laidMet_laidAll _ (by kernel_rfl) (by kernel_rfl)
theorem bundleSays_reads (os : Os) {H : Type} (enc : TypeId × Value → H) : ∃ places, DataW.whole enc Tryz.prog ((World.laidAll Tryz.prog os Rows.bundleSaysRow.laid).forCall (fun _ _ => 0) ⟨#[], #[.agg #[.string ⟨#[]⟩, .string ⟨#[]⟩, .string ⟨#[]⟩, .string ⟨#[]⟩, .int .i64 0, .slice none 0 0, .slice none 0 0], .string ⟨#[]⟩, .string ⟨#[]⟩], []⟩).memory Tryz.f10.params.toList Rows.bundleSaysSpec.vars false (#[.agg #[.string ⟨#[]⟩, .string ⟨#[]⟩, .string ⟨#[]⟩, .string ⟨#[]⟩, .int .i64 0, .slice none 0 0, .slice none 0 0], .string ⟨#[]⟩, .string ⟨#[]⟩] : Array Value).toList 8 = some ([.agg [.lit (.string []), .lit (.string []), .lit (.string []), .lit (.string []), .lit (.int .i64 0), .nil, .nil], .lit (.string []), .lit (.string [])], [], places) :=
  ⟨[], by kernel_rfl⟩

set_option maxRecDepth 100000 in
theorem bundleSays_lifted (os : Os) (started : os.Started) (H : Type) (enc : TypeId × Value → H) (F : Stop.Interp) :
    ReturnsInHanded {} Tryz.checked os 10 .any ((OpenSpec.ofChange Rows.bundleSaysSpec).preRow enc Tryz.prog Tryz.f10 Rows.bundleSaysRow.domain false Rows.bundleSaysRow.laid) (((OpenSpec.ofChange Rows.bundleSaysSpec).at F).post enc Tryz.prog Tryz.f10 false true false false) := by
  obtain ⟨places, hx⟩ := bundleSays_reads os enc
  refine returnsInHanded_of_row (C := Tryz.checked) (s := OpenSpec.ofChange Rows.bundleSaysSpec) own started (by kernel_rfl) Tryz.func10
    (witness_row_atRef (enc := enc) (C := Tryz.checked) false (World.laidAll Tryz.prog os Rows.bundleSaysRow.laid) #[.agg #[.string ⟨#[]⟩, .string ⟨#[]⟩, .string ⟨#[]⟩, .string ⟨#[]⟩, .int .i64 0, .slice none 0 0, .slice none 0 0], .string ⟨#[]⟩, .string ⟨#[]⟩] (World.laidAll_os _ _ _) (by kernel_rfl) (by kernel_rfl) (by kernel_rfl)
      (OpenSpec.preRow_of_cond 8 hx (by kernel_rfl) (fun k hk => by cases hk) (by kernel_rfl) (bundleSays_laidMet os))) ?_
  intro W base args ds gs before hval hW _ _ _ hL hsh _
  exact bundleSays_contract H enc W base args ds gs before hval hW hL hsh

set_option maxRecDepth 100000 in
set_option maxHeartbeats 40000000 in
theorem bundleSays_closed : joinedFacts Tryz.pinned.checked.prog 10 Tryz.f10 (OpenSpec.ofChange Rows.bundleSaysSpec).bare Rows.bundleSaysRow = true := by
  delta joinedFacts
  simp only [Bool.and_eq_true]
  refine ⟨⟨⟨⟨⟨⟨⟨⟨⟨⟨⟨⟨⟨⟨⟨⟨⟨⟨⟨⟨⟨⟨⟨⟨⟨⟨⟨⟨⟨⟨⟨?_, ?_⟩, ?_⟩, ?_⟩, ?_⟩, ?_⟩, ?_⟩, ?_⟩, ?_⟩, ?_⟩, ?_⟩, ?_⟩, ?_⟩, ?_⟩, ?_⟩, ?_⟩, ?_⟩, ?_⟩, ?_⟩, ?_⟩, ?_⟩, ?_⟩, ?_⟩, ?_⟩, ?_⟩, ?_⟩, ?_⟩, ?_⟩, ?_⟩, ?_⟩, ?_⟩, ?_⟩
  all_goals (as_aux_lemma => kernel_rfl)

theorem bundleSays_said : Rows.BundleSaysSaid :=
  OpenClaim.holds_of_cond 10 Tryz.f10 rfl rfl rfl rfl rfl rfl rfl ⟨rfl, rfl, rfl, rfl, rfl⟩ rfl rfl rfl rfl rfl (by kernel_rfl) Tryz.func10 bundleSays_closed
    (of_decide_eq_true (by kernel_rfl)) (by unfold Func.isWrapper; first | (rw [if_pos (by decide +kernel)]; kernel_rfl) | (rw [if_neg (by decide +kernel)]; exact ⟨rfl, rfl⟩))
    (fun os started H enc _ F => by rw [OpenClaim.pre_eq_preRow]; exact bundleSays_lifted os started H enc F)

end Go.Proofs.YtlbdnohnngkapaaGreatDoor

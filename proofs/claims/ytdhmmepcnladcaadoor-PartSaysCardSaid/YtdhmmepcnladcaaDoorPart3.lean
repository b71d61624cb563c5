import Derived.Test.YtdhmmepcnladcaaDoorPart2
namespace Go.Proofs.YtdhmmepcnladcaaDoor
open Go.RowKit

def cntVal : Option Nat → Value
  | none => .tuple #[.int .i64 0, .bool false]
  | some n => .tuple #[.int .i64 (n : Nat), .bool true]
/-- Element i of a slice of parts, its seven cells. -/
theorem SlP.cells7 {S : Nat → Prop} {w : World} {A : Option Addr} {n : Nat} {ps : List PartD} (h : SlP S w A n ps) {i : Nat} (hi : i < n) :
    ∃ b off p A' n' c' A2' n2' c2', A = some ⟨b, off, none⟩ ∧ S b ∧ ps.drop i = p :: ps.drop (i + 1) ∧ PartAt S w p [str p.type, str p.cs, str p.id, str p.loc, .int .i64 p.how, .slice A' n' c', .slice A2' n2' c2'] ∧
      w.cell? ⟨b, off + i * 7, none⟩ = some (str p.type) ∧ w.cell? ⟨b, off + i * 7 + 1, none⟩ = some (str p.cs) ∧ w.cell? ⟨b, off + i * 7 + 2, none⟩ = some (str p.id) ∧ w.cell? ⟨b, off + i * 7 + 3, none⟩ = some (str p.loc) ∧
      w.cell? ⟨b, off + i * 7 + 4, none⟩ = some (.int .i64 p.how) ∧ w.cell? ⟨b, off + i * 7 + 5, none⟩ = some (.slice A' n' c') ∧ w.cell? ⟨b, off + i * 7 + 6, none⟩ = some (.slice A2' n2' c2') := by
  have hl := h.len
  obtain ⟨b, off, r, hA, hb, hp, hc⟩ := h.at_ hi
  have hd := List.drop_eq_getElem_cons (l := ps) (i := i) (by omega)
  generalize ps[i]'(by rw [h.len]; exact hi) = p at hp hd
  obtain ⟨t, cs, id, loc, how, body, parts⟩ := p
  have hp2 := hp
  obtain ⟨A', n', c', A2', n2', c2', rows, rfl, _⟩ := hp
  exact ⟨b, off, _, A', n', c', A2', n2', c2', hA, hb, hd, hp2, hc 0 _ rfl, hc 1 _ rfl, hc 2 _ rfl, hc 3 _ rfl, hc 4 _ rfl, hc 5 _ rfl, hc 6 _ rfl⟩

def CntRel (k n2 : Nat) (ps : List PartD) (R : Option Nat) (w0 : World) (nv iv : Value) (wr : World) : Prop :=
  ∃ i n : Nat, nv = .int .i64 (n : Nat) ∧ iv = .int .i64 (i : Nat) ∧ i ≤ n2 ∧ n ≤ 12 ∧ Hid (cntsD k n (ps.drop i) = R) ∧ Below w0.heap.size w0 wr
set_option maxRecDepth 100000 in
set_option maxHeartbeats 2000000 in
theorem count_any (k : Nat) : ∀ (p : PartD) (v : List Value) (depth : Int) (w : World), k + depth = 4 → 1 ≤ depth → PartAt (· < w.heap.size) w p v →
    Calls Tryd.prog 80 #[.agg v.toArray, .int .i64 depth] w fun e w' => e = .returned (cntVal (cntD k p)) ∧ Below w.heap.size w w' := by
  induction k with
  | zero =>
    intro p v depth w hd h1 hp
    obtain ⟨t, cs, id, loc, how, body, parts⟩ := p
    obtain ⟨A, n, c, A2, n2, c2, rows, rfl, _⟩ := hp
    have e : cntD 0 ⟨t, cs, id, loc, how, body, parts⟩ = none := by rw [cntD]
    rw [e]
    have hd4 : 3 < depth := by omega
    have hd5 : depth ≤ 4 := by omega
    clear hd e
    go_enter Tryd.func80, Tryd.ntmps80
    go_wp2_with fail
    go_ret2
    exact ⟨rfl, (Below.refl _ _).alloc (Nat.le_refl _) _⟩
  | succ k ih =>
    intro p v depth w hd h1 hp
    obtain ⟨t, cs, id, loc, how, body, parts⟩ := p
    obtain ⟨A, n, c, A2, n2, c2, rows, rfl, _, _, _, _, hsl, hnc, hcm, hps⟩ := hp
    have hP : SlP (· < w.heap.size) w A2 n2 parts := ⟨rows, hsl, hps⟩
    have e : cntD (k + 1) ⟨t, cs, id, loc, how, body, parts⟩ = cntsD k 1 parts := by rw [cntD]
    rw [e]
    obtain ⟨R, hR⟩ : ∃ R, cntsD k 1 parts = R := ⟨_, rfl⟩
    rw [hR]
    have HR := Lib.hid hR
    have Hih := Lib.hid ih
    have hd3 : depth ≤ 3 := by omega
    have Hd := Lib.hid hd
    have hn2 : n2 ≤ 9223372036854775807 := by unfold maxLen at hcm; omega
    clear hsl hps e hR ih hd hcm
    go_enter Tryd.func80, Tryd.ntmps80
    go_wp2_with fail
    go_loopw [6, 16] (CntRel k n2 parts R w) (fun _ iv _ => n2 - (intOf iv).toNat)
    case atStart => exact ⟨0, 1, rfl, rfl, by omega, by omega, HR.out, (Below.refl _ w).alloc (Nat.le_refl _) _⟩
    case round =>
      clear HR
      obtain ⟨i, m, rfl, rfl, hi, hm, hE, hbel⟩ := hrel
      by_cases hin : i < n2
      · have hPr := hP.below hbel
        obtain ⟨b, off, q, A', n', c', A2', n2', c2', rfl, hbS, hq, hqa, x0, x1, x2, x3, x4, x5, x6⟩ := hPr.cells7 hin
        have Hq := Lib.hid hq
        clear hq hPr hP
        go_wp2_with fail
        have hqa2 := (hqa.below ((Below.refl w.heap.size wr).alloc hbel.size (.cells #[str q.type, str q.cs, str q.id, str q.loc, .int .i64 q.how, .slice A' n' c', .slice A2' n2' c2'] 25))).more (C := (wr.alloc (.cells #[str q.type, str q.cs, str q.id, str q.loc, .int .i64 q.how, .slice A' n' c', .slice A2' n2' c2'] 25)).heap.size) (by have := hbel.size; simp; omega)
        have hb0 := hbel.alloc hbel.size (.cells #[str q.type, str q.cs, str q.id, str q.loc, .int .i64 q.how, .slice A' n' c', .slice A2' n2' c2'] 25)
        have hc12 := cntD_le k q
        have hE2 : Hid (cntNext k m (parts.drop (i + 1)) (cntD k q) = R) := by
          show _ = R
          rw [← hE.out, Hq.out, cntsD_cons]
        have hcl := Hih.out q _ (depth + 1) _ (by have := Hd.out; omega) (by omega) hqa2
        generalize cntD k q = o at hcl hc12 hE2
        clear x0 x1 x2 x3 x4 x5 x6 hqa hqa2
        cases o with
        | none =>
          obtain rfl : none = R := hE2.out
          simp only [cntVal] at hcl
          refine hcl.mono ?_
          clear hcl hE hE2 hc12
          rintro e w1 ⟨rfl, hb1⟩
          have hbel1 := hb0.trans (hb1.mono hb0.size)
          go_wp2_with fail
          go_ret2
          exact ⟨rfl, hbel1⟩
        | some c =>
          obtain ⟨hc1, hc2⟩ := hc12 c rfl
          simp only [cntVal] at hcl
          by_cases h12 : 12 < m + c
          · obtain rfl : none = R := by have := hE2.out; simp only [cntNext] at this; rw [if_pos h12] at this; exact this
            have d1 : decide ((12 : Int) < (m : Int) + c) = true := by simp; omega
            refine hcl.mono ?_
            clear hcl hE hE2 hc12
            rintro e w1 ⟨rfl, hb1⟩
            have hbel1 := hb0.trans (hb1.mono hb0.size)
            go_wp2_with fail
            go_ret2
            exact ⟨rfl, hbel1⟩
          · have hE3 : Hid (cntsD k (m + c) (parts.drop (i + 1)) = R) := by have := hE2.out; simp only [cntNext] at this; rw [if_neg h12] at this; exact this
            have d1 : decide ((12 : Int) < (m : Int) + c) = false := by simp; omega
            refine hcl.mono ?_
            clear hcl hE hE2 hc12
            rintro e w1 ⟨rfl, hb1⟩
            have hbel1 := hb0.trans (hb1.mono hb0.size)
            go_wp2_with fail
            exact ⟨⟨i + 1, m + c, by go_num, by go_num, by omega, by omega, hE3, hbel1⟩, by simp [intOf]; omega⟩
      · have hR : some m = R := by rw [← hE.out, List.drop_of_length_le (by rw [hP.len]; omega), cntsD]
        subst hR
        clear hE
        go_wp2_with fail
        go_ret2
        exact ⟨rfl, hbel⟩
end Go.Proofs.YtdhmmepcnladcaaDoor

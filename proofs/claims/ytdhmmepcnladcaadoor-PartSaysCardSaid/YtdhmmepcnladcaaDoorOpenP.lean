import Derived.Test.YtdhmmepcnladcaaDoorOpen
import Derived.Test.YtdhmmepcnladcaaDoorPartM
import Derived.Deep.Slices
import Derived.Deep.Fields
import Derived.Lib.SmallJoins
namespace Go.Proofs.YtdhmmepcnladcaaDoor
open Go.ChangeShapes Go.WideShapes Go.ChangeAt Go.RowKit Go.Deep

theorem partStruct : Tryd.prog.cellsOf 25 = 7 := by kernel_rfl
theorem cell_lt' {w : World} {b o : Nat} {v : Value} (h : w.cell? ⟨b, o, none⟩ = some v) : b < w.heap.size := cell_lt (a := ⟨b, o, none⟩) h
theorem plain_at {w : World} {a : Addr} {v : Value} (h : w.cell? (a.add 0) = some v) : ∃ b off, a = ⟨b, off, none⟩ := by
  obtain ⟨b, off, spot⟩ := a
  have hspot : spot = none := by
    simpa [Addr.add] using World.cell?_spot h
  subst hspot
  exact ⟨b, off, rfl⟩

section
variable {H : Type} {enc : TypeId × Value → H} {w : World} {base : Nat} {held : Bool}
set_option maxRecDepth 100000 in
theorem part_of_trod : ∀ (k fuel : Nat) (cs : List Value) (x : DataW H × List MemPlace), fuel ≤ k → DataW.trod enc Tryd.prog w base (fun _ => true) held fuel 25 cs = some x → ∃ p, PartAt (· < w.heap.size) w p cs := by
  intro k
  induction k with
  | zero =>
    intro fuel cs x hk h
    have : fuel = 0 := by omega
    subst this
    simp [DataW.trod] at h
  | succ k ih =>
    intro fuel cs x hk h
    obtain ⟨xs, n, hfu, _, hl, hxl, hf⟩ := DataW.trod_struct Tryd.underlying25 h
    rw [partStruct] at hl
    match cs, hl with
    | [c0, c1, c2, c3, c4, c5, c6], _ =>
      match xs, hxl with
      | [x0, x1, x2, x3, x4, x5, x6], _ =>
        have h0 : DataW.trod enc Tryd.prog w base (fun _ => true) held n 9 [c0] = some x0 := hf 0 _ rfl
        have h1 : DataW.trod enc Tryd.prog w base (fun _ => true) held n 9 [c1] = some x1 := hf 1 _ rfl
        have h2 : DataW.trod enc Tryd.prog w base (fun _ => true) held n 9 [c2] = some x2 := hf 2 _ rfl
        have h3 : DataW.trod enc Tryd.prog w base (fun _ => true) held n 9 [c3] = some x3 := hf 3 _ rfl
        have h4 : DataW.trod enc Tryd.prog w base (fun _ => true) held n 3 [c4] = some x4 := hf 4 _ rfl
        have h5 : DataW.trod enc Tryd.prog w base (fun _ => true) held n 22 [c5] = some x5 := hf 5 _ rfl
        have h6 : DataW.trod enc Tryd.prog w base (fun _ => true) held n 23 [c6] = some x6 := hf 6 _ rfl
        obtain ⟨s0, e0, _, b0⟩ := DataW.trod_string Tryd.underlying9 h0
        obtain ⟨s1, e1, _, b1⟩ := DataW.trod_string Tryd.underlying9 h1
        obtain ⟨s2, e2, _, b2⟩ := DataW.trod_string Tryd.underlying9 h2
        obtain ⟨s3, e3, _, b3⟩ := DataW.trod_string Tryd.underlying9 h3
        obtain ⟨i4, e4, _, b4⟩ := DataW.trod_int Tryd.underlying3 h4
        simp only [List.cons.injEq, and_true] at e0 e1 e2 e3 e4
        subst e0 e1 e2 e3 e4
        obtain ⟨hlo, hhi⟩ := bounds_i64 b4
        have hby : ∃ A n c l, c5 = .slice A n c ∧ By w w.heap.size A n l ∧ n ≤ c ∧ c ≤ maxLen := by
          rcases open_ints Tryd.underlying22 Tryd.underlying5 (by kernel_rfl) h5 with ⟨hcs, _⟩ | ⟨y, l, c, zs, hcs, _, hl, hm, hz, _, hcell, hwz⟩
          · simp only [List.cons.injEq, and_true] at hcs
            exact ⟨none, 0, 0, [], hcs, By.nil_ _ _ _, Nat.le_refl _, Nat.zero_le _⟩
          · simp only [List.cons.injEq, and_true] at hcs
            have hr : IsRow .u8 w (some y) l c zs := .inr ⟨y, rfl, hl, hm, by simpa using hz, hcell, hwz⟩
            obtain ⟨bl, hb, hle, hmx⟩ := hr.toBy
            exact ⟨some y, l, c, bl, hcs, hb, hle, hmx⟩
        have hps : ∃ A n c ps rows, c6 = .slice A n c ∧ SlS (· < w.heap.size) w 7 A n rows.flatten ∧ PartsAt (· < w.heap.size) w ps rows ∧ n ≤ c ∧ c ≤ maxLen := by
          rcases DataW.trod_slice Tryd.underlying23 h6 with ⟨hcs, _⟩ | ⟨a, len, cap, elems, rest, n', hfu', hcs, _, hb, hl, hm, hlen, hel, hsp, hns⟩
          · simp only [List.cons.injEq, and_true] at hcs
            exact ⟨none, 0, 0, [], [], hcs, ⟨rfl, fun h => absurd h (by omega)⟩, rfl, Nat.le_refl _, Nat.zero_le _⟩
          · simp only [List.cons.injEq, and_true] at hcs
            have hone : ∀ i, i < len → ∃ (q : PartD × List Value), w.cells? base (a.add (i * 7)) 7 = some q.2 ∧ PartAt (· < w.heap.size) w q.1 q.2 := by
              intro i hi
              have h1 := hel i hi
              rw [partStruct, List.getElem?_eq_getElem (by omega)] at h1
              obtain ⟨cs', hc', ht'⟩ := Option.bind_eq_some_iff.1 h1
              obtain ⟨p, hp⟩ := ih n' cs' _ (by omega) ht'
              exact ⟨(p, cs'), hc', hp⟩
            haveI : Inhabited (PartD × List Value) := ⟨(⟨[], [], [], [], 0, [], []⟩, [])⟩
            obtain ⟨f, hfp⟩ := choose_lt hone
            refine ⟨some a, len, cap, (List.range len).map (fun i => (f i).1), (List.range len).map (fun i => (f i).2), hcs, ?_, ?_, hl, hm⟩
            · have h7 : ∀ r ∈ (List.range len).map (fun i => (f i).2), r.length = 7 := by
                intro r hr
                obtain ⟨i, hi, rfl⟩ := List.mem_map.1 hr
                exact (hfp i (List.mem_range.1 hi)).2.row
              refine ⟨by rw [flat7_len _ h7]; simp, fun h0 => ?_⟩
              obtain ⟨_, hl0, hat0⟩ := World.cells?_some (hfp 0 h0).1
              have hx0 := hat0 0 (by omega)
              rw [List.getElem?_eq_getElem (by omega)] at hx0
              obtain ⟨b, off, hab⟩ : ∃ b off, a = ⟨b, off, none⟩ := by
                have e : (a.add (0 * 7)).add 0 = a.add 0 := by rw [Go.Deep.add_add]
                rw [e] at hx0
                exact plain_at hx0
              subst hab
              refine ⟨b, off, rfl, ?_, fun j u hu => ?_⟩
              · have e : ((⟨b, off, none⟩ : Addr).add (0 * 7)).add 0 = ⟨b, off, none⟩ := by rw [Go.Deep.add_add]; simp [Addr.add]
                rw [e] at hx0
                exact cell_lt' hx0
              · have hj : j < len * 7 := by
                  rcases Nat.lt_or_ge j (len * 7) with h | h
                  · exact h
                  · rw [List.getElem?_eq_none (by rw [flat7_len _ h7]; simp; omega)] at hu; cases hu
                have hi : j / 7 < len := by omega
                have hjj : j = j / 7 * 7 + j % 7 := by omega
                obtain ⟨_, hli, hati⟩ := World.cells?_some (hfp (j / 7) hi).1
                have hx := hati (j % 7) (by omega)
                rw [Go.Deep.add_add, ← hjj] at hx
                rw [hjj, flat7_at _ h7 (j / 7) (j % 7) (f (j / 7)).2 (by simp [hi]) (by omega)] at hu
                rw [hu] at hx
                have e : (⟨b, off, none⟩ : Addr).add j = ⟨b, off + j, none⟩ := Go.WideShapes.add_plain ..
                rw [e] at hx
                exact hx
            · refine PartsAt.mk _ _ (by simp) fun i hi => ?_
              have hi' : i < len := by simpa using hi
              refine ⟨(f i).2, by simp [hi'], ?_⟩
              simpa using (hfp i hi').2
        obtain ⟨A, n1, c1', l, rfl, hb1, hb2, hb3⟩ := hby
        obtain ⟨A2, n2, c2', ps, rows, rfl, hp1, hp2, hp3, hp4⟩ := hps
        exact ⟨⟨s0.data.toList, s1.data.toList, s2.data.toList, s3.data.toList, i4, l, ps⟩, A, n1, c1', A2, n2, c2', rows, rfl, ⟨b0, b1, b2, b3, hlo, hhi⟩, hb1, hb2, hb3, hp1, hp3, hp4, hp2⟩
set_option maxRecDepth 100000 in
theorem open_part {r : Reach} {b0 : Nat} {v : Value} {d : DataW H} {pl : List MemPlace} (hv : Value.okWide Tryd.prog w r b0 25 v) (h : DataW.Trod enc Tryd.prog w base (fun _ => true) held 25 v d pl) : ∃ p cs, v = .agg cs.toArray ∧ PartAt (· < w.heap.size) w p cs := by
  obtain ⟨cs, rfl, hsz⟩ := okWide_struct Tryd.underlying25 hv
  obtain ⟨l⟩ := cs
  obtain ⟨fuel, hf⟩ := h
  obtain ⟨p, hp⟩ := part_of_trod fuel fuel _ _ (Nat.le_refl _) hf
  exact ⟨p, l, rfl, hp⟩
end
end Go.Proofs.YtdhmmepcnladcaaDoor

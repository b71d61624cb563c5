import Derived.Test.YtoolfhjlhhcbgaaTree
import Derived.Test.YtoolfhjlhhcbgaaSam
import Derived.Test.YtoolfhjlhhcbgaaPartY
import Derived.Test.YtoolfhjlhhcbgaaCatint
namespace Go.Proofs.Ytoolfhjlhhcbgaa
open Go.RowKit

theorem cut_parts (w : World) (A : Option Addr) (n c : Nat) (ki : IntKind) (k : Int) (h0 : 0 ≤ k) (h1 : k ≤ n) :
    (Instr.slice 37 (.slice A n c) (some (.int ki k)) none none).run Try.prog w = .ok (.slice (cutA A c k.toNat 7) (n - k.toNat) (c - k.toNat)) w :=
  run_cut w _ _ 7 Try.underlying37 (Try.sizeOf39 w) A n c ki k h0 h1
attribute [local go_sem high] cut_parts

/-- A wrapper of two, laid in memory. -/
theorem wrap_at {w : World} {p q : PartD} {v u : List Value} {g : Nat} {t : TypeId} (hg : w.heap[g]? = some (.cells (v ++ u).toArray t)) (hp : PartAt (· < w.heap.size) w p v) (hq : PartAt (· < w.heap.size) w q u) :
    PartAt (· < w.heap.size) w (wrapD p q) [str [109, 117, 108, 116, 105, 112, 97, 114, 116, 47, 109, 105, 120, 101, 100], str [], str [], str [], .int .i64 0, .slice none 0 0, .slice (some ⟨g, 0, none⟩) 2 2] := by
  refine ⟨none, 0, 0, some ⟨g, 0, none⟩, 2, 2, [v, u], rfl, ?_, ⟨rfl, fun h => absurd h (by omega)⟩, Nat.le_refl _, Nat.zero_le _, ?_, Nat.le_refl _, by unfold maxLen; omega, ⟨_, _, rfl, hp, _, _, rfl, hq, rfl⟩⟩
  · unfold maxLen; simp
  · exact sl_block _ (by simpa using hg) (by simp [hp.row, hq.row])

theorem flat_drop7 : ∀ (rows : List (List Value)), (∀ r ∈ rows, r.length = 7) → rows.flatten.drop 7 = (rows.drop 1).flatten
  | [], _ => rfl
  | r :: rs, h => by
    rw [List.flatten_cons, List.drop_left' (h r (by simp))]; rfl
theorem SlP.cut1 {S : Nat → Prop} {w : World} {A : Option Addr} {n c : Nat} {ps : List PartD} (h : SlP (· < w.heap.size) w A n ps) (hn : 1 ≤ n) (hc : n ≤ c) : SlP (· < w.heap.size) w (cutA A c 1 7) (n - 1) (ps.drop 1) := by
  obtain ⟨rows, h1, h2⟩ := h
  have h3 := Sl.cut (k := 1) h1.sl hn hc
  rw [Nat.one_mul, flat_drop7 rows (PartsAt.rows _ _ h2)] at h3
  refine ⟨rows.drop 1, h3, ?_⟩
  match ps, rows, h2 with
  | [], _, h2 => rw [show _ = [] from h2]; rfl
  | p :: ps, _, ⟨r, rs, rfl, _, h4⟩ => exact h4
def CatP (n : Nat) (ps : List PartD) (w : World) (e : Ending) (w' : World) : Prop := ∃ S c, e = .returned (.slice S n c) ∧ SlP (· < w'.heap.size) w' S n ps ∧ Below w.heap.size w w'
theorem ConcatP (A A1 A2 : Option Addr) (c n1 c1 n2 c2 : Nat) (ps qs : List PartD) (w : World) (hA : Sl w w.heap.size 1 A 2 [.slice A1 n1 c1, .slice A2 n2 c2]) (hx : SlP (· < w.heap.size) w A1 n1 ps) (hy : SlP (· < w.heap.size) w A2 n2 qs) (hn : n1 + n2 ≤ 1000000000) :
    Calls Try.prog 22 #[.slice A 2 c] w (CatP (n1 + n2) (ps ++ qs) w) := by
  obtain ⟨rows, h1, h2⟩ := hx
  obtain ⟨rows', h3, h4⟩ := hy
  refine (Concat_Part A A1 A2 c n1 c1 n2 c2 _ _ w hA h1.sl h3.sl (PartsAt.one _ _ h2) (PartsAt.one _ _ h4) hn).mono ?_
  rintro e w' ⟨S, cs, rfl, hown, hb⟩
  rw [← List.flatten_append] at hown
  refine ⟨S, cs, rfl, ⟨rows ++ rows', Sl.of_own hown, ?_⟩, hb⟩
  exact PartsAt.change (fun b h => Nat.lt_of_lt_of_le h hb.size) (fun _ hp => hb.cell hp) _ _ (PartsAt.app _ _ _ _ h2 h4)
def CatI (n : Nat) (l : List Int) (w : World) (e : Ending) (w' : World) : Prop := ∃ S c, e = .returned (.slice S n c) ∧ Sl w' w'.heap.size 1 S n (iCells l) ∧ Below w.heap.size w w'
theorem ConcatI (A A1 A2 : Option Addr) (c n1 c1 n2 c2 : Nat) (x y : List Int) (w : World) (hA : Sl w w.heap.size 1 A 2 [.slice A1 n1 c1, .slice A2 n2 c2]) (hx : Sl w w.heap.size 1 A1 n1 (iCells x)) (hy : Sl w w.heap.size 1 A2 n2 (iCells y)) (hn : n1 + n2 ≤ 1000000000) :
    Calls Try.prog 24 #[.slice A 2 c] w (CatI (n1 + n2) (x ++ y) w) := by
  refine (Concat_int A A1 A2 c n1 c1 n2 c2 _ _ w hA hx hy (iCells_one _) (iCells_one _) hn).mono ?_
  rintro e w' ⟨S, cs, rfl, hown, hb⟩
  rw [← iCells_app] at hown
  exact ⟨S, cs, rfl, Sl.of_own hown, hb⟩

set_option maxRecDepth 100000 in
set_option maxHeartbeats 1500000 in
theorem partWraps_walk (p q : PartD) (v u : List Value) (w : World) (hp : PartAt (· < w.heap.size) w p v) (hq : PartAt (· < w.heap.size) w q u) :
    Calls Try.prog 7 #[.agg v.toArray, .agg u.toArray] w (TruePost w) := by
  have hcp := check_parts p q
  have hin := wrap_in p q
  have hln := wrap_len p q
  have hok := check_ok (wrapD p q)
  have hfl := flat_wrap p q
  have hw0 := (wth_facts (wrapD p q)).1
  have hwl := wthD_len (wrapD p q) 0 (-1)
  have hwlp := wthD_len p 0 (-1)
  have hwlq := wthD_len q 0 (-1)
  have hal := fun W h => All_any (wrapD p q) [str [109, 117, 108, 116, 105, 112, 97, 114, 116, 47, 109, 105, 120, 101, 100], str [], str [], str [], .int .i64 0, .slice none 0 0, .slice (some ⟨w.heap.size + 1 + 1, 0, none⟩) 2 2] W h
  have hwt := fun W h => Within_any (wrapD p q) [str [109, 117, 108, 116, 105, 112, 97, 114, 116, 47, 109, 105, 120, 101, 100], str [], str [], str [], .int .i64 0, .slice none 0 0, .slice (some ⟨w.heap.size + 1 + 1, 0, none⟩) 2 2] W h
  have halp := fun W h => All_any p v W h
  have hwtp := fun W h => Within_any p v W h
  have halq := fun W h => All_any q u W h
  have hwtq := fun W h => Within_any q u W h
  unfold AllOut at hal halp halq
  unfold WthOut at hwt hwtp hwtq
  obtain ⟨A, c, A2, c2, rfl, _⟩ := hp.open
  obtain ⟨A', c', A2', c2', rfl, _⟩ := hq.open
  obtain ⟨W, hW⟩ : ∃ W, W = ((((w.alloc (.cells #[str p.type, str p.cs, str p.id, str p.loc, .int .i64 p.how, .slice A p.body.length c, .slice A2 p.parts.length c2] 39)).alloc (.cells #[str q.type, str q.cs, str q.id, str q.loc, .int .i64 q.how, .slice A' q.body.length c', .slice A2' q.parts.length c2'] 39)).alloc
    (.cells #[str p.type, str p.cs, str p.id, str p.loc, .int .i64 p.how, .slice A p.body.length c, .slice A2 p.parts.length c2, str q.type, str q.cs, str q.id, str q.loc, .int .i64 q.how, .slice A' q.body.length c', .slice A2' q.parts.length c2'] 39)).alloc
    (.cells #[Value.string { data := #[109, 117, 108, 116, 105, 112, 97, 114, 116, 47, 109, 105, 120, 101, 100] }, Value.string { data := #[] }, Value.string { data := #[] }, Value.string { data := #[] }, Value.int IntKind.i64 0, Value.slice none 0 0, Value.slice (some { block := w.heap.size + 1 + 1, off := 0 }) 2 2] 39)) := ⟨_, rfl⟩
  have hbW : Below w.heap.size w W := by
    rw [hW]
    exact ((((Below.refl _ w).alloc (Nat.le_refl _) _).alloc (by simp) _).alloc (by simp <;> omega) _).alloc (by simp <;> omega) _
  have hsz : W.heap.size = w.heap.size + 4 := by rw [hW]; simp
  have g0 : W.heap[w.heap.size]? = some (.cells #[str p.type, str p.cs, str p.id, str p.loc, .int .i64 p.how, .slice A p.body.length c, .slice A2 p.parts.length c2] 39) := by
    rw [hW, Lib.alloc_old _ _ _ (by simp <;> omega), Lib.alloc_old _ _ _ (by simp <;> omega), Lib.alloc_old _ _ _ (by simp)]
    exact heap_alloc_new w _
  have g1 : W.heap[w.heap.size + 1]? = some (.cells #[str q.type, str q.cs, str q.id, str q.loc, .int .i64 q.how, .slice A' q.body.length c', .slice A2' q.parts.length c2'] 39) := by
    rw [hW, Lib.alloc_old _ _ _ (by simp <;> omega), Lib.alloc_old _ _ _ (by simp)]
    have := fun o => heap_alloc_new (w.alloc o)
    simp only [World.size_alloc] at this
    exact this _ _
  have g2 : W.heap[w.heap.size + 1 + 1]? = some (.cells ([str p.type, str p.cs, str p.id, str p.loc, .int .i64 p.how, .slice A p.body.length c, .slice A2 p.parts.length c2] ++ [str q.type, str q.cs, str q.id, str q.loc, .int .i64 q.how, .slice A' q.body.length c', .slice A2' q.parts.length c2']).toArray 39) := by
    rw [hW, Lib.alloc_old _ _ _ (by simp)]
    have := fun o o' => heap_alloc_new ((w.alloc o).alloc o')
    simp only [World.size_alloc] at this
    exact this _ _ _
  have g3 : W.heap[w.heap.size + 1 + 1 + 1]? = some (.cells #[Value.string { data := #[109, 117, 108, 116, 105, 112, 97, 114, 116, 47, 109, 105, 120, 101, 100] }, Value.string { data := #[] }, Value.string { data := #[] }, Value.string { data := #[] }, Value.int IntKind.i64 0, Value.slice none 0 0, Value.slice (some { block := w.heap.size + 1 + 1, off := 0 }) 2 2] 39) := by
    rw [hW]
    have := fun o o' o'' => heap_alloc_new (((w.alloc o).alloc o').alloc o'')
    simp only [World.size_alloc] at this
    exact this _ _ _ _
  have bp := (BoxF.of_block g0).1
  have bq := (BoxF.of_block g1).1
  have bw := (BoxF.of_block g3).1
  have hpW := (hp.below hbW).more hbW.size
  have hqW := (hq.below hbW).more hbW.size
  have hwW := wrap_at g2 hpW hqW
  clear g0 g1 g2 g3 hp hq
  have HpW := Lib.hid hpW
  have HqW := Lib.hid hqW
  have HwW := Lib.hid hwW
  have Hal := Lib.hid hal
  have Hwt := Lib.hid hwt
  have Halp := Lib.hid halp
  have Hwtp := Lib.hid hwtp
  have Halq := Lib.hid halq
  have Hwtq := Lib.hid hwtq
  clear hpW hqW hwW hal hwt halp hwtp halq hwtq
  generalize wthD (wrapD p q) 0 (-1) = T at Hwt hin hw0 hwl
  generalize wthD p 0 (-1) = X at Hwtp hin hwlp
  generalize wthD q 0 (-1) = Y at Hwtq hin hwlq
  generalize flatD (wrapD p q) = F at Hal Hwt hok hfl hwl hln
  generalize checkD (wrapD p q) = R at Hal Hwt hok hcp
  by_cases hR : R = 0
  · subst hR
    obtain ⟨hp0, hq0⟩ := hcp rfl
    rw [hp0] at Halp Hwtp
    rw [hq0] at Halq Hwtq
    simp only [if_true] at Hal Hwt Halp Hwtp Halq Hwtq
    generalize flatD p = Fp at Halp Hwtp hin hln hfl hwlp
    generalize flatD q = Fq at Halq Hwtq hin hln hfl hwlq
    obtain ⟨h12, _⟩ := hok rfl
    obtain ⟨n, hn⟩ : ∃ n, n = F.length := ⟨_, rfl⟩
    obtain ⟨np, hnp⟩ : ∃ n, n = Fp.length := ⟨_, rfl⟩
    obtain ⟨nq, hnq⟩ : ∃ n, n = Fq.length := ⟨_, rfl⟩
    rw [← hn] at Hal Hwt h12 hln hwl
    rw [← hnp] at Halp Hwtp hin hln hwlp
    rw [← hnq] at Halq Hwtq hln hwlq
    have hn1 : 1 ≤ n := by omega
    have Hln := Lib.hid hln
    have Hin := Lib.hid hin
    have Hfl := Lib.hid hfl
    have Hw0 := Lib.hid hw0
    have Hwl := Lib.hid hwl
    have Hwlp := Lib.hid hwlp
    have Hwlq := Lib.hid hwlq
    have Hnp := Lib.hid hnp
    have Hnq := Lib.hid hnq
    clear hcp hok hn hnp hnq hin hfl hln hw0 hwl hwlp hwlq hp0 hq0
    go_enter Try.func7, Try.ntmps7
    go_wp2_with fail
    rw [← hW]
    clear hW
    refine (Hal.out W HwW.out).mono ?_
    rintro e w1 ⟨S1, c1, rfl, hs1, hc1, hm1, hb1⟩
    have bp1 := bp.below hb1
    have bq1 := bq.below hb1
    have bw1 := bw.below hb1
    have ⟨x0, x1, x2, x3, x4, x5, x6⟩ := bw1
    have hwW1 := (HwW.out.below hb1).more hb1.size
    have hpW1 := (HpW.out.below hb1).more hb1.size
    have hqW1 := (HqW.out.below hb1).more hb1.size
    have hbel1 := hbW.trans (hb1.mono hbW.size)
    clear bp bq bw bw1 hb1 hbW HwW HpW HqW Hal
    go_wp2_with fail
    refine (Hwt.out w1 hwW1).mono ?_
    rintro e w2 ⟨S2, cc2, rfl, hs2, hc2, hm2, hb2⟩
    have bp2 := bp1.below hb2
    have bq2 := bq1.below hb2
    have hs12 := (hs1.below hb2).more hb2.size
    have hpW2 := (hpW1.below hb2).more hb2.size
    have hqW2 := (hqW1.below hb2).more hb2.size
    have hbel2 := hbel1.trans (hb2.mono hbel1.size)
    clear bp1 bq1 hwW1 hpW1 hqW1 hs1 hb2 hbel1 x0 x1 x2 x3 x4 x5 x6 Hwt
    go_wp2_with fail
    refine (parted_any _).mono ?_
    rintro e w3 ⟨rfl, hb3⟩
    have bp3 := bp2.below hb3
    have bq3 := bq2.below hb3
    have hs13 := (hs12.below hb3).more hb3.size
    have hs23 := Sl.more (Sl.below hs2 hb3) hb3.size
    have hpW3 := (hpW2.below hb3).more hb3.size
    have hqW3 := (hqW2.below hb3).more hb3.size
    have hbel3 := hbel2.trans (hb3.mono hbel2.size)
    have ⟨x0, x1, x2, x3, x4, x5, x6⟩ := bp3
    clear bp2 bq2 hs12 hs2 hpW2 hqW2 hb3 hbel2
    go_wp2_with fail
    refine (Halp.out w3 hpW3).mono ?_
    rintro e w4 ⟨S4, c4, rfl, hs4, hc4, hm4, hb4⟩
    have bp4 := bp3.below hb4
    have bq4 := bq3.below hb4
    have hs14 := (hs13.below hb4).more hb4.size
    have hs24 := Sl.more (Sl.below hs23 hb4) hb4.size
    have hpW4 := (hpW3.below hb4).more hb4.size
    have hqW4 := (hqW3.below hb4).more hb4.size
    have hbel4 := hbel3.trans (hb4.mono hbel3.size)
    clear x0 x1 x2 x3 x4 x5 x6 bp3 bq3 hs13 hs23 hpW3 hqW3 hb4 hbel3 Halp
    have ⟨x0, x1, x2, x3, x4, x5, x6⟩ := bq4
    go_wp2_with fail
    refine (Halq.out w4 hqW4).mono ?_
    rintro e w5 ⟨S5, c5, rfl, hs5, hc5, hm5, hb5⟩
    have bp5 := bp4.below hb5
    have bq5 := bq4.below hb5
    have hs15 := (hs14.below hb5).more hb5.size
    have hs25 := Sl.more (Sl.below hs24 hb5) hb5.size
    have hs45 := (hs4.below hb5).more hb5.size
    have hpW5 := (hpW4.below hb5).more hb5.size
    have hqW5 := (hqW4.below hb5).more hb5.size
    have hbel5 := hbel4.trans (hb5.mono hbel4.size)
    clear x0 x1 x2 x3 x4 x5 x6 bp4 bq4 hs14 hs24 hs4 hpW4 hqW4 hb5 hbel4 Halq
    have ⟨x0, x1, x2, x3, x4, x5, x6⟩ := bp5
    go_wp2_with fail
    refine (Hwtp.out w5 hpW5).mono ?_
    rintro e w6 ⟨S6, c6, rfl, hs6, hc6, hm6, hb6⟩
    have bq6 := bq5.below hb6
    have hs16 := (hs15.below hb6).more hb6.size
    have hs26 := Sl.more (Sl.below hs25 hb6) hb6.size
    have hs46 := (hs45.below hb6).more hb6.size
    have hs56 := (hs5.below hb6).more hb6.size
    have hqW6 := (hqW5.below hb6).more hb6.size
    have hbel6 := hbel5.trans (hb6.mono hbel5.size)
    clear x0 x1 x2 x3 x4 x5 x6 bp5 bq5 hs15 hs25 hs45 hs5 hpW5 hqW5 hb6 hbel5 Hwtp
    have ⟨x0, x1, x2, x3, x4, x5, x6⟩ := bq6
    go_wp2_with fail
    refine (Hwtq.out w6 hqW6).mono ?_
    rintro e w7 ⟨S7, c7, rfl, hs7, hc7, hm7, hb7⟩
    have hs17 := (hs16.below hb7).more hb7.size
    have hs27 := Sl.more (Sl.below hs26 hb7) hb7.size
    have hs47 := (hs46.below hb7).more hb7.size
    have hs57 := (hs56.below hb7).more hb7.size
    have hs67 := Sl.more (Sl.below hs6 hb7) hb7.size
    have hbel7 := hbel6.trans (hb7.mono hbel6.size)
    clear x0 x1 x2 x3 x4 x5 x6 bq6 hs16 hs26 hs46 hs56 hs6 hqW6 hb7 hbel6 Hwtq
    have hcut := SlP.cut1 (S := fun _ => True) hs17 hn1 hc1
    have Hcut := Lib.hid hcut
    have Hs2 := Lib.hid hs27
    have Hs4 := Lib.hid hs47
    have Hs5 := Lib.hid hs57
    have Hs6 := Lib.hid hs67
    have Hs7 := Lib.hid hs7
    clear hcut hs17 hs27 hs47 hs57 hs67 hs7
    have hi1 : (1 : Int) ≤ n := by omega
    have hi0 : (0 : Int) ≤ 1 := by omega
    have hdr : (F.map bareD).drop 1 = Fp.map bareD ++ Fq.map bareD := by rw [Hfl.out]; simp
    have hn12 := Hln.out
    have hbA : Below w7.heap.size w7 (w7.alloc (.cells #[.slice S4 np c4, .slice S5 nq c5] 37)).drew := ((Below.refl _ w7).alloc (Nat.le_refl _) _).drew
    have hszA : (w7.alloc (.cells #[.slice S4 np c4, .slice S5 nq c5] 37)).drew.heap.size = w7.heap.size + 1 := by show (w7.alloc _).heap.size = _; simp
    have hcat := ConcatP (some ⟨w7.heap.size, 0, none⟩) S4 S5 2 np c4 nq c5 (Fp.map bareD) (Fq.map bareD) (w7.alloc (.cells #[.slice S4 np c4, .slice S5 nq c5] 37)).drew
      (Sl.more (Sl.drew (Sl.row w7 37 1 2 [.slice S4 np c4, .slice S5 nq c5] rfl)) (Nat.le_of_eq hszA.symm)) ((Hs4.out.below hbA).more hbA.size) ((Hs5.out.below hbA).more hbA.size) (by omega)
    have hcut8 := fun (w8 : World) (hb : Below w7.heap.size w7 w8) => ((Hcut.out.below hb).more hb.size)
    have hef := fun (w8 : World) (S8 : Option Addr) (c8 : Nat) (hb : Below w7.heap.size w7 w8) (h8 : SlP (· < w8.heap.size) w8 S8 (np + nq) (Fp.map bareD ++ Fq.map bareD)) =>
      EqualFunc_parts 23 (enters_of Try.func23 (by kernel_rfl) rfl) sameD (cutA S1 c1 1 7) S8 (n - 1) (c1 - 1) (np + nq) c8 w8.heap.size _ _ w8 (hcut8 w8 hb) h8 (Nat.le_refl _) (by unfold maxLen; omega)
        (fun W1 i x y vx vy hx hy hxa hya hb1 => Same_any _ x y vx vy W1 (Nat.le_refl _) hxa hya)
    rw [hdr] at hef
    simp only [all2_refl] at hef
    have Hcat := Lib.hid hcat
    have Hef := Lib.hid hef
    have Hdr := Lib.hid hdr
    have hne : ((n : Int) != n) = false := by simp
    clear hcat hef hdr hcut8 hn12 hszA
    go_wp2_with fail
    refine wp_region_any (by kernel_rfl) ?_
    change wpAny _ _ _ _ _ _ _ (World.drew _)
    refine wpAny_take (i := 0) (v := ?_) rfl (by kernel_rfl) (by kernel_rfl) (by kernel_rfl) (fun _ _ _ h => h) (Or.inl ⟨by kernel_rfl, ?_⟩) ?_
    rotate_left 1
    · intro w; go_simp; try exact rfl
    refine wpAny_take (i := 1) (v := ?_) rfl (by kernel_rfl) (by kernel_rfl) (by kernel_rfl) (fun _ _ _ h => h) (Or.inl ⟨by kernel_rfl, ?_⟩) ?_
    rotate_left 1
    · intro w; go_simp; try exact rfl
    refine wpAny_take (i := 2) (v := ?_) rfl (by kernel_rfl) (by kernel_rfl) (by kernel_rfl) (fun _ _ _ h => h) (Or.inl ⟨by kernel_rfl, ?_⟩) ?_
    rotate_left 1
    · intro w; go_simp; try exact rfl
    refine wpAny_take (i := 3) (v := ?_) rfl (by kernel_rfl) (by kernel_rfl) (by kernel_rfl) (fun _ _ _ h => h) (Or.inl ⟨by kernel_rfl, ?_⟩) ?_
    rotate_left 1
    · intro w; go_simp; try exact rfl
    refine wpAny_take (i := 4) (v := ?_) rfl (by kernel_rfl) (by kernel_rfl) (by kernel_rfl) (fun _ _ _ h => h) (Or.inl ⟨by kernel_rfl, ?_⟩) ?_
    rotate_left 1
    · intro w; go_simp; try exact rfl
    refine wpAny_take (i := 5) (v := ?_) rfl (by kernel_rfl) (by kernel_rfl) (by kernel_rfl) (fun _ _ _ h => h) (Or.inl ⟨by kernel_rfl, ?_⟩) ?_
    rotate_left 1
    · intro w; go_simp; try exact rfl
    refine wpAny_take (i := 6) (v := ?_) rfl (by kernel_rfl) (by kernel_rfl) (by kernel_rfl) (fun _ _ _ h => h) (Or.inl ⟨by kernel_rfl, ?_⟩) ?_
    rotate_left 1
    · intro w; go_simp; try exact rfl
    refine wpAny_take (i := 7) (v := ?_) rfl (by kernel_rfl) (by kernel_rfl) (by kernel_rfl) (fun _ _ _ h => h) (Or.inl ⟨by kernel_rfl, ?_⟩) ?_
    rotate_left 1
    · intro w; go_simp; try exact rfl
    refine wpAny_take (i := 8) (v := ?_) rfl (by kernel_rfl) (by kernel_rfl) (by kernel_rfl) (fun _ _ _ h => h) (Or.inl ⟨by kernel_rfl, ?_⟩) ?_
    rotate_left 1
    · intro w; go_simp; try exact rfl
    refine wpAny_take (i := 9) (v := ?_) rfl (by kernel_rfl) (by kernel_rfl) (by kernel_rfl) (fun _ _ _ h => h) (Or.inl ⟨by kernel_rfl, ?_⟩) ?_
    rotate_left 1
    · intro w; go_simp; try exact rfl
    refine wpAny_take (i := 10) (v := ?_) rfl (by kernel_rfl) (by kernel_rfl) (by kernel_rfl) (fun _ _ _ h => h) (Or.inl ⟨by kernel_rfl, ?_⟩) ?_
    rotate_left 1
    · intro w; go_simp; try exact rfl
    refine wpAny_take (i := 11) (v := ?_) rfl (by kernel_rfl) (by kernel_rfl) (by kernel_rfl) (fun _ _ _ h => h) (Or.inl ⟨by kernel_rfl, ?_⟩) ?_
    rotate_left 1
    · intro w; go_simp; try exact rfl
    refine wpAny_take (i := 12) (v := ?_) rfl (by kernel_rfl) (by kernel_rfl) (by kernel_rfl) (fun _ _ _ h => h) (Or.inl ⟨by kernel_rfl, ?_⟩) ?_
    rotate_left 1
    · intro w; go_simp; try exact rfl
    refine wpAny_take (i := 13) (v := ?_) rfl (by kernel_rfl) (by kernel_rfl) (by kernel_rfl) (fun _ _ _ h => h) (Or.inl ⟨by kernel_rfl, ?_⟩) ?_
    rotate_left 1
    · intro w; go_simp; try exact rfl
    refine wpAny_take (i := 14) (v := ?_) rfl (by kernel_rfl) (by kernel_rfl) (by kernel_rfl) (fun _ _ _ h => h) (Or.inl ⟨by kernel_rfl, ?_⟩) ?_
    rotate_left 1
    · intro w; go_simp; try exact rfl
    refine wpAny_take (i := 15) (v := ?_) rfl (by kernel_rfl) (by kernel_rfl) (by kernel_rfl) (fun _ _ _ h => h) (Or.inl ⟨by kernel_rfl, ?_⟩) ?_
    rotate_left 1
    · intro w; go_simp; try exact rfl
    refine wpAny_take (i := 16) (v := ?_) rfl (by kernel_rfl) (by kernel_rfl) (by kernel_rfl) (fun _ _ _ h => h) (Or.inl ⟨by kernel_rfl, ?_⟩) ?_
    rotate_left 1
    · intro w; go_simp; try exact rfl
    refine wpAny_take (i := 17) (v := ?_) rfl (by kernel_rfl) (by kernel_rfl) (by kernel_rfl) (fun _ _ _ h => h) (Or.inl ⟨by kernel_rfl, ?_⟩) ?_
    rotate_left 1
    · intro w; go_simp; try exact rfl
    refine wpAny_take (i := 18) (v := ?_) rfl (by kernel_rfl) (by kernel_rfl) (by kernel_rfl) (fun _ _ _ h => h) (Or.inl ⟨by kernel_rfl, ?_⟩) ?_
    rotate_left 1
    · intro w; go_simp; try exact rfl
    refine wpAny_take (i := 19) (v := ?_) rfl (by kernel_rfl) (by kernel_rfl) (by kernel_rfl) (fun _ _ _ h => h) (Or.inl ⟨by kernel_rfl, ?_⟩) ?_
    rotate_left 1
    · intro w; go_simp; try exact rfl
    refine wpAny_take (i := 20) (v := ?_) rfl (by kernel_rfl) (by kernel_rfl) (by kernel_rfl) (fun _ _ _ h => h) (Or.inl ⟨by kernel_rfl, ?_⟩) ?_
    rotate_left 1
    · intro w; go_simp; try exact rfl
    refine wpAny_take (i := 21) (v := ?_) rfl (by kernel_rfl) (by kernel_rfl) (by kernel_rfl) (fun _ _ _ h => h) (Or.inl ⟨by kernel_rfl, ?_⟩) ?_
    rotate_left 1
    · intro w; go_simp; try exact rfl
    refine wpAny_take (i := 22) (v := ?_) rfl (by kernel_rfl) (by kernel_rfl) (by kernel_rfl) (fun _ _ _ h => h) (Or.inl ⟨by kernel_rfl, ?_⟩) ?_
    rotate_left 1
    · intro w; go_simp; try exact rfl
    refine wpAny_ready (rs := [23]) (by kernel_rfl) (by simp) ?_
    refine AllReady.cons rfl (fun K hK => ?_) AllReady.nil
    go_simp
    refine hK _ _ ?_
    clear hK K
    refine wpAny_ready (rs := [24]) (by kernel_rfl) (by simp) ?_
    refine AllReady.cons rfl (fun K hK => ?_) AllReady.nil
    go_simp
    refine Hcat.out.mono ?_
    rintro e w8 ⟨S8, c8, rfl, hs8, hb8⟩
    have hbel8 := hbA.trans (hb8.mono hbA.size)
    have Hs8 := Lib.hid hs8
    clear hs8 hb8
    go_simp
    refine hK _ _ ?_
    clear hK K
    refine wpAny_ready (rs := [25]) (by kernel_rfl) (by simp) ?_
    refine AllReady.cons rfl (fun K hK => ?_) AllReady.nil
    go_simp
    refine (Hef.out w8 S8 c8 hbel8 Hs8.out).mono ?_
    rintro e w9 ⟨rfl, hb9⟩
    have hbel9 := hbel8.trans (hb9.mono hbel8.size)
    clear hb9
    go_simp
    refine hK _ _ ?_
    clear hK K
    refine wpAny_take (i := 26) (v := ?_) rfl (by kernel_rfl) (by kernel_rfl) (by kernel_rfl) (fun _ _ _ h => h) (Or.inl ⟨by kernel_rfl, ?_⟩) ?_
    rotate_left 1
    · intro w; go_simp; try exact rfl
    refine wpAny_take (i := 27) (v := ?_) rfl (by kernel_rfl) (by kernel_rfl) (by kernel_rfl) (fun _ _ _ h => h) (Or.inl ⟨by kernel_rfl, ?_⟩) ?_
    rotate_left 1
    · intro w; go_simp; try exact rfl
    refine wpAny_take (i := 28) (v := ?_) rfl (by kernel_rfl) (by kernel_rfl) (by kernel_rfl) (fun _ _ _ h => h) (Or.inl ⟨by kernel_rfl, ?_⟩) ?_
    rotate_left 1
    · intro w; go_simp; try exact rfl
    refine wpAny_take (i := 29) (v := ?_) rfl (by kernel_rfl) (by kernel_rfl) (by kernel_rfl) (fun _ _ _ h => h) (Or.inl ⟨by kernel_rfl, ?_⟩) ?_
    rotate_left 1
    · intro w; go_simp; try exact rfl
    refine wpAny_take (i := 30) (v := ?_) rfl (by kernel_rfl) (by kernel_rfl) (by kernel_rfl) (fun _ _ _ h => h) (Or.inl ⟨by kernel_rfl, ?_⟩) ?_
    rotate_left 1
    · intro w; go_simp; try exact rfl
    refine wpAny_take (i := 31) (v := ?_) rfl (by kernel_rfl) (by kernel_rfl) (by kernel_rfl) (fun _ _ _ h => h) (Or.inl ⟨by kernel_rfl, ?_⟩) ?_
    rotate_left 1
    · intro w; go_simp; try exact rfl
    refine wpAny_take (i := 32) (v := ?_) rfl (by kernel_rfl) (by kernel_rfl) (by kernel_rfl) (fun _ _ _ h => h) (Or.inl ⟨by kernel_rfl, ?_⟩) ?_
    rotate_left 1
    · intro w; go_simp; try exact rfl
    refine wpAny_take (i := 33) (v := ?_) rfl (by kernel_rfl) (by kernel_rfl) (by kernel_rfl) (fun _ _ _ h => h) (Or.inl ⟨by kernel_rfl, ?_⟩) ?_
    rotate_left 1
    · intro w; go_simp; try exact rfl
    refine wpAny_take (i := 34) (v := ?_) rfl (by kernel_rfl) (by kernel_rfl) (by kernel_rfl) (fun _ _ _ h => h) (Or.inl ⟨by kernel_rfl, ?_⟩) ?_
    rotate_left 1
    · intro w; go_simp; try exact rfl
    refine wpAny_done (by kernel_rfl) ?_ _
    clear hbA hbel8 Hcat Hef Hcut Hs4 Hs5 Hs8
    go_simp
    go_wp2_with fail
    have hbB : Below w9.heap.size w9 (w9.alloc (.cells #[.slice S6 np c6, .slice S7 nq c7] 24)) := (Below.refl _ w9).alloc (Nat.le_refl _) _
    have hcat := ConcatI (some ⟨w9.heap.size, 0, none⟩) S6 S7 2 np c6 nq c7 X Y (w9.alloc (.cells #[.slice S6 np c6, .slice S7 nq c7] 24)) (Sl.more (Sl.row w9 24 1 2 [.slice S6 np c6, .slice S7 nq c7] rfl) (by simp))
      (Sl.more (Sl.below (Sl.more (Sl.below Hs6.out hbel9) hbel9.size) hbB) hbB.size) (Sl.more (Sl.below (Sl.more (Sl.below Hs7.out hbel9) hbel9.size) hbB) hbB.size) (by have := Hln.out; omega)
    refine hcat.mono ?_
    clear hcat
    rintro e w10 ⟨S10, c10, rfl, hs10, hb10⟩
    have hb910 := hbB.trans (hb10.mono hbB.size)
    have hbel10 := hbel9.trans (hb910.mono hbel9.size)
    have hs2 := Sl.more (Sl.below Hs2.out hbel10) hbel10.size
    have Hs10 := Lib.hid hs10
    have Hs2' := Lib.hid hs2
    clear hs10 hs2 hb910 hb10 hbB hbel9 Hs6 Hs7 Hs2
    obtain ⟨m, hm⟩ : ∃ m, m = np + nq := ⟨_, rfl⟩
    have Hm := Lib.hid hm
    rw [← hm] at Hs10 ⊢
    clear hm
    go_wp2_with fail
    have hmn : m + 1 = n := by rw [Hm.out, Hln.out]
    have hm12 : n ≤ 12 := h12
    obtain ⟨b2, off2, rfl, _, hci2⟩ := Hs2'.out.2 (by omega)
    have Hci2 := Lib.hid hci2
    have z0 : w10.cell? ⟨b2, off2, none⟩ = some (.int .i64 (-1)) := hci2 0 _ (by simp [iCells, Hw0.out])
    have hlx : (X ++ Y).length = m := by rw [List.length_append, Hwlp.out, Hwlq.out, ← Hm.out]
    have Hlx := Lib.hid hlx
    have Hmn := Lib.hid hmn
    clear hci2 hlx hmn
    go_loopw [102] (fun iv wr => ∃ i : Nat, iv = .int .i64 (i : Nat) ∧ i ≤ m ∧ wr = w10) (fun iv _ => m - (intOf iv).toNat)
    case atStart => exact ⟨0, rfl, Nat.zero_le _, rfl⟩
    case round =>
      obtain ⟨i, rfl, hi, rfl⟩ := hrel
      by_cases him : i < m
      · obtain ⟨v, hv⟩ : ∃ v, (X ++ Y)[i]? = some v := ⟨_, List.getElem?_eq_getElem (by rw [Hlx.out]; exact him)⟩
        obtain ⟨v1, v2, v3, v4, v5⟩ := Hin.out i v hv
        obtain ⟨b, off, hS, _, hci⟩ := Hs10.out.2 (by omega)
        subst hS
        have z1 : wr.cell? ⟨b, off + i, none⟩ = some (.int .i64 v) := hci i _ (by simp only [iCells, List.getElem?_map, hv]; rfl)
        have zT : ∀ t, T[i + 1]? = some t → wr.cell? ⟨b2, off2 + (i + 1), none⟩ = some (.int .i64 t) := fun t ht => Hci2.out (i + 1) _ (by simp only [iCells, List.getElem?_map, ht]; rfl)
        have hin1 : (0 : Int) ≤ i + 1 := by omega
        have hin2 : (i : Int) + 1 < n := by have := Hmn.out; omega
        have wi : IntKind.i64.wrap ((i : Int) + 1) = (i : Int) + 1 := IntWalk.i64_in _ (by omega)
        have wv : IntKind.i64.wrap (v + 1) = v + 1 := IntWalk.i64_in _ (by omega)
        have hnpm : np ≤ 12 := by have := Hm.out; have := Hmn.out; omega
        have wn : IntKind.i64.wrap (v + 1 + np) = v + 1 + np := IntWalk.i64_in _ (by omega)
        have ti : ((i : Int) + 1).toNat = i + 1 := by omega
        have ne1 : (v + 1 != v + 1) = false := by simp
        have ne2 : (v + 1 + (np : Int) != v + 1 + np) = false := by simp
        clear hci hv
        rcases Nat.lt_or_ge i np with hnp' | hnp'
        · have zt := zT _ (v3 hnp')
          have d1 : decide ((np : Int) ≤ i) = false := by simp; omega
          clear v3 v4 v5 zT
          go_wp2_with fail
          exact ⟨⟨i + 1, by go_num, by omega, trivial⟩, by simp [intOf]; omega⟩
        · have d1 : decide ((np : Int) ≤ i) = true := by simp; omega
          by_cases hv0 : v < 0
          · have zt := zT _ (v4 hnp' hv0)
            have d2 : decide (0 ≤ v) = false := by simp; omega
            clear v3 v4 v5 zT
            go_wp2_with fail
            exact ⟨⟨i + 1, by go_num, by omega, trivial⟩, by simp [intOf]; omega⟩
          · have zt := zT _ (v5 hnp' (by omega))
            have d2 : decide (0 ≤ v) = true := by simp; omega
            clear v3 v4 v5 zT
            go_wp2_with fail
            exact ⟨⟨i + 1, by go_num, by omega, trivial⟩, by simp [intOf]; omega⟩
      · go_wp2_with fail
        go_ret
        exact ⟨rfl, hbel7.trans (hbel10.mono hbel7.size)⟩
  · have hR1 : ((R : Int) != 0) = true := by simp; omega
    simp only [if_neg hR] at Hal Hwt
    clear hok hR hcp hin hfl hw0 hwl hln hwlp hwlq bp bq Halp Halq Hwtp Hwtq
    go_enter Try.func7, Try.ntmps7
    go_wp2_with fail
    rw [← hW]
    clear hW
    refine (Hal.out W HwW.out).mono ?_
    rintro e w1 ⟨S1, c1, rfl, hs1, hc1, hm1, hb1⟩
    have bw1 := bw.below hb1
    have ⟨x0, x1, x2, x3, x4, x5, x6⟩ := bw1
    have hwW1 := (HwW.out.below hb1).more hb1.size
    have hbel1 := hbW.trans (hb1.mono hbW.size)
    clear bw bw1 hb1 hbW HwW HpW HqW Hal hs1
    go_wp2_with fail
    refine (Hwt.out w1 hwW1).mono ?_
    rintro e w2 ⟨S2, cc2, rfl, hs2, hc2, hm2, hb2⟩
    have hbel2 := hbel1.trans (hb2.mono hbel1.size)
    clear hwW1 hb2 hbel1 x0 x1 x2 x3 x4 x5 x6 Hwt hs2
    go_wp2_with fail
    refine (parted_any _).mono ?_
    rintro e w3 ⟨rfl, hb3⟩
    have hbel3 := hbel2.trans (hb3.mono hbel2.size)
    go_wp2_with fail
    refine (parted_any _).mono ?_
    rintro e w4 ⟨rfl, hb4⟩
    have hbel4 := hbel3.trans (hb4.mono hbel3.size)
    go_wp2_with fail
    go_ret
    exact ⟨rfl, hbel4⟩
end Go.Proofs.Ytoolfhjlhhcbgaa

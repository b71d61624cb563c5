import Derived.Test.YtinfjdfhkfhgjaaGreatDoorU1
import Derived.Test.YtinfjdfhkfhgjaaGreatDoorU8
import Derived.Test.YtinfjdfhkfhgjaaGreatDoorU4
import Derived.Test.YtinfjdfhkfhgjaaGreatDoorU11
import Derived.Laws.EntriesVeiled
import Derived.Test.YtinfjdfhkfhgjaaGreatDoorU12
import Derived.Test.YtinfjdfhkfhgjaaGreatDoorU5
import Derived.Test.YtinfjdfhkfhgjaaGreatDoorU9
import Derived.Test.YtinfjdfhkfhgjaaGreatDoorU3
import Derived.Test.YtinfjdfhkfhgjaaGreatDoorU10
set_option maxRecDepth 100000
set_option maxHeartbeats 40000000
namespace Go.Proofs.YtinfjdfhkfhgjaaGreatDoor
mutual
/-- sized, where so deep may still be gone. -/
def sizedD : Nat → PartD → Nat × Nat
 | 0, _ => (0, 99)
 | k + 1, ⟨_, _, _, _, _, _, parts⟩ => sizedsD k 1 0 parts
/-- Its loop. -/
def sizedsD (k : Nat) : Nat → Nat → List PartD → Nat × Nat
 | many, deep, [] => (many, deep + 1)
 | many, deep, p :: ps => if 100 < many + (sizedD k p).1 ∨ 50 < max deep (sizedD k p).2 then (100, 99) else sizedsD k (many + (sizedD k p).1) (max deep (sizedD k p).2) ps
end
def overD (k : Nat) (r : Nat × Nat) : Prop := 12 < r.1 ∨ k < r.2
theorem sizedsD_over (k : Nat) (_hk : k ≤ 50) : ∀ (ps : List PartD) (many deep : Nat), (12 < many ∨ k < deep) → overD (k + 1) (sizedsD k many deep ps) := by
 intro ps
 induction ps with
 | nil =>
  intro many deep h
  rw [sizedsD]
  rcases h with h | h
  · exact .inl h
  · exact .inr (Nat.succ_lt_succ h)
 | cons p ps ih =>
  intro many deep h
  rw [sizedsD]
  split
  · exact .inl (by show 12 < 100; omega)
  · exact ih _ _ (by omega)
/-- What the two say of each other. -/
def LawSz (k : Nat) (p : PartD) : Prop := (cntD k p = none → overD k (sizedD k p)) ∧ ∀ c, cntD k p = some c → ∃ d, sizedD k p = (c, d) ∧ d ≤ k
theorem sizeds_law (k : Nat) (hk : k ≤ 50) (ihp : ∀ p, LawSz k p) : ∀ (ps : List PartD) (n deep : Nat), n ≤ 12 → deep ≤ k →
 (cntsD k n ps = none → overD (k + 1) (sizedsD k n deep ps)) ∧ ∀ c, cntsD k n ps = some c → ∃ d, sizedsD k n deep ps = (c, d) ∧ d ≤ k + 1 := by
 intro ps
 induction ps with
 | nil =>
  intro n deep hn hd
  rw [cntsD, sizedsD]
  refine ⟨fun h => (by cases h), fun c h => ?_⟩
  injection h with h
  subst h
  exact ⟨_, rfl, by omega⟩
 | cons p ps ih =>
  intro n deep hn hd
  obtain ⟨l1, l2⟩ := ihp p
  rw [cntsD_cons, sizedsD]
  cases hc : cntD k p with
  | none =>
   have ho := l1 hc
   unfold overD at ho
   refine ⟨fun _ => ?_, fun c h => (by cases h)⟩
   split
   · exact .inl (by show 12 < 100; omega)
   · exact sizedsD_over k hk _ _ _ (by omega)
  | some c =>
   obtain ⟨d, hs, hdk⟩ := l2 c hc
   rw [hs]
   have hc12 := (cntD_le k p c hc).2
   show (cntNext k n ps (some c) = none → _) ∧ ∀ c', cntNext k n ps (some c) = some c' → _
   unfold cntNext
   have hmax : max deep d ≤ k := Nat.max_le.2 ⟨hd, hdk⟩
   rw [if_neg (by simp only; omega)]
   simp only
   by_cases h12 : 12 < n + c
   · rw [if_pos h12]
     exact ⟨fun _ => sizedsD_over k hk _ _ _ (.inl h12), fun c' h => (by cases h)⟩
   · rw [if_neg h12]
     exact ih (n + c) (max deep d) (by omega) hmax
theorem sized_law : ∀ (k : Nat), k ≤ 50 → ∀ p, LawSz k p := by
 intro k
 induction k with
 | zero =>
  intro _ p
  refine ⟨fun _ => ?_, fun c h => ?_⟩
  · rw [sizedD]; exact .inr (by show 0 < 99; omega)
  · rw [cntD] at h; cases h
 | succ k ih =>
  intro hk p
  obtain ⟨t, cs, id, loc, how, body, parts⟩ := p
  unfold LawSz
  rw [cntD, sizedD]
  exact sizeds_law k (by omega) (ih (by omega)) parts 1 0 (by omega) (by omega)
theorem sizedD_succ (k : Nat) (p : PartD) : sizedD (k + 1) p = sizedsD k 1 0 p.parts := by cases p; rw [sizedD]
theorem checkD_sized (p : PartD) : checkD p = if 12 < (sizedD 3 p).1 ∨ 3 < (sizedD 3 p).2 then 2 else firstErr (flatD p) := by
 obtain ⟨l1, l2⟩ := sized_law 3 (by omega) p
 cases hc : cntD 3 p with
 | none => have h := l1 hc; unfold overD at h; rw [checkD_none p hc, if_pos h]
 | some c =>
  obtain ⟨d, hs, hd⟩ := l2 c hc
  have := (cntD_le 3 p c hc).2
  rw [checkD_some p c hc, hs, if_neg (by simp only; omega)]
/-- It stays small. -/
theorem sizedsD_small (k : Nat) : ∀ (ps : List PartD) (many deep : Nat), many ≤ 100 → deep ≤ 50 → (sizedsD k many deep ps).1 ≤ 100 ∧ (sizedsD k many deep ps).2 ≤ 99 := by
 intro ps
 induction ps with
 | nil => intro many deep h1 h2; rw [sizedsD]; exact ⟨h1, by show deep + 1 ≤ 99; omega⟩
 | cons p ps ih =>
  intro many deep h1 h2
  rw [sizedsD]
  split
  · exact ⟨by show 100 ≤ 100; omega, by show 99 ≤ 99; omega⟩
  · exact ih _ _ (by omega) (by omega)
theorem sizedD_small (k : Nat) (p : PartD) : (sizedD k p).1 ≤ 100 ∧ (sizedD k p).2 ≤ 99 := by
 cases k with
 | zero => rw [sizedD]; exact ⟨by show 0 ≤ 100; omega, by show 99 ≤ 99; omega⟩
 | succ k => rw [sizedD_succ]; exact sizedsD_small k _ 1 0 (by omega) (by omega)
end Go.Proofs.YtinfjdfhkfhgjaaGreatDoor
namespace Go.Proofs.YtinfjdfhkfhgjaaGreatDoor
open Go.RowKit
def szVal (r : Nat × Nat) : Value := .tuple #[.int .i64 (r.1 : Nat), .int .i64 (r.2 : Nat)]
def SzRel (k n2 : Nat) (ps : List PartD) (R : Nat × Nat) (w0 : World) (mv dv iv : Value) (wr : World) : Prop :=
 ∃ i m d : Nat, mv = .int .i64 (m : Nat) ∧ dv = .int .i64 (d : Nat) ∧ iv = .int .i64 (i : Nat) ∧ i ≤ n2 ∧ m ≤ 100 ∧ d ≤ 50 ∧ Hid (sizedsD k m d (ps.drop i) = R) ∧ Below w0.heap.size w0 wr
theorem sizedsD_cons (k m d : Nat) (p : PartD) (ps : List PartD) : sizedsD k m d (p :: ps) = if 100 < m + (sizedD k p).1 ∨ 50 < max d (sizedD k p).2 then (100, 99) else sizedsD k (m + (sizedD k p).1) (max d (sizedD k p).2) ps := by rw [sizedsD]
theorem sized_any (k : Nat) : ∀ (p : PartD) (v : List Value) (w : World), k ≤ 3 → PartAt (· < w.heap.size) w p v →
 Calls Tryz.prog 23 #[.agg v.toArray, .int .i64 (k : Nat)] w fun e w' => e = .returned (szVal (sizedD k p)) ∧ Below w.heap.size w w' := by
 induction k with
 | zero =>
  intro p v w hk hp
  obtain ⟨t, cs, id, loc, how, body, parts⟩ := p
  obtain ⟨A, n, c, A2, n2, c2, rows, rfl, _⟩ := hp
  have e : sizedD 0 ⟨t, cs, id, loc, how, body, parts⟩ = (0, 99) := by rw [sizedD]
  rw [e]
  clear e
  go_enter Tryz.func23, Tryz.ntmps23
  go_wp2_with fail
  go_ret2
  exact ⟨rfl, (Below.refl _ _).alloc (Nat.le_refl _) _⟩
 | succ k ih =>
  intro p v w hk hp
  obtain ⟨t, cs, id, loc, how, body, parts⟩ := p
  obtain ⟨A, n, c, A2, n2, c2, rows, rfl, _, _, _, _, hsl, hnc, hcm, hps⟩ := hp
  have hP : SlP (· < w.heap.size) w A2 n2 parts := ⟨rows, hsl, hps⟩
  have e : sizedD (k + 1) ⟨t, cs, id, loc, how, body, parts⟩ = sizedsD k 1 0 parts := by rw [sizedD]
  rw [e]
  obtain ⟨R, hR⟩ : ∃ R, sizedsD k 1 0 parts = R := ⟨_, rfl⟩
  rw [hR]
  have HR := Lib.hid hR
  have Hih := Lib.hid ih
  have hk1 : (((k + 1 : Nat) : Int) == 0) = false := by simp; omega
  have hk2 : IntKind.i64.wrap (((k + 1 : Nat) : Int) - 1) = (k : Int) := by rw [IntKind.wrap_i64]; omega
  have hn2 : n2 ≤ 9223372036854775807 := by unfold maxLen at hcm; omega
  obtain ⟨k1, hk3⟩ : ∃ k1 : Int, k1 = ((k + 1 : Nat) : Int) := ⟨_, rfl⟩
  rw [← hk3] at hk1 hk2 ⊢
  clear hsl hps e hR ih hcm hk3
  go_enter Tryz.func23, Tryz.ntmps23
  go_wp2_with fail
  go_loopw [4, 5, 15] (SzRel k n2 parts R w) (fun _ _ iv _ => n2 - (intOf iv).toNat)
  case atStart => exact ⟨0, 1, 0, rfl, rfl, rfl, by omega, by omega, by omega, HR.out, (Below.refl _ w).alloc (Nat.le_refl _) _⟩
  case round =>
   clear HR
   obtain ⟨i, m, d, rfl, rfl, rfl, hi, hm, hd, hE, hbel⟩ := hrel
   by_cases hin : i < n2
   · have hPr := hP.below hbel
     obtain ⟨b, off, q, A', n', c', A2', n2', c2', rfl, hbS, hq, hqa, x0, x1, x2, x3, x4, x5, x6⟩ := hPr.cells7 hin
     have hE2 : Hid (sizedsD k m d (q :: parts.drop (i + 1)) = R) := by show _ = R; rw [← hE.out, hq]
     clear hq hPr hP hE
     go_wp2_with fail
     have hqa2 := (hqa.below ((Below.refl w.heap.size wr).alloc hbel.size (.cells #[str q.type, str q.cs, str q.id, str q.loc, .int .i64 q.how, .slice A' n' c', .slice A2' n2' c2'] 25))).more (C := (wr.alloc (.cells #[str q.type, str q.cs, str q.id, str q.loc, .int .i64 q.how, .slice A' n' c', .slice A2' n2' c2'] 25)).heap.size) (by have := hbel.size; simp; omega)
     have hb0 := hbel.alloc hbel.size (.cells #[str q.type, str q.cs, str q.id, str q.loc, .int .i64 q.how, .slice A' n' c', .slice A2' n2' c2'] 25)
     have hsm := sizedD_small k q
     have hcl := Hih.out q _ _ (by omega) hqa2
     have hE3 : Hid (R = if 100 < m + (sizedD k q).1 ∨ 50 < max d (sizedD k q).2 then (100, 99) else sizedsD k (m + (sizedD k q).1) (max d (sizedD k q).2) (parts.drop (i + 1))) := by show R = _; rw [← hE2.out, sizedsD_cons]
     generalize sizedD k q = o at hcl hsm hE3
     obtain ⟨om, od⟩ := o
     simp only [szVal] at hcl hsm hE3
     clear x0 x1 x2 x3 x4 x5 x6 hqa hqa2 hE2
     have hmax : max (d : Int) (od : Int) = ((max d od : Nat) : Int) := by omega
     obtain ⟨d2, hd2⟩ : ∃ d2, d2 = max d od := ⟨_, rfl⟩
     rw [← hd2] at hmax hE3
     have hd99 : d2 ≤ 99 := by omega
     have Hd2 := Lib.hid hd2
     clear hd2
     by_cases h1 : 100 < m + om
     · obtain rfl : R = (100, 99) := by rw [hE3.out, if_pos (.inl h1)]
       have d1 : decide ((100 : Int) < (m : Int) + om) = true := by simp; omega
       refine hcl.mono ?_
       clear hcl hE3
       rintro e w1 ⟨rfl, hb1⟩
       have hbel1 := hb0.trans (hb1.mono hb0.size)
       go_wp2_with fail
       go_ret2
       exact ⟨rfl, hbel1⟩
     · have d1 : decide ((100 : Int) < (m : Int) + om) = false := by simp; omega
       by_cases h2 : 50 < d2
       · obtain rfl : R = (100, 99) := by rw [hE3.out, if_pos (.inr h2)]
         have d3 : decide ((50 : Int) < (d2 : Int)) = true := by simp; omega
         refine hcl.mono ?_
         clear hcl hE3
         rintro e w1 ⟨rfl, hb1⟩
         have hbel1 := hb0.trans (hb1.mono hb0.size)
         go_wp2_with fail
         go_ret2
         exact ⟨rfl, hbel1⟩
       · have d3 : decide ((50 : Int) < (d2 : Int)) = false := by simp; omega
         have hE4 : Hid (sizedsD k (m + om) d2 (parts.drop (i + 1)) = R) := by show _ = R; rw [hE3.out, if_neg (by omega)]
         refine hcl.mono ?_
         clear hcl hE3
         rintro e w1 ⟨rfl, hb1⟩
         have hbel1 := hb0.trans (hb1.mono hb0.size)
         go_wp2_with fail
         exact ⟨⟨i + 1, m + om, d2, by go_num, by rfl, by go_num, by omega, by omega, by omega, hE4, hbel1⟩, by simp [intOf]; omega⟩
   · have hR : (m, d + 1) = R := by rw [← hE.out, List.drop_of_length_le (by rw [hP.len]; omega), sizedsD]
     subst hR
     clear hE
     go_wp2_with fail
     go_ret2
     exact ⟨rfl, hbel⟩
def FlatRel (B : Nat) (parts all : List PartD) (n2 : Nat) (w0 W : World) (lv iv : Value) (wr : World) : Prop :=
 ∃ i m c S done rows, lv = .slice S m c ∧ iv = .int .i64 (i : Nat) ∧ i ≤ n2 ∧ wr.ownsRow w0.heap.size 25 7 (.slice S m c) m rows.flatten ∧ PartsAt (· < B) wr done rows ∧
  Hid (done ++ flatsD (parts.drop i) = all ∧ done.length = m) ∧ 1 ≤ m ∧ Below W.heap.size W wr
theorem Flat_any (k : Nat) : ∀ (p : PartD) (v : List Value) (B : Nat) (w : World), (flatD p).length ≤ k → k ≤ 1000 → B ≤ w.heap.size → PartAt (· < B) w p v →
 Calls Tryz.prog 24 #[.agg v.toArray] w (AllRes B (flatD p) w) := by
 induction k with
 | zero => intro p v B w h; rw [flatD_eq] at h; simp at h
 | succ k ih =>
  intro p v B w hk hk1 hB hp
  obtain ⟨A, c, A2, c2, rfl, _, _, _, _, hP, hc2, hcm⟩ := hp.open
  have hall := flatD_eq p
  have hrow : PartsAt (· < B) w [p] [[str p.type, str p.cs, str p.id, str p.loc, .int .i64 p.how, .slice A p.body.length c, .slice A2 p.parts.length c2]] := ⟨_, _, rfl, hp, rfl⟩
  obtain ⟨n2, hn2⟩ : ∃ n2, n2 = p.parts.length := ⟨_, rfl⟩
  rw [← hn2] at hP hrow hc2 ⊢
  obtain ⟨L, hL⟩ : ∃ L, L = flatD p := ⟨_, rfl⟩
  rw [← hL] at hall hk ⊢
  have hn2m : n2 ≤ 9223372036854775807 := by unfold maxLen at hcm; omega
  have Hall := Lib.hid hall
  have Hn2 := Lib.hid hn2
  have Hih := Lib.hid ih
  have hk1000 : L.length ≤ 1000 := by omega
  have Hk := Lib.hid hk
  obtain ⟨W, hW⟩ : ∃ W, W = (w.alloc (.cells #[str p.type, str p.cs, str p.id, str p.loc, .int .i64 p.how, .slice A p.body.length c, .slice A2 n2 c2] 25)).alloc (.cells #[str p.type, str p.cs, str p.id, str p.loc, .int .i64 p.how, .slice A p.body.length c, .slice A2 n2 c2] 25) := ⟨_, rfl⟩
  have hbW : Below w.heap.size w W := by rw [hW]; exact ((Below.refl _ w).alloc (Nat.le_refl _) _).alloc (by simp) _
  have hbx : Box7 W w.heap.size (str p.type) (str p.cs) (str p.id) (str p.loc) (.int .i64 p.how) (.slice A p.body.length c) (.slice A2 n2 c2) := by
   rw [hW]; exact (Box7.new w _ _ _ _ _ _ _ _).below ((Below.refl _ _).alloc (Nat.le_refl _) _)
  have hown0 : W.ownsRow w.heap.size 25 7 (.slice (some ⟨w.heap.size + 1, 0, none⟩) 1 1) 1 [[str p.type, str p.cs, str p.id, str p.loc, .int .i64 p.how, .slice A p.body.length c, .slice A2 n2 c2]].flatten :=
   ⟨rfl, .inr ⟨w.heap.size + 1, 1, _, rfl, Nat.le_succ _, by
    rw [hW]
    have := heap_alloc_new (w.alloc (.cells #[str p.type, str p.cs, str p.id, str p.loc, .int .i64 p.how, .slice A p.body.length c, .slice A2 n2 c2] 25)) (.cells #[str p.type, str p.cs, str p.id, str p.loc, .int .i64 p.how, .slice A p.body.length c, .slice A2 n2 c2] 25); simpa using this, Nat.le_refl _, by unfold maxLen; omega, rfl, rfl⟩⟩
  have Hown0 := Lib.hid hown0
  clear hall hL hn2 ih hk hcm hp hown0
  go_enter Tryz.func24, Tryz.ntmps24
  go_wp2_with fail
  rw [← hW]
  clear hW
  go_loopw [3, 4] (FlatRel B p.parts L n2 w W) (fun _ iv _ => n2 - (intOf iv).toNat)
  case atStart => exact ⟨0, 1, 1, some ⟨w.heap.size + 1, 0, none⟩, [p], _, rfl, rfl, Nat.zero_le _, Hown0.out, PartsAt.change (fun _ h => h) (fun a ha => hbW.cell (Nat.lt_of_lt_of_le ha hB)) _ _ hrow, ⟨Hall.out.symm, rfl⟩, Nat.le_refl _, Below.refl _ _⟩
  case round =>
   clear Hown0
   obtain ⟨i, m, cl, S, done, rows, rfl, rfl, hi, hown, hrows, hE, hm1, hbelW⟩ := hrel
   have hbel := hbW.trans (hbelW.mono hbW.size)
   have ⟨y0, y1, y2, y3, y4, y5, y6⟩ := hbx.below hbelW
   clear y0 y1 y2 y3 y4 y5
   by_cases hin : i < n2
   · have hPr := hP.belowN hbel hB
     obtain ⟨b, off, q, A', n', c', A2', n2', c2', rfl, hbS, hq, hqa, x0, x1, x2, x3, x4, x5, x6⟩ := hPr.cells7 hin
     have hE1 := hE.out.1
     rw [hq, flatsD] at hE1
     have hlq : (flatD q).length ≤ k ∧ m + (flatD q).length ≤ 1000 := by
      have h1 := congrArg List.length hE1
      have h2 := Hk.out
      have h3 := hE.out.2
      simp only [List.length_append] at h1
      omega
     have hcl := Hih.out q _ B wr hlq.1 (by omega) (Nat.le_trans hB hbel.size) hqa
     have hE2 : Hid ((done ++ flatD q) ++ flatsD (p.parts.drop (i + 1)) = L ∧ (done ++ flatD q).length = m + (flatD q).length) := ⟨by rw [List.append_assoc]; exact hE1, by rw [List.length_append, hE.out.2]⟩
     generalize flatD q = F at hcl hE2 hlq
     have Hcl := Lib.hid hcl
     have Hown := Lib.hid hown
     have Hrows := Lib.hid hrows
     clear hE hE1 hq hqa hcl hPr hown hrows
     go_wp2_with fail
     clear x0 x1 x2 x3 x4 x5 x6 y6
     refine Hcl.out.mono ?_
     rintro e w1 ⟨S2, c2, rows2, rfl, hown2, hrows2, hb1⟩
     have hown1 := own_below Hown.out hb1
     have hrows1 := PartsAt.change (fun _ h => h) (fun a ha => hb1.cell (Nat.lt_of_lt_of_le ha (Nat.le_trans hB hbel.size))) _ _ Hrows.out
     have hbel1 := hbel.trans (hb1.mono hbel.size)
     have hbelW1 := hbelW.trans (hb1.mono hbelW.size)
     have hone1 := PartsAt.one _ _ hrows1
     have hone2 := PartsAt.one _ _ hrows2
     have hsl1 := Sl.of_own hown1
     have hsl2 := Sl.of_own hown2
     clear Hcl Hown Hrows hown1 hown2 hb1 hbelW hbel
     go_wp2_with fail
     have hbA := (Below.refl w1.heap.size w1).alloc (Nat.le_refl _) (.cells #[.slice S m cl, .slice S2 F.length c2] 23)
     have hszA : (w1.alloc (.cells #[.slice S m cl, .slice S2 F.length c2] 23)).heap.size = w1.heap.size + 1 := by simp
     have hSl := Sl.row w1 23 1 2 [.slice S m cl, .slice S2 F.length c2] rfl
     have hcat := Concat_Part (some ⟨w1.heap.size, 0, none⟩) S S2 2 m cl F.length c2 rows.flatten rows2.flatten (w1.alloc (.cells #[.slice S m cl, .slice S2 F.length c2] 23)) (by rw [hszA]; exact hSl) ((hsl1.below hbA).more hbA.size) ((hsl2.below hbA).more hbA.size) hone1 hone2 (by omega)
     refine hcat.mono ?_
     clear hcat hSl hsl1 hsl2 hone1 hone2
     rintro e w4 ⟨S4, c4, rfl, hown4, hb4⟩
     have hb14 := hbA.trans (hb4.mono hbA.size)
     have hbel4 := hbel1.trans (hb14.mono hbel1.size)
     have hbelW4 := hbelW1.trans (hb14.mono hbelW1.size)
     have hr1 := PartsAt.change (fun _ h => h) (fun a ha => hb14.cell (Nat.lt_of_lt_of_le ha (Nat.le_trans hB hbel1.size))) _ _ hrows1
     have hr2 := PartsAt.change (fun _ h => h) (fun a ha => hb14.cell (Nat.lt_of_lt_of_le ha (Nat.le_trans hB hbel1.size))) _ _ hrows2
     have hs1 := hbel1.size
     have hown5 := own_base (base' := w.heap.size) hown4 (by rw [hszA]; omega)
     clear hrows1 hrows2 hown4 hb4 hb14
     go_wp2_with fail
     exact ⟨⟨i + 1, m + F.length, c4, S4, done ++ F, rows ++ rows2, rfl, by go_num, by omega, by rw [List.flatten_append]; exact hown5, PartsAt.app _ _ _ _ hr1 hr2, hE2, by omega, hbelW4⟩, by simp [intOf]; omega⟩
   · have hE1 : Hid (done = L ∧ L.length = m) := by
      have h1 := hE.out.1
      rw [List.drop_of_length_le (by rw [hP.len]; omega), flatsD, List.append_nil] at h1
      exact ⟨h1, by rw [← h1]; exact hE.out.2⟩
     clear hE
     go_wp2_with fail
     go_ret
     obtain ⟨rfl, rfl⟩ := hE1.out
     exact ⟨S, cl, rows, rfl, hown, hrows, hbel⟩
def DocRel (L : List PartD) (R : Nat) (w1 : World) (iv : Value) (wr : World) : Prop :=
 ∃ i : Nat, iv = .int .i64 (i : Nat) ∧ i ≤ L.length ∧ Hid (firstErr (L.drop i) = R) ∧ Below w1.heap.size w1 wr
/-- What stands behind one part's test. -/
def thenErr (e f : Nat) : Nat := if e = 0 then f else e
theorem firstErr_cons (q : PartD) (L : List PartD) : firstErr (q :: L) = thenErr (chkD q) (firstErr L) := rfl
theorem CheckPart_any (p : PartD) (v : List Value) (w : World) (hp : PartAt (· < w.heap.size) w p v) (hT : U8Ok w) :
 Calls Tryz.prog 7 #[.agg v.toArray] w fun e w' => e = .returned (.int .i64 (checkD p : Nat)) ∧ Below w.heap.size w w' := by
 have hck := checkD_sized p
 have hsl := sized_law 3 (by omega) p
 have hfl := cntD_flat 3 p
 have hcle := cntD_le 3 p
 have hsm := sizedD_small 3 p
 obtain ⟨A, c, A2, c2, rfl, _⟩ := hp.open
 obtain ⟨W, hW⟩ : ∃ W, W = w.alloc (.cells #[str p.type, str p.cs, str p.id, str p.loc, .int .i64 p.how, .slice A p.body.length c, .slice A2 p.parts.length c2] 25) := ⟨_, rfl⟩
 have hbW : Below w.heap.size w W := by rw [hW]; exact (Below.refl _ w).alloc (Nat.le_refl _) _
 have hbx : Box7 W w.heap.size (str p.type) (str p.cs) (str p.id) (str p.loc) (.int .i64 p.how) (.slice A p.body.length c) (.slice A2 p.parts.length c2) := by rw [hW]; exact Box7.new w _ _ _ _ _ _ _ _
 have hpW := hp.below hbW
 have hct := sized_any 3 p _ W (by omega) (hpW.more hbW.size)
 obtain ⟨n2, hn2⟩ : ∃ n2, n2 = p.parts.length := ⟨_, rfl⟩
 obtain ⟨n1, hn1⟩ : ∃ n1, n1 = p.body.length := ⟨_, rfl⟩
 have Hp := Lib.hid hp
 have HT := Lib.hid hT
 have ⟨x0, x1, x2, x3, x4, x5, x6⟩ := hbx
 obtain ⟨l1, l2⟩ := hsl
 generalize checkD p = R at hck ⊢
 rcases hsz : sizedD 3 p with ⟨many, deep⟩
 rw [hsz] at hct hck l1 l2 hsm
 simp only [szVal] at hct
 simp only at hck hsm
 by_cases hov : 12 < many ∨ 3 < deep
 · obtain rfl : R = 2 := by rw [hck, if_pos hov]
   have Hct := Lib.hid hct
   clear hct hck l1 l2 hfl hcle hpW hp hn1 hn2 hsz hT
   by_cases hm : 12 < many
   · have d1 : decide ((12 : Int) < (many : Int)) = true := by simp; omega
     clear hov
     go_enter Tryz.func7, Tryz.ntmps7
     go_wp2_with fail
     rw [← hW]
     clear hW
     refine Hct.out.mono ?_
     rintro e w1 ⟨rfl, hb1⟩
     clear x0 x1 x2 x3 x4 x5 x6
     go_wp2_with fail
     go_ret
     exact ⟨rfl, hbW.trans (hb1.mono hbW.size)⟩
   · have d1 : decide ((12 : Int) < (many : Int)) = false := by simp; omega
     have d2 : decide ((3 : Int) < (deep : Int)) = true := by simp; omega
     clear hov
     go_enter Tryz.func7, Tryz.ntmps7
     go_wp2_with fail
     rw [← hW]
     clear hW
     refine Hct.out.mono ?_
     rintro e w1 ⟨rfl, hb1⟩
     clear x0 x1 x2 x3 x4 x5 x6
     go_wp2_with fail
     go_ret
     exact ⟨rfl, hbW.trans (hb1.mono hbW.size)⟩
 · have d1 : decide ((12 : Int) < (many : Int)) = false := by simp; omega
   have d2 : decide ((3 : Int) < (deep : Int)) = false := by simp; omega
   have hR : R = firstErr (flatD p) := by rw [hck, if_neg hov]
   have hlen : (flatD p).length ≤ 12 := by
    cases hc : cntD 3 p with
    | none => have := l1 hc; unfold overD at this; simp only at this; omega
    | some c0 => have h1 := hfl c0 hc; have h2 := hcle c0 hc; omega
   obtain ⟨L, hL⟩ : ∃ L, L = flatD p := ⟨_, rfl⟩
   rw [← hL] at hR hlen
   have HR := Lib.hid hR
   have HL := Lib.hid hL
   have Hct := Lib.hid hct
   clear hct hck l1 l2 hfl hcle hpW hp hn1 hn2 hsz hov hR hL hT
   go_enter Tryz.func7, Tryz.ntmps7
   go_wp2_with fail
   rw [← hW]
   clear hW
   refine Hct.out.mono ?_
   clear Hct
   rintro e w1 ⟨rfl, hb1⟩
   have hbx1 := hbx.below hb1
   have hbel1 := hbW.trans (hb1.mono hbW.size)
   have hp1 := Hp.out.below hbel1
   have hal := Flat_any 12 p _ w.heap.size w1 (by rw [← HL.out]; exact hlen) (by omega) hbel1.size hp1
   rw [← HL.out] at hal
   have Hal := Lib.hid hal
   clear x0 x1 x2 x3 x4 x5 x6
   have ⟨x0, x1, x2, x3, x4, x5, x6⟩ := hbx1
   clear hbx hbx1 hp1 hal hb1 hbW
   go_wp2_with fail
   refine Hal.out.mono ?_
   clear Hal x0 x1 x2 x3 x4 x5 x6
   rintro e w2 ⟨S, c3, rows, rfl, hown, hrows, hb2⟩
   have hbel2 := hbel1.trans (hb2.mono hbel1.size)
   have hP := AllRes.slp hown hrows hbel2.size
   clear hown hrows
   go_wp2_with fail
   go_loopw [22] (DocRel L R w2) (fun iv _ => L.length - (intOf iv).toNat)
   case atStart => exact ⟨0, rfl, Nat.zero_le _, HR.out.symm, Below.refl _ _⟩
   case round =>
    obtain ⟨i, rfl, hi, hE, hbel⟩ := hrel
    by_cases hin : i < L.length
    · have hPr := hP.below hbel
      obtain ⟨b, off, q, A', n', c', A2', n2', c2', rfl, hbS, hq, hqa, x0, x1, x2, x3, x4, x5, x6⟩ := hPr.cells7 hin
      obtain ⟨A9, c9, A8, c8, hv, ⟨b1, b2, b3, b4, b5, b6⟩, _, b7, b8, _, b9, b10⟩ := hqa.open
      simp only [List.cons.injEq, Value.slice.injEq, and_true, true_and] at hv
      obtain ⟨⟨rfl, rfl, rfl⟩, rfl, rfl, rfl⟩ := hv
      have hE2 : Hid (R = thenErr (chkD q) (firstErr (L.drop (i + 1)))) := by show R = _; rw [← hE.out, hq, firstErr_cons]
      unfold chkD at hE2
      have h1 := fun W => IsMany_any q.type W b1
      have h2 := fun W h => IsType_any q.type W b1 h
      have h3 := fun W => IsToken_any q.cs W b2
      have h4 := fun W => IsWord_any q.id W b3
      have h5 := fun W => IsWord_any q.loc W b4
      generalize typB q.type = ty at h2 hE2
      generalize tokB q.cs = tk at h3 hE2
      generalize wordB q.id = wi at h4 hE2
      generalize wordB q.loc = wl at h5 hE2
      generalize manyB q.type = m at h1 hE2
      generalize hce : (q.cs == ([] : List UInt8)) = ce at hE2
      have HCE := Lib.hid hce
      have H1 := Lib.hid h1
      have H2 := Lib.hid h2
      have H3 := Lib.hid h3
      have H4 := Lib.hid h4
      have H5 := Lib.hid h5
      have hn4 : q.body.length ≤ 9223372036854775807 := by unfold maxLen at b8; omega
      have hn5 : q.parts.length ≤ 9223372036854775807 := by unfold maxLen at b10; omega
      generalize q.body.length = n at *
      generalize q.parts.length = n2 at *
      have hbA := hbel.alloc hbel.size (.cells #[str q.type, str q.cs, str q.id, str q.loc, .int .i64 q.how, .slice A' n c', .slice A2' n2 c2'] 25)
      have hTA : U8Ok (wr.alloc (.cells #[str q.type, str q.cs, str q.id, str q.loc, .int .i64 q.how, .slice A' n c', .slice A2' n2 c2'] 25)) := HT.out.below (hbel2.trans (hbA.mono hbel2.size))
      have hbx := Box7.new wr 25 (str q.type) (str q.cs) (str q.id) (str q.loc) (.int .i64 q.how) (.slice A' n c') (.slice A2' n2 c2')
      clear hq hqa hPr hE h1 h2 h3 h4 h5 hce b7 b8 b9 b10 hbel
      go_wp2_with fail
      refine (H1.out _).mono ?_
      rintro e w3 ⟨rfl, rfl⟩
      clear x0 x1 x2 x3 x4 x5 x6
      have ⟨x0, x1, x2, x3, x4, x5, x6⟩ := hbx
      go_wp2_with fail
      refine (H2.out _ hTA).mono ?_
      rintro e w4 ⟨rfl, hb4⟩
      have hbel4 := hbA.trans (hb4.mono hbA.size)
      have hbx4 := hbx.below hb4
      clear hbx hbA hb4 x0 x1 x2 x3 x4 x5 x6 H1 H2
      have ⟨x0, x1, x2, x3, x4, x5, x6⟩ := hbx4
      have E := hE2
      clear hE2
      have hbelX := hbel2.trans (hbel4.mono hbel2.size)
      cases ty
      · have E1 : Hid (R = 1) := by show R = 1; rw [E.out]; simp [chkB, thenErr]
        clear E
        go_wp2_with fail
        go_ret
        exact ⟨ret_nat E1.out.symm, hbelX⟩
      · cases ce
        case' true =>
         have hce := HCE.out
         go_wp2_with fail
         clear hce
        case' false =>
         have hce := HCE.out
         go_wp2_with fail
         refine (H3.out _).mono ?_
         rintro e w5 ⟨rfl, rfl⟩
         cases tk
         · have E1 : Hid (R = 1) := by show R = 1; rw [E.out]; simp [chkB, thenErr]
           clear E
           go_wp2_with fail
           go_ret
           exact ⟨ret_nat E1.out.symm, hbelX⟩
         go_wp2_with fail
         clear hce
        all_goals
         refine (H4.out _).mono ?_
         rintro e w6 ⟨rfl, rfl⟩
         cases wi
         · have E1 : Hid (R = 1) := by show R = 1; rw [E.out]; simp [chkB, thenErr]
           clear E
           go_wp2_with fail
           go_ret
           exact ⟨ret_nat E1.out.symm, hbelX⟩
         · go_wp2_with fail
           refine (H5.out _).mono ?_
           rintro e w7 ⟨rfl, rfl⟩
           cases wl
           · have E1 : Hid (R = 1) := by show R = 1; rw [E.out]; simp [chkB, thenErr]
             clear E
             go_wp2_with fail
             go_ret
             exact ⟨ret_nat E1.out.symm, hbelX⟩
           · by_cases hh0 : q.how < 0
             · have d0 : decide (q.how < 0) = true := by simpa using hh0
               have E1 : Hid (R = 3) := by show R = 3; rw [E.out]; simp [chkB, thenErr, hh0]
               clear E
               go_wp2_with fail
               go_ret
               exact ⟨ret_nat E1.out.symm, hbelX⟩
             · have d0 : decide (q.how < 0) = false := by simpa using hh0
               by_cases hh2 : 2 < q.how
               · have d2 : decide (2 < q.how) = true := by simpa using hh2
                 have E1 : Hid (R = 3) := by show R = 3; rw [E.out]; simp [chkB, thenErr, hh0, hh2]
                 clear E
                 go_wp2_with fail
                 go_ret
                 exact ⟨ret_nat E1.out.symm, hbelX⟩
               · have d2 : decide (2 < q.how) = false := by simpa using hh2
                 by_cases hn4' : 4000 < n
                 · have E1 : Hid (R = 2) := by show R = 2; rw [E.out]; simp [chkB, thenErr, hh0, hh2, hn4']
                   clear E
                   go_wp2_with fail
                   go_ret
                   exact ⟨ret_nat E1.out.symm, hbelX⟩
                 · have hce := HCE.out
                   have E2 := E.out
                   have hhow : ∃ hz, hz = q.how := ⟨_, rfl⟩
                   rcases (by omega : 0 < n2 ∨ n2 = 0) with hn0 | rfl <;> rcases (by omega : 0 < n ∨ n = 0) with hnn | rfl <;> rcases Decidable.em (q.how = 0) with hz | hz <;> cases m
                   all_goals
                    first
                    | have E1 : Hid (R = 4) := by show R = 4; rw [E2]; simp [chkB, thenErr, *]; done
                      have E0 : True := trivial
                    | have E1 : Hid (R = firstErr (L.drop (i + 1))) := by show R = _; rw [E2]; simp [chkB, thenErr, *]; done
                      have E9 : True := trivial
                    clear E E2
                    first
                    | have e0 : decide ((0 : Int) < n2) = true := by simp; omega
                      have e0b : ((n2 : Int) == 0) = false := by simp; omega
                    | have e0 : True := trivial
                    first
                    | have e1 : decide ((0 : Int) < n) = true := by simp; omega
                    | have e1 : True := trivial
                    first
                    | have e2 : (q.how != 0) = true := by simpa using hz
                    | have e2 : (q.how != 0) = false := by simpa using hz
                    go_wp2_with fail
                    first
                    | go_ret
                      exact ⟨ret_nat E1.out.symm, hbelX⟩
                    | exact ⟨⟨i + 1, by go_num, by omega, E1.out.symm, hbel4⟩, by simp [intOf]; omega⟩
    · obtain rfl : 0 = R := by rw [← hE.out, List.drop_of_length_le (by omega)]; rfl
      clear hE
      go_wp2_with fail
      go_ret
      exact ⟨rfl, hbel2.trans (hbel.mono hbel2.size)⟩
theorem below_g {w W : World} (h : w.grownBy W none) : Below w.heap.size w W := ⟨h.os, h.tape, h.output, h.size, fun k hk => h.block k hk (by intro e; cases e)⟩
def ReadEnd (w : World) (R : PartD × Nat) (e : Ending) (w' : World) : Prop :=
 ∃ v0 v1 v2 v3 v4 v5 v6, e = .returned (.tuple #[.agg #[v0, v1, v2, v3, v4, v5, v6], .int .i64 (R.2 : Nat)]) ∧ PartAt (fun b => w.heap.size ≤ b ∧ b < w'.heap.size) w' R.1 [v0, v1, v2, v3, v4, v5, v6] ∧ Below w.heap.size w w'
theorem read_end {w W : World} (h : Below w.heap.size w W) (u0 u1 u2 u3 u4 u5 u6 : Value) :
 Below w.heap.size w (((((((W.setCell ⟨w.heap.size, 0, none⟩ u0).setCell ⟨w.heap.size, 1, none⟩ u1).setCell ⟨w.heap.size, 2, none⟩ u2).setCell ⟨w.heap.size, 3, none⟩ u3).setCell ⟨w.heap.size, 4, none⟩ u4).setCell ⟨w.heap.size, 5, none⟩ u5).setCell ⟨w.heap.size, 6, none⟩ u6) ∧ SameBut w.heap.size W (((((((W.setCell ⟨w.heap.size, 0, none⟩ u0).setCell ⟨w.heap.size, 1, none⟩ u1).setCell ⟨w.heap.size, 2, none⟩ u2).setCell ⟨w.heap.size, 3, none⟩ u3).setCell ⟨w.heap.size, 4, none⟩ u4).setCell ⟨w.heap.size, 5, none⟩ u5).setCell ⟨w.heap.size, 6, none⟩ u6) := by
 have k := set7_block W w.heap.size u0 u1 u2 u3 u4 u5 u6
 exact ⟨⟨k.os.trans h.os, k.tape.trans h.tape, k.output.trans h.output, by rw [k.size]; exact h.size, fun j hj => (k.block j (by omega)).trans (h.block j hj)⟩, k⟩
theorem mread_any (b : List UInt8) (A : Option Addr) (n c : Nat) (w : World) (hb : By w w.heap.size A n b) (hn : n ≤ c) (hc : c ≤ maxLen) :
 Calls Tryz.prog 6 #[.slice A n c] w (ReadEnd w (readM b)) := by
 have hbl : b.length = n := by have := hb.1; simpa [Lib.byteCells] using this
 have hR : readM b = readM b := rfl
 conv at hR => rhs; unfold readM
 obtain ⟨W, hW⟩ : ∃ W, W = w.alloc (.cells #[.string ⟨#[]⟩, .string ⟨#[]⟩, .string ⟨#[]⟩, .string ⟨#[]⟩, .int .i64 0, .slice none 0 0, .slice none 0 0] 25) := ⟨_, rfl⟩
 have hbW : Below w.heap.size w W := by rw [hW]; exact (Below.refl _ w).alloc (Nat.le_refl _) _
 have hbx : BoxF W w.heap.size (.string ⟨#[]⟩) (.string ⟨#[]⟩) (.string ⟨#[]⟩) (.string ⟨#[]⟩) (.int .i64 0) (.slice none 0 0) (.slice none 0 0) := BoxF.of_block (t := 25) (by rw [hW]; exact heap_alloc_new w _)
 have hsW : W.heap.size = w.heap.size + 1 := by rw [hW]; simp
 have HW := Lib.hid hW
 by_cases h4 : 40000 < b.length
 · rw [if_pos h4] at hR
   have HR := Lib.hid hR
   have dl : decide ((40000 : Int) < (n : Int)) = true := by simp; omega
   clear hR h4 hW hsW
   go_enter Tryz.func6, Tryz.ntmps6
   go_upto_region 1 with fail
   rw [← HW.out]
   have hbx9 := BoxF.set7 (w := W) (b := w.heap.size) hbx (.string ⟨#[]⟩) (.string ⟨#[]⟩) (.string ⟨#[]⟩) (.string ⟨#[]⟩) (.int .i64 0) (.slice none 0 0) (.slice none 0 0)
   have hen9 := read_end hbW (.string ⟨#[]⟩) (.string ⟨#[]⟩) (.string ⟨#[]⟩) (.string ⟨#[]⟩) (.int .i64 0) (.slice none 0 0) (.slice none 0 0)
   have ⟨⟨z0, z1, z2, z3, z4, z5, z6⟩, zf⟩ := hbx
   go_wp2_with fail
   generalize hw9 : (((((((W.setCell ⟨w.heap.size, 0, none⟩ (.string ⟨#[]⟩)).setCell ⟨w.heap.size, 1, none⟩ (.string ⟨#[]⟩)).setCell ⟨w.heap.size, 2, none⟩ (.string ⟨#[]⟩)).setCell ⟨w.heap.size, 3, none⟩ (.string ⟨#[]⟩)).setCell ⟨w.heap.size, 4, none⟩ (.int .i64 0)).setCell ⟨w.heap.size, 5, none⟩ (.slice none 0 0)).setCell ⟨w.heap.size, 6, none⟩ (.slice none 0 0)) = w9 at hbx9 hen9 ⊢
   clear hw9
   obtain ⟨c0, c1, c2, c3, c4, c5, c6⟩ := hbx9
   refine bodyPost_ret (v := .tuple #[.agg #[.string ⟨#[]⟩, .string ⟨#[]⟩, .string ⟨#[]⟩, .string ⟨#[]⟩, .int .i64 0, .slice none 0 0, .slice none 0 0], .int .i64 ((2 : Nat) : Int)]) (by simp [results, Tryz.results6, go_sem, c0, c1, c2, c3, c4, c5, c6]) rfl ?_
   rw [HR.out]
   exact ⟨_, _, _, _, _, _, _, rfl, zero_at _ _, hen9.1⟩
 · rw [if_neg h4] at hR
   have dl : decide ((40000 : Int) < (n : Int)) = false := by simp; omega
   obtain ⟨W1, hW1⟩ : ∃ W1, W1 = W.alloc (.cells #[.int .i64 0] 46) := ⟨_, rfl⟩
   have hb1 : Below W.heap.size W W1 := by rw [hW1]; exact (Below.refl _ W).alloc (Nat.le_refl _) _
   have hrd1 : RdIs W1 W.heap.size 0 := by rw [hW1]; exact heap_alloc_new W _
   have hs1 : W1.heap.size = W.heap.size + 1 := by rw [hW1]; simp
   have hbx1 := hbx.below hb1 (by omega)
   have hbw1 : Below w.heap.size w W1 := hbW.trans (hb1.mono hbW.size)
   have hby1 : SlS (fun bl => bl < W1.heap.size ∧ bl ≠ W.heap.size) W1 1 A n (Lib.byteCells b) := SlS.change hb (fun q hq => ⟨by omega, by omega⟩) (fun q hq => hbw1.cell hq)
   have hcall := mpart_any 3 b A n c W.heap.size 0 1 W1 (by decide) (by decide) hby1 hn hc (by omega) (by decide) hrd1
   obtain ⟨q, cn, qe, hq⟩ : ∃ q cn qe, partM 3 0 b = (q, cn, qe) := ⟨_, _, _, rfl⟩
   rw [hq] at hcall hR
   simp only at hR
   have Hcall := Lib.hid hcall
   have HW1 := Lib.hid hW1
   have HR0 := Lib.hid hR
   have hlW : w.heap.size < W.heap.size := by omega
   have hlW1 : W.heap.size < W1.heap.size := by omega
   have Hst := Lib.hid (And.intro hbx1 hbw1)
   clear hR h4 hW hW1 hsW hs1 hbW hbx hb hb1 hrd1 hbx1 hbw1 hby1 hcall hq
   go_enter Tryz.func6, Tryz.ntmps6
   go_upto_region 3 with fail
   rw [← HW.out]
   go_wp2_with fail
   rw [← HW1.out]
   refine Hcall.out.mono ?_
   rintro e w2 ⟨v0, v1, v2, v3, v4, v5, v6, rfl, hpt, _, hg1⟩
   simp only at hpt
   obtain ⟨Aq, cq, Aq2, cq2, hvq, _⟩ := hpt.open
   injection hvq with h0 hvq
   injection hvq with h1 hvq
   injection hvq with h2 hvq
   injection hvq with h3 hvq
   injection hvq with h4 hvq
   injection hvq with h5 hvq
   injection hvq with h6 _
   subst h0; subst h1; subst h2; subst h3; subst h4; subst h5; subst h6
   obtain ⟨nq1, hnq1⟩ : ∃ y, y = q.body.length := ⟨_, rfl⟩
   obtain ⟨nq2, hnq2⟩ : ∃ y, y = q.parts.length := ⟨_, rfl⟩
   rw [← hnq1, ← hnq2] at hpt ⊢
   clear hnq1 hnq2
   obtain ⟨hbx1, hbw1⟩ := Hst.out
   have hbx2 := hbx1.same_ (hg1.block _ (by omega) (by intro e; injection e with e; omega))
   have hbw2 : Below w.heap.size w w2 := below_g (gM_new (gM_of hbw1) hg1 (fun z hz => by injection hz with hz; omega))
   have hlt2 : W1.heap.size ≤ w2.heap.size := hg1.size
   obtain ⟨W3, hW3⟩ : ∃ W3, W3 = w2.alloc (.cells #[str q.type, str q.cs, str q.id, str q.loc, .int .i64 q.how, .slice Aq nq1 cq, .slice Aq2 nq2 cq2] 25) := ⟨_, rfl⟩
   have hb3 : Below w2.heap.size w2 W3 := by rw [hW3]; exact (Below.refl _ w2).alloc (Nat.le_refl _) _
   have hbp3 : BoxF W3 w2.heap.size (str q.type) (str q.cs) (str q.id) (str q.loc) (.int .i64 q.how) (.slice Aq nq1 cq) (.slice Aq2 nq2 cq2) := BoxF.of_block (t := 25) (by rw [hW3]; exact heap_alloc_new w2 _)
   have hs3 : W3.heap.size = w2.heap.size + 1 := by rw [hW3]; simp
   have hbx3 := hbx2.below hb3 (by omega)
   have hbw3 : Below w.heap.size w W3 := hbw2.trans (hb3.mono (by omega))
   have hpt3 : PartAt (fun b => W.heap.size ≤ b ∧ b < W3.heap.size) W3 q [str q.type, str q.cs, str q.id, str q.loc, .int .i64 q.how, .slice Aq nq1 cq, .slice Aq2 nq2 cq2] := PartAt.change (fun z hz => ⟨by have := hz.1; omega, Nat.lt_of_lt_of_le hz.2 hb3.size⟩) (fun z hz => hb3.cell hz.2) _ _ hpt
   have HW3 := Lib.hid hW3
   have hs3' : w2.heap.size < W3.heap.size := by omega
   have hlwr : w.heap.size < W3.heap.size := by omega
   clear hpt hg1 hbx1 hbw1 hbx2 hbw2 hW3 hb3 hs3
   by_cases hqe : qe ≠ 0
   · have hR := HR0.out
     rw [if_pos hqe] at hR
     have HR := Lib.hid hR
     have dq1 : ((qe : Int) == 0) = false := by simp; omega
     have dq2 : ((qe : Int) != 0) = true := by simp; omega
     have Hst3 := Lib.hid (And.intro hbx3 hbw3)
     clear hR hqe hbx3 hbw3 hpt3 hbp3
     go_upto_region 4 with fail
     rw [← HW3.out]
     go_upto_region 7 with fail
     obtain ⟨hbx3, hbw3⟩ := Hst3.out
     have hbx9 := BoxF.set7 (w := W3) (b := w.heap.size) hbx3 (.string ⟨#[]⟩) (.string ⟨#[]⟩) (.string ⟨#[]⟩) (.string ⟨#[]⟩) (.int .i64 0) (.slice none 0 0) (.slice none 0 0)
     have hen9 := read_end hbw3 (.string ⟨#[]⟩) (.string ⟨#[]⟩) (.string ⟨#[]⟩) (.string ⟨#[]⟩) (.int .i64 0) (.slice none 0 0) (.slice none 0 0)
     have ⟨⟨z0, z1, z2, z3, z4, z5, z6⟩, zf⟩ := hbx3
     go_wp2_with fail
     generalize hw9 : (((((((W3.setCell ⟨w.heap.size, 0, none⟩ (.string ⟨#[]⟩)).setCell ⟨w.heap.size, 1, none⟩ (.string ⟨#[]⟩)).setCell ⟨w.heap.size, 2, none⟩ (.string ⟨#[]⟩)).setCell ⟨w.heap.size, 3, none⟩ (.string ⟨#[]⟩)).setCell ⟨w.heap.size, 4, none⟩ (.int .i64 0)).setCell ⟨w.heap.size, 5, none⟩ (.slice none 0 0)).setCell ⟨w.heap.size, 6, none⟩ (.slice none 0 0)) = w9 at hbx9 hen9 ⊢
     clear hw9
     obtain ⟨c0, c1, c2, c3, c4, c5, c6⟩ := hbx9
     refine bodyPost_ret (v := .tuple #[.agg #[.string ⟨#[]⟩, .string ⟨#[]⟩, .string ⟨#[]⟩, .string ⟨#[]⟩, .int .i64 0, .slice none 0 0, .slice none 0 0], .int .i64 ((qe : Nat) : Int)]) (by simp [results, Tryz.results6, go_sem, c0, c1, c2, c3, c4, c5, c6]) rfl ?_
     rw [HR.out]
     exact ⟨_, _, _, _, _, _, _, rfl, zero_at _ _, hen9.1⟩
   · obtain rfl : qe = 0 := by omega
     have hR := HR0.out
     rw [if_neg (by simp)] at hR
     have hck := PCheck_any q _ W3 (PartAt.change (fun _ h => h.2) (fun _ _ => rfl) _ _ hpt3)
     have HK := Lib.hid hck
     have ⟨⟨x0, x1, x2, x3, x4, x5, x6⟩, xf⟩ := hbp3
     have hone := hpt3.one
     have Hst3 := Lib.hid (And.intro hbx3 (And.intro hbw3 (And.intro hpt3 hbp3)))
     have HR1 := Lib.hid hR
     clear hbx3 hbw3 hbp3 hpt3 hck hR
     go_upto_region 4 with fail
     rw [← HW3.out]
     go_wp2_with fail
     refine HK.out.mono ?_
     rintro e w4 ⟨rfl, hb4⟩
     obtain ⟨hbx3, hbw3, hpt3, hbp3⟩ := Hst3.out
     have hbx4 := hbx3.below hb4 hlwr
     have hbw4 : Below w.heap.size w w4 := hbw3.trans (hb4.mono (by omega))
     have hbp4 := hbp3.below hb4 hs3'
     have hpt4 : PartAt (fun b => W.heap.size ≤ b ∧ b < w4.heap.size) w4 q [str q.type, str q.cs, str q.id, str q.loc, .int .i64 q.how, .slice Aq nq1 cq, .slice Aq2 nq2 cq2] := PartAt.change (fun z hz => ⟨hz.1, Nat.lt_of_lt_of_le hz.2 hb4.size⟩) (fun z hz => hb4.cell hz.2) _ _ hpt3
     have hltw : w.heap.size ≤ w4.heap.size := hbw4.size
     obtain ⟨ck, hck⟩ : ∃ ck, ck = checkD q := ⟨_, rfl⟩
     have hR := HR1.out
     rw [← hck] at hR ⊢
     clear hbx3 hbw3 hpt3 hbp3 hck x0 x1 x2 x3 x4 x5 x6 xf hone
     by_cases hk : ck ≠ 0
     · rw [if_pos hk] at hR
       have HR := Lib.hid hR
       have dq2 : ((ck : Int) != 0) = true := by simp; omega
       have Hst4 := Lib.hid (And.intro hbx4 hbw4)
       clear hR hk hbx4 hbw4 hpt4 hbp4 hb4
       go_upto_region 7 with fail
       obtain ⟨hbx4, hbw4⟩ := Hst4.out
       have hbx9 := BoxF.set7 (w := w4) (b := w.heap.size) hbx4 (.string ⟨#[]⟩) (.string ⟨#[]⟩) (.string ⟨#[]⟩) (.string ⟨#[]⟩) (.int .i64 0) (.slice none 0 0) (.slice none 0 0)
       have hen9 := read_end hbw4 (.string ⟨#[]⟩) (.string ⟨#[]⟩) (.string ⟨#[]⟩) (.string ⟨#[]⟩) (.int .i64 0) (.slice none 0 0) (.slice none 0 0)
       have ⟨⟨z0, z1, z2, z3, z4, z5, z6⟩, zf⟩ := hbx4
       go_wp2_with fail
       generalize hw9 : (((((((w4.setCell ⟨w.heap.size, 0, none⟩ (.string ⟨#[]⟩)).setCell ⟨w.heap.size, 1, none⟩ (.string ⟨#[]⟩)).setCell ⟨w.heap.size, 2, none⟩ (.string ⟨#[]⟩)).setCell ⟨w.heap.size, 3, none⟩ (.string ⟨#[]⟩)).setCell ⟨w.heap.size, 4, none⟩ (.int .i64 0)).setCell ⟨w.heap.size, 5, none⟩ (.slice none 0 0)).setCell ⟨w.heap.size, 6, none⟩ (.slice none 0 0)) = w9 at hbx9 hen9 ⊢
       clear hw9
       obtain ⟨c0, c1, c2, c3, c4, c5, c6⟩ := hbx9
       refine bodyPost_ret (v := .tuple #[.agg #[.string ⟨#[]⟩, .string ⟨#[]⟩, .string ⟨#[]⟩, .string ⟨#[]⟩, .int .i64 0, .slice none 0 0, .slice none 0 0], .int .i64 ((ck : Nat) : Int)]) (by simp [results, Tryz.results6, go_sem, c0, c1, c2, c3, c4, c5, c6]) rfl ?_
       rw [HR.out]
       exact ⟨_, _, _, _, _, _, _, rfl, zero_at _ _, hen9.1⟩
     · obtain rfl : ck = 0 := by omega
       rw [if_neg (by simp)] at hR
       have HR := Lib.hid hR
       have ⟨⟨x0, x1, x2, x3, x4, x5, x6⟩, xf⟩ := hbp4
       have hone := hpt4.one
       have Hpt := Lib.hid hpt4
       clear hR hb4 hpt4 hbp4
       have hbx9 := BoxF.set7 (w := w4) (b := w.heap.size) hbx4 (str q.type) (str q.cs) (str q.id) (str q.loc) (.int .i64 q.how) (.slice Aq nq1 cq) (.slice Aq2 nq2 cq2)
       have hen9 := read_end hbw4 (str q.type) (str q.cs) (str q.id) (str q.loc) (.int .i64 q.how) (.slice Aq nq1 cq) (.slice Aq2 nq2 cq2)
       have ⟨⟨z0, z1, z2, z3, z4, z5, z6⟩, zf⟩ := hbx4
       go_wp2_with fail
       generalize hw9 : (((((((w4.setCell ⟨w.heap.size, 0, none⟩ (str q.type)).setCell ⟨w.heap.size, 1, none⟩ (str q.cs)).setCell ⟨w.heap.size, 2, none⟩ (str q.id)).setCell ⟨w.heap.size, 3, none⟩ (str q.loc)).setCell ⟨w.heap.size, 4, none⟩ (.int .i64 q.how)).setCell ⟨w.heap.size, 5, none⟩ (.slice Aq nq1 cq)).setCell ⟨w.heap.size, 6, none⟩ (.slice Aq2 nq2 cq2)) = w9 at hbx9 hen9 ⊢
       clear hw9
       obtain ⟨c0, c1, c2, c3, c4, c5, c6⟩ := hbx9
       refine bodyPost_ret (v := .tuple #[.agg #[str q.type, str q.cs, str q.id, str q.loc, .int .i64 q.how, .slice Aq nq1 cq, .slice Aq2 nq2 cq2], .int .i64 ((0 : Nat) : Int)]) (by simp [results, Tryz.results6, go_sem, c0, c1, c2, c3, c4, c5, c6]) rfl ?_
       rw [HR.out]
       exact ⟨_, _, _, _, _, _, _, rfl, PartAt.change (fun z hz => ⟨by have := hz.1; omega, by have h1 := hz.2; have h2 := hen9.2.size; omega⟩) (fun z hz => World.cell?_of_block (hen9.2.block _ (by have := hz.1; omega))) _ _ Hpt.out, hen9.1⟩
/-- The document's BundleRead. -/
theorem RBundleRead_any (b : List UInt8) (A : Option Addr) (n c : Nat) (w : World) (hM : MaxLenOk w) (hU : U8Ok w) (hb : By w w.heap.size A n b) (hn : n ≤ c) (hc : c ≤ maxLen) (h4 : n ≤ 40000) :
 Calls Tryz.prog 11 #[.slice A n c] w (ReadEnd w (readM b)) := by
 have hbl : b.length = n := by have := hb.1; simpa [Lib.byteCells] using this
 have hR : readM b = readM b := rfl
 conv at hR => rhs; unfold readM
 rw [if_neg (by omega)] at hR
 obtain ⟨W, hW⟩ : ∃ W, W = w.alloc (.cells #[.string ⟨#[]⟩, .string ⟨#[]⟩, .string ⟨#[]⟩, .string ⟨#[]⟩, .int .i64 0, .slice none 0 0, .slice none 0 0] 25) := ⟨_, rfl⟩
 obtain ⟨W1, hW1⟩ : ∃ X, X = W.alloc (.cells #[.int .i64 0] 3) := ⟨_, rfl⟩
 obtain ⟨Wa, hWa⟩ : ∃ X, X = W1.alloc (.cells #[.nilFunc] 47) := ⟨_, rfl⟩
 obtain ⟨W2, hW2⟩ : ∃ X, X = Wa.setCell ⟨w.heap.size + 1 + 1, 0, none⟩ (.func (.func 37) #[] #[.pointer (some ⟨w.heap.size + 1, 0, none⟩), .pointer (some ⟨w.heap.size + 1 + 1, 0, none⟩)]) := ⟨_, rfl⟩
 have hsW : W.heap.size = w.heap.size + 1 := by rw [hW]; simp
 have hs1 : W1.heap.size = w.heap.size + 1 + 1 := by rw [hW1]; simp [hsW]
 have hsa : Wa.heap.size = w.heap.size + 1 + 1 + 1 := by rw [hWa]; simp [hs1]
 have hs2 : W2.heap.size = w.heap.size + 1 + 1 + 1 := by rw [hW2, ← hsa]; simp [World.setCell]
 have hbW : Below w.heap.size w W := by rw [hW]; exact (Below.refl _ w).alloc (Nat.le_refl _) _
 have hb1 : Below W.heap.size W W1 := by rw [hW1]; exact (Below.refl _ _).alloc (Nat.le_refl _) _
 have hba : Below W1.heap.size W1 Wa := by rw [hWa]; exact (Below.refl _ _).alloc (Nat.le_refl _) _
 have hb2 : Below W1.heap.size W1 W2 := by rw [hW2]; exact hba.setCell (by rw [hs1]; exact Nat.le_refl _) _
 have hna : Wa.heap[w.heap.size + 1 + 1]? = some (.cells #[.nilFunc] 47 (0, 0)) := by
  have := heap_alloc_new W1 (.cells #[.nilFunc] 47)
  rw [hs1] at this
  rw [hWa]
  exact this
 have a0 : Wa.cell? ⟨w.heap.size + 1 + 1, 0, none⟩ = some .nilFunc := by unfold World.cell?; rw [hna]; rfl
 have af : Wa.frozen? ⟨w.heap.size + 1 + 1, 0, none⟩ = false := by
  unfold World.frozen?
  rw [hna]
  simp
 have hb12 := hb1.trans (hb2.mono hb1.size)
 have hbw2 := hbW.trans (hb12.mono hbW.size)
 have hbx : BoxF W w.heap.size (.string ⟨#[]⟩) (.string ⟨#[]⟩) (.string ⟨#[]⟩) (.string ⟨#[]⟩) (.int .i64 0) (.slice none 0 0) (.slice none 0 0) := BoxF.of_block (t := 25) (by rw [hW]; exact heap_alloc_new w _)
 have hbx2 := hbx.below hb12 (by omega)
 have hcn1 : CntAt W1 (w.heap.size + 1) 0 := by
  unfold CntAt
  have := heap_alloc_new W (.cells #[.int .i64 0] 3)
  rw [hsW] at this
  rw [hW1]
  exact this
 have hcn2 := hcn1.below hb2
 have hfn2 : FnAt W2 (w.heap.size + 1 + 1) (w.heap.size + 1) := by
  unfold FnAt rdFv
  rw [hW2]
  simp only [World.setCell, Array.getElem?_modify, if_pos, hna, Option.map_some]
  rfl
 have hbr : BrAt w W2 (w.heap.size + 1) (w.heap.size + 1 + 1) 0 := ⟨hbw2, by omega, by omega, by omega, hcn2, hfn2⟩
 have hby2 : SlS (fun bl => bl < W2.heap.size ∧ bl ≠ w.heap.size + 1) W2 1 A n (Lib.byteCells b) := SlS.change hb (fun q hq => ⟨by omega, by omega⟩) (fun q hq => hbw2.cell hq)
 have hcall := bread_any w hM hU (w.heap.size + 1) (w.heap.size + 1 + 1) 3 b A n c 0 1 W2 (by decide) (by decide) hby2 hn hc h4 (by decide) hbr
 obtain ⟨q, cn, qe, hq⟩ : ∃ q cn qe, partM 3 0 b = (q, cn, qe) := ⟨_, _, _, rfl⟩
 rw [hq] at hcall hR
 simp only at hR
 have hfun := hfn2.cell
 unfold rdFv at hfun
 have eg := enters_of Tryz.func37 (by kernel_rfl) rfl
 have HW := Lib.hid hW
 have HW1 := Lib.hid hW1
 have HWa := Lib.hid hWa
 have HW2 := Lib.hid hW2
 have Hcall := Lib.hid hcall
 have HR0 := Lib.hid hR
 have Hst := Lib.hid (And.intro hbx2 hbw2)
 clear hW hW1 hWa hW2 hsW hs1 hsa hR hb hbW hba hna hb1 hb2 hb12 hbw2 hbx hbx2 hcn1 hcn2 hfn2 hbr hby2 hcall hq
 go_enter Tryz.func11, Tryz.ntmps11
 go_upto_region 3 with fail
 rw [← HW.out, ← HW1.out, ← HWa.out]
 go_upto_region 4 with fail
 rw [← HW2.out]
 clear a0 af
 go_wp2_with fail
 refine Hcall.out.mono ?_
 rintro e w2 ⟨s0, s1, s2, s3, hx4, Aq, nq1, cq, Aq2, nq2, cq2, cn1, rfl, hpt, _, hg1⟩
 simp only at hpt
 obtain ⟨hbx1, hbw1⟩ := Hst.out
 have hbx2 := hbx1.same_ (hg1.block _ (by omega) (by intro e; injection e with e; omega))
 have hbw2 : Below w.heap.size w w2 := below_g (gM_new (gM_of hbw1) hg1 (fun z hz => by injection hz with hz; omega))
 have hlt2 : W2.heap.size ≤ w2.heap.size := hg1.size
 obtain ⟨W3, hW3⟩ : ∃ W3, W3 = w2.alloc (.cells #[str s0, str s1, str s2, str s3, .int .i64 hx4, .slice Aq nq1 cq, .slice Aq2 nq2 cq2] 25) := ⟨_, rfl⟩
 have hb3 : Below w2.heap.size w2 W3 := by rw [hW3]; exact (Below.refl _ w2).alloc (Nat.le_refl _) _
 have hbp3 : BoxF W3 w2.heap.size (str s0) (str s1) (str s2) (str s3) (.int .i64 hx4) (.slice Aq nq1 cq) (.slice Aq2 nq2 cq2) := BoxF.of_block (t := 25) (by rw [hW3]; exact heap_alloc_new w2 _)
 have hs3 : W3.heap.size = w2.heap.size + 1 := by rw [hW3]; simp
 have hbx3 := hbx2.below hb3 (by omega)
 have hbw3 : Below w.heap.size w W3 := hbw2.trans (hb3.mono (by omega))
 have HW3 := Lib.hid hW3
 have hs3' : w2.heap.size < W3.heap.size := by omega
 have hlwr : w.heap.size < W3.heap.size := by omega
 have hR := HR0.out
 by_cases hqe : qe ≠ 0
 · rw [if_pos hqe] at hR
   have HR := Lib.hid hR
   have dq1 : ((qe : Int) == 0) = false := by simp; omega
   have dq2 : ((qe : Int) != 0) = true := by simp; omega
   have Hst3 := Lib.hid (And.intro hbx3 hbw3)
   clear hR hqe hbx3 hbw3 hpt hbp3 hg1 hbx1 hbw1 hbx2 hbw2 hW3 hb3 hs3 hfun
   go_upto_region 5 with fail
   rw [← HW3.out]
   go_upto_region 8 with fail
   obtain ⟨hbx3, hbw3⟩ := Hst3.out
   have hbx9 := BoxF.set7 (w := W3) (b := w.heap.size) hbx3 (.string ⟨#[]⟩) (.string ⟨#[]⟩) (.string ⟨#[]⟩) (.string ⟨#[]⟩) (.int .i64 0) (.slice none 0 0) (.slice none 0 0)
   have hen9 := read_end hbw3 (.string ⟨#[]⟩) (.string ⟨#[]⟩) (.string ⟨#[]⟩) (.string ⟨#[]⟩) (.int .i64 0) (.slice none 0 0) (.slice none 0 0)
   have ⟨⟨z0, z1, z2, z3, z4, z5, z6⟩, zf⟩ := hbx3
   go_wp2_with fail
   generalize hw9 : (((((((W3.setCell ⟨w.heap.size, 0, none⟩ (.string ⟨#[]⟩)).setCell ⟨w.heap.size, 1, none⟩ (.string ⟨#[]⟩)).setCell ⟨w.heap.size, 2, none⟩ (.string ⟨#[]⟩)).setCell ⟨w.heap.size, 3, none⟩ (.string ⟨#[]⟩)).setCell ⟨w.heap.size, 4, none⟩ (.int .i64 0)).setCell ⟨w.heap.size, 5, none⟩ (.slice none 0 0)).setCell ⟨w.heap.size, 6, none⟩ (.slice none 0 0)) = w9 at hbx9 hen9 ⊢
   clear hw9
   obtain ⟨c0, c1, c2, c3, c4, c5, c6⟩ := hbx9
   refine bodyPost_ret (v := .tuple #[.agg #[.string ⟨#[]⟩, .string ⟨#[]⟩, .string ⟨#[]⟩, .string ⟨#[]⟩, .int .i64 0, .slice none 0 0, .slice none 0 0], .int .i64 ((qe : Nat) : Int)]) (by simp [results, Tryz.results11, go_sem, c0, c1, c2, c3, c4, c5, c6]) rfl ?_
   rw [HR.out]
   exact ⟨_, _, _, _, _, _, _, rfl, zero_at _ _, hen9.1⟩
 · obtain rfl : qe = 0 := by omega
   rw [if_neg (by simp)] at hR
   obtain ⟨hpt, _⟩ := hpt rfl
   have hpt3 : PartAt (fun b => w.heap.size + 1 ≤ b ∧ b < W3.heap.size) W3 q [str s0, str s1, str s2, str s3, .int .i64 hx4, .slice Aq nq1 cq, .slice Aq2 nq2 cq2] := PartAt.change (fun z hz => ⟨by have := hz.1; omega, Nat.lt_of_lt_of_le hz.2 hb3.size⟩) (fun z hz => hb3.cell hz.2) _ _ hpt
   have hck := CheckPart_any q _ W3 (PartAt.change (fun _ h => h.2) (fun _ _ => rfl) _ _ hpt3) (hU.below hbw3)
   have HK := Lib.hid hck
   have ⟨⟨x0, x1, x2, x3, x4, x5, x6⟩, xf⟩ := hbp3
   have hone := hpt3.one
   have Hst3 := Lib.hid (And.intro hbx3 (And.intro hbw3 (And.intro hpt3 hbp3)))
   have HR1 := Lib.hid hR
   clear hbx3 hbw3 hbp3 hpt3 hck hR hqe hpt hg1 hbx1 hbw1 hbx2 hbw2 hW3 hb3 hs3 hfun
   go_upto_region 5 with fail
   rw [← HW3.out]
   go_wp2_with fail
   refine HK.out.mono ?_
   rintro e w4 ⟨rfl, hb4⟩
   obtain ⟨hbx3, hbw3, hpt3, hbp3⟩ := Hst3.out
   have hbx4 := hbx3.below hb4 hlwr
   have hbw4 : Below w.heap.size w w4 := hbw3.trans (hb4.mono (by omega))
   have hbp4 := hbp3.below hb4 hs3'
   have hpt4 : PartAt (fun b => w.heap.size + 1 ≤ b ∧ b < w4.heap.size) w4 q [str s0, str s1, str s2, str s3, .int .i64 hx4, .slice Aq nq1 cq, .slice Aq2 nq2 cq2] := PartAt.change (fun z hz => ⟨hz.1, Nat.lt_of_lt_of_le hz.2 hb4.size⟩) (fun z hz => hb4.cell hz.2) _ _ hpt3
   have hltw : w.heap.size ≤ w4.heap.size := hbw4.size
   obtain ⟨ck, hck⟩ : ∃ ck, ck = checkD q := ⟨_, rfl⟩
   have hR := HR1.out
   rw [← hck] at hR ⊢
   clear hbx3 hbw3 hpt3 hbp3 hck x0 x1 x2 x3 x4 x5 x6 xf hone
   by_cases hk : ck ≠ 0
   · rw [if_pos hk] at hR
     have HR := Lib.hid hR
     have dq2 : ((ck : Int) != 0) = true := by simp; omega
     have Hst4 := Lib.hid (And.intro hbx4 hbw4)
     clear hR hk hbx4 hbw4 hpt4 hbp4 hb4
     go_upto_region 8 with fail
     obtain ⟨hbx4, hbw4⟩ := Hst4.out
     have hbx9 := BoxF.set7 (w := w4) (b := w.heap.size) hbx4 (.string ⟨#[]⟩) (.string ⟨#[]⟩) (.string ⟨#[]⟩) (.string ⟨#[]⟩) (.int .i64 0) (.slice none 0 0) (.slice none 0 0)
     have hen9 := read_end hbw4 (.string ⟨#[]⟩) (.string ⟨#[]⟩) (.string ⟨#[]⟩) (.string ⟨#[]⟩) (.int .i64 0) (.slice none 0 0) (.slice none 0 0)
     have ⟨⟨z0, z1, z2, z3, z4, z5, z6⟩, zf⟩ := hbx4
     go_wp2_with fail
     generalize hw9 : (((((((w4.setCell ⟨w.heap.size, 0, none⟩ (.string ⟨#[]⟩)).setCell ⟨w.heap.size, 1, none⟩ (.string ⟨#[]⟩)).setCell ⟨w.heap.size, 2, none⟩ (.string ⟨#[]⟩)).setCell ⟨w.heap.size, 3, none⟩ (.string ⟨#[]⟩)).setCell ⟨w.heap.size, 4, none⟩ (.int .i64 0)).setCell ⟨w.heap.size, 5, none⟩ (.slice none 0 0)).setCell ⟨w.heap.size, 6, none⟩ (.slice none 0 0)) = w9 at hbx9 hen9 ⊢
     clear hw9
     obtain ⟨c0, c1, c2, c3, c4, c5, c6⟩ := hbx9
     refine bodyPost_ret (v := .tuple #[.agg #[.string ⟨#[]⟩, .string ⟨#[]⟩, .string ⟨#[]⟩, .string ⟨#[]⟩, .int .i64 0, .slice none 0 0, .slice none 0 0], .int .i64 ((ck : Nat) : Int)]) (by simp [results, Tryz.results11, go_sem, c0, c1, c2, c3, c4, c5, c6]) rfl ?_
     rw [HR.out]
     exact ⟨_, _, _, _, _, _, _, rfl, zero_at _ _, hen9.1⟩
   · obtain rfl : ck = 0 := by omega
     rw [if_neg (by simp)] at hR
     have HR := Lib.hid hR
     have ⟨⟨x0, x1, x2, x3, x4, x5, x6⟩, xf⟩ := hbp4
     have hone := hpt4.one
     have Hpt := Lib.hid hpt4
     clear hR hb4 hpt4 hbp4
     have hbx9 := BoxF.set7 (w := w4) (b := w.heap.size) hbx4 (str s0) (str s1) (str s2) (str s3) (.int .i64 hx4) (.slice Aq nq1 cq) (.slice Aq2 nq2 cq2)
     have hen9 := read_end hbw4 (str s0) (str s1) (str s2) (str s3) (.int .i64 hx4) (.slice Aq nq1 cq) (.slice Aq2 nq2 cq2)
     have ⟨⟨z0, z1, z2, z3, z4, z5, z6⟩, zf⟩ := hbx4
     go_wp2_with fail
     generalize hw9 : (((((((w4.setCell ⟨w.heap.size, 0, none⟩ (str s0)).setCell ⟨w.heap.size, 1, none⟩ (str s1)).setCell ⟨w.heap.size, 2, none⟩ (str s2)).setCell ⟨w.heap.size, 3, none⟩ (str s3)).setCell ⟨w.heap.size, 4, none⟩ (.int .i64 hx4)).setCell ⟨w.heap.size, 5, none⟩ (.slice Aq nq1 cq)).setCell ⟨w.heap.size, 6, none⟩ (.slice Aq2 nq2 cq2)) = w9 at hbx9 hen9 ⊢
     clear hw9
     obtain ⟨c0, c1, c2, c3, c4, c5, c6⟩ := hbx9
     refine bodyPost_ret (v := .tuple #[.agg #[str s0, str s1, str s2, str s3, .int .i64 hx4, .slice Aq nq1 cq, .slice Aq2 nq2 cq2], .int .i64 ((0 : Nat) : Int)]) (by simp [results, Tryz.results11, go_sem, c0, c1, c2, c3, c4, c5, c6]) rfl ?_
     rw [HR.out]
     exact ⟨_, _, _, _, _, _, _, rfl, PartAt.change (fun z hz => ⟨by have := hz.1; omega, by have h1 := hz.2; have h2 := hen9.2.size; omega⟩) (fun z hz => World.cell?_of_block (hen9.2.block _ (by have := hz.1; omega))) _ _ Hpt.out, hen9.1⟩
def PredTx (g : Nat) (lb : Array Value) (p : List UInt8 → Bool) (l : List (List UInt8)) (w : World) : Prop :=
 ∀ (W : World) (x : List UInt8), x ∈ l → Below w.heap.size w W → Calls Tryz.prog g (#[str x] ++ lb) W fun e w' => e = .returned (.bool (p x)) ∧ Below W.heap.size W w'
theorem IndexFunc_Tx (g : Nat) (lb : Array Value) (eg : ∀ args w, (callFunc g args).run Tryz.prog w = .ok (.enter g args) w) (p : List UInt8 → Bool) (A : Option Addr) (n c B : Nat) (l : List (List UInt8)) (w : World) (hb : Sl w B 1 A n (l.map str)) (hB : B ≤ w.heap.size) (hm : n ≤ maxLen) (hp : PredTx g lb p l w) :
 Calls Tryz.prog 71 #[.slice A n c, .func (.func g) #[] lb] w fun e w' => (∃ i : Int, e = .returned (.int .i64 i) ∧ decide (0 ≤ i) = l.any p) ∧ Below w.heap.size w w' := by
 obtain ⟨R, hR⟩ : ∃ R, R = l.any p := ⟨_, rfl⟩
 rw [← hR]
 have hl : l.length = n := by have := hb.1; simpa using this
 have HR := Lib.hid hR
 have Hl := Lib.hid hl
 have Hb := Lib.hid hb
 have Hp := Lib.hid hp
 clear hR hl hb hp
 unfold maxLen at hm
 go_enter Tryz.func71, Tryz.ntmps71
 go_wp2_with fail
 go_loopw [8] (fun iv wr => ∃ k : Nat, k ≤ n ∧ iv = .int .i64 (k : Nat) ∧ Below w.heap.size w wr ∧ Hid ((l.drop k).any p = R)) (fun iv _ => n - (intOf iv).toNat)
 case atStart => exact ⟨0, Nat.zero_le _, rfl, Below.refl _ _, Lib.hid (by rw [List.drop_zero]; exact HR.out.symm)⟩
 case round =>
  obtain ⟨k, hk, rfl, hbel, hz⟩ := hrel
  by_cases hkn : k < n
  · have hkl : k < l.length := by rw [Hl.out]; exact hkn
    obtain ⟨b, off, hA, hbB, hc⟩ := (Sl.below Hb.out (hbel.mono hB)).2 (by omega)
    subst hA
    obtain ⟨x, hx⟩ : ∃ x, x = l[k] := ⟨_, rfl⟩
    have hd : l.drop k = x :: l.drop (k + 1) := by rw [hx]; exact List.drop_eq_getElem_cons hkl
    have x0 : wr.cell? ⟨b, off + k, none⟩ = some (str x) := hc k (str x) (by rw [List.getElem?_map, List.getElem?_eq_getElem hkl, hx]; rfl)
    have hs := hz.out
    rw [hd, List.any_cons] at hs
    have cS := Hp.out wr x (by rw [hx]; exact List.getElem_mem hkl) hbel
    clear hd hx hc
    cases hpk : p x with
    | true =>
     rw [hpk] at cS hs
     rw [Bool.true_or] at hs
     have Hs := Lib.hid hs
     have CS := Lib.hid cS
     clear hpk hs cS
     go_wp2_with (go_at_fn g; refine CS.out.mono ?_; rintro e w1 ⟨rfl, hb1⟩)
     go_ret
     exact ⟨⟨k, rfl, by rw [← Hs.out]; simp⟩, hbel.trans (hb1.mono hbel.size)⟩
    | false =>
     rw [hpk] at cS hs
     rw [Bool.false_or] at hs
     have Hs := Lib.hid hs
     have CS := Lib.hid cS
     clear hpk hs cS
     go_wp2_with (go_at_fn g; refine CS.out.mono ?_; rintro e w1 ⟨rfl, hb1⟩)
     exact ⟨⟨k + 1, by omega, by go_num, hbel.trans (hb1.mono hbel.size), Hs⟩, by simp [intOf]; omega⟩
  · obtain rfl : k = n := by omega
    have hs := hz.out
    rw [List.drop_of_length_le (by rw [Hl.out]; exact Nat.le_refl _), List.any_nil] at hs
    have Hs := Lib.hid hs
    clear hs
    go_wp2_with fail
    go_ret
    exact ⟨⟨-1, rfl, by rw [← Hs.out]; rfl⟩, hbel⟩
theorem ContainsFunc_Tx (g : Nat) (lb : Array Value) (eg : ∀ args w, (callFunc g args).run Tryz.prog w = .ok (.enter g args) w) (p : List UInt8 → Bool) (A : Option Addr) (n c B : Nat) (l : List (List UInt8)) (w : World) (hb : Sl w B 1 A n (l.map str)) (hB : B ≤ w.heap.size) (hm : n ≤ maxLen) (hp : PredTx g lb p l w) :
 Calls Tryz.prog 30 #[.slice A n c, .func (.func g) #[] lb] w fun e w' => e = .returned (.bool (l.any p)) ∧ Below w.heap.size w w' := by
 have h := IndexFunc_Tx g lb eg p A n c B l w hb hB hm hp
 generalize l.any p = r at h ⊢
 have H := Lib.hid h
 clear h hb hp
 go_enter Tryz.func30, Tryz.ntmps30
 go_wp2_with fail
 refine H.out.mono ?_
 rintro e w1 ⟨⟨i, rfl, hi⟩, hb1⟩
 have Hi := Lib.hid hi
 clear hi
 go_wp2_with fail
 go_ret
 exact ⟨by rw [← Hi.out]; rfl, hb1⟩
theorem ptx1_any (s try_ : List UInt8) (tb : Nat) (W : World) (hM : MaxLenOk W) (hc : W.cell? ⟨tb, 0, none⟩ = some (str try_)) (hs : s.length ≤ 1000000) (ht : try_.length ≤ 1000) :
 Calls Tryz.prog 31 #[str s, .pointer (some ⟨tb, 0, none⟩)] W fun e w' => e = .returned (.bool (hasS s (45 :: 45 :: try_))) ∧ Below W.heap.size W w' := by
 have h := Contains_any s (45 :: 45 :: try_) W hM hs
 generalize hasS s (45 :: 45 :: try_) = r at h ⊢
 have H := Lib.hid h
 clear h hM hs
 go_enter Tryz.func31, Tryz.ntmps31
 go_wp2_with fail
 refine H.out.mono ?_
 rintro e w1 ⟨rfl, rfl⟩
 go_wp2_with fail
 go_ret
 exact ⟨rfl, Below.refl _ _⟩
theorem slice_letters (w : World) (v : Nat) (h : v < 64) :
 (Instr.sliceAt 9 (.string ⟨#[65, 66, 67, 68, 69, 70, 71, 72, 73, 74, 75, 76, 77, 78, 79, 80, 81, 82, 83, 84, 85, 86, 87, 88, 89, 90, 97, 98, 99, 100, 101, 102, 103, 104, 105, 106, 107, 108, 109, 110, 111, 112, 113, 114, 115, 116, 117, 118, 119, 120, 121, 122, 48, 49, 50, 51, 52, 53, 54, 55, 56, 57, 43, 47]⟩) (some (.int .i64 (v : Int))) (some (.int .i64 ((v : Int) + 1))) none).run Tryz.prog w = .ok (str [UInt8.ofNat (nth letters v)]) w := by
 have e : (letters.take ((v : Int) + 1).toNat).drop (v : Int).toNat = [UInt8.ofNat (nth letters v)] := by
  have hv : v < letters.length := by rw [letters_len]; exact h
  rw [show ((v : Int) + 1).toNat = v + 1 by omega, Int.toNat_natCast, List.take_succ_eq_append_getElem hv, List.drop_append_of_le_length (by simp; omega)]
  simp [nth_of _ _ hv]
 rw [run_sliceAt_string w _ _ _ _ _ Tryz.underlying9]
 exact e ▸ run_slice_str_lh w 9 letters .i64 .i64 v (v + 1) Tryz.underlying9 (by omega) (by omega) (by rw [letters_len]; omega)
def RefRel (_w : World) (n : Nat) (l T : List UInt8) (ov av : Value) : Prop :=
 ∃ a out, ov = str out ∧ av = .int .i64 (a : Nat) ∧ a ≤ n + 2 ∧ a % 3 = 0 ∧ Hid (out ++ enc (wd a) (l.drop a) = T)
def RefBit (a k n : Nat) (rest : List UInt8) (vv tv bv : Value) : Prop :=
 ∃ t th, bv = .int .i64 (t : Nat) ∧ 6 * k ≤ t ∧ t ≤ 6 * k + 6 ∧ vv = .int .i64 (bitsTo rest k (t - 6 * k) : Nat) ∧ tv = .bool th ∧ Hid (th = decide (6 * k < t ∧ a + 6 * k / 8 < n))
theorem BaseText_any (A : Option Addr) (n c : Nat) (l : List UInt8) (w : World) (hb : By w w.heap.size A n l) (hc : n ≤ 4000) :
 Calls Tryz.prog 34 #[.slice A n c] w fun e w' => e = .returned (str (enc 0 l)) ∧ w = w' := by
 obtain ⟨T, hT⟩ : ∃ T, T = enc 0 l := ⟨_, rfl⟩
 have hl := hb.len
 have hTl : T.length ≤ 24000 := by
  have := enc_len l.length 0 l (Nat.le_refl _)
  rw [hT]; omega
 rw [← hT]
 have HT := Lib.hid hT; have Hl := Lib.hid hl; clear hT hl
 go_enter Tryz.func34, Tryz.ntmps34
 go_wp2_with fail
 go_loop [3, 4] (RefRel w n l T) (fun _ av => n + 3 - (intOf av).toNat)
 case atStart => exact ⟨0, [], rfl, rfl, by omega, rfl, by show [] ++ enc 0 l = T; rw [HT.out]; rfl⟩
 case round =>
  obtain ⟨a, out, rfl, rfl, ha, ha3, hE⟩ := hrel
  by_cases han : a < n
  · obtain ⟨b, off, rfl, _, hcell⟩ := hb.opn (by omega)
    have hol : out.length ≤ 24000 := by have := congrArg List.length hE.out; simp at this; omega
    have hE2 : Hid (out ++ brk (wd a) ++ quad (l.drop a) ++ enc (wd (a + 3)) (l.drop (a + 3)) = T) := by
     have h := hE.out
     rw [enc_step (wd a) (l.drop a) (by simp [Hl.out]; omega), wd_step a ha3, List.drop_drop] at h
     have e : List.drop (a + min 3 (l.drop a).length) l = List.drop (a + 3) l := by
      have : (l.drop a).length = n - a := by simp [Hl.out]
      rcases (by omega : 3 ≤ n - a ∨ n - a < 3) with h3 | h3
      · rw [this, Nat.min_eq_left h3]
      · rw [List.drop_of_length_le (by rw [Hl.out]; omega), List.drop_of_length_le (by rw [Hl.out]; omega)]
     rw [e] at h
     show _ = _
     rw [← h]; simp
    clear hE
    rcases (by omega : (0 < a ∧ a % 57 = 0) ∨ (0 < a ∧ a % 57 ≠ 0) ∨ a = 0) with ⟨hb0, hb57⟩ | ⟨hb0, hb57⟩ | hb0
    case' inl =>
     have hbt : ((a : Int) % 57 == 0) = true := by simp; omega
     obtain ⟨out1, ho1⟩ : ∃ o, o = out ++ [13, 10] := ⟨_, rfl⟩
     have hE1 : Hid (out1 ++ quad (l.drop a) ++ enc (wd (a + 3)) (l.drop (a + 3)) = T) := by
      have h := hE2.out
      rw [wd_brk, if_pos ⟨hb0, hb57⟩] at h
      rw [ho1]; exact h
     have hol1 : out1.length ≤ 24002 := by rw [ho1]; simp; omega
     clear hE2 hb57
     go_wp2_with fail
     rw [← ho1]
     clear ho1
    case' inr.inl =>
     have hbt : ((a : Int) % 57 == 0) = false := by simp; omega
     obtain ⟨out1, rfl⟩ : ∃ o, o = out := ⟨_, rfl⟩
     have hE1 : Hid (out1 ++ quad (l.drop a) ++ enc (wd (a + 3)) (l.drop (a + 3)) = T) := by
      have h := hE2.out
      rw [wd_brk, if_neg (by omega)] at h
      show _ = _; rw [← h]; simp
     have hol1 : out1.length ≤ 24002 := by omega
     clear hE2 hb57
     go_wp2_with fail
    case' inr.inr =>
     have hle : a ≤ 0 := by omega
     obtain ⟨out1, rfl⟩ : ∃ o, o = out := ⟨_, rfl⟩
     have hE1 : Hid (out1 ++ quad (l.drop a) ++ enc (wd (a + 3)) (l.drop (a + 3)) = T) := by
      have h := hE2.out
      rw [wd_brk, if_neg (by omega)] at h
      show _ = _; rw [← h]; simp
     have hol1 : out1.length ≤ 24002 := by omega
     clear hE2 hb0
     go_wp2_with fail
    all_goals
     go_loop [3, 25] (fun ov kv => ∃ k : Nat, k ≤ 4 ∧ kv = .int .i64 k ∧ ov = str (out1 ++ (quad (l.drop a)).take k)) (fun _ kv => 4 - (intOf kv).toNat)
     case atStart => exact ⟨0, by omega, rfl, by simp⟩
     case round =>
      obtain ⟨k, hk, rfl, rfl⟩ := hrel
      by_cases hk4 : k < 4
      · go_wp2_with fail
        go_loop [6, 7, 8] (RefBit a k n (l.drop a)) (fun _ _ bv => 6 * k + 6 - (intOf bv).toNat)
        case atStart => exact ⟨6 * k, false, by go_num, by omega, by omega, by simp [bitsTo], rfl, by show false = _; simp⟩
        case round =>
         obtain ⟨t, th, rfl, ht1, ht2, rfl, rfl, hth⟩ := hrel
         by_cases ht6 : t < 6 * k + 6
         · have hvb : bitsTo (l.drop a) k (t - 6 * k) < 64 := by
            have h1 := bitsTo_lt (l.drop a) k (t - 6 * k)
            have h2 : 2 ^ (t - 6 * k) ≤ 2 ^ 6 := Nat.pow_le_pow_right (by omega) (by omega)
            omega
           have hst : Hid (bitsTo (l.drop a) k (t + 1 - 6 * k) = bitsTo (l.drop a) k (t - 6 * k) * 2 + bitAt (l.drop a) t) := by
            show _ = _
            rw [show t + 1 - 6 * k = (t - 6 * k) + 1 by omega]
            show bitsTo (l.drop a) k (t - 6 * k) * 2 + bitAt (l.drop a) (6 * k + (t - 6 * k)) = _
            rw [show 6 * k + (t - 6 * k) = t by omega]
           have hbd : bitAt (l.drop a) t = nth l (a + t / 8) / 2 ^ (7 - t % 8) % 2 := by unfold bitAt; rw [nth_drop]
           have Hbd := Lib.hid hbd; clear hbd
           by_cases hi : a + t / 8 < n
           · have hci := hcell (a + t / 8) hi
             have hn8 := nth_lt l (a + t / 8)
             obtain ⟨q, hq⟩ : ∃ q, q = nth l (a + t / 8) / 2 ^ (7 - t % 8) % 2 := ⟨_, rfl⟩
             have hq2 : q < 2 := by rw [hq]; exact Nat.mod_lt _ (by omega)
             have hand : bits .and .i64 ((nth l (a + t / 8) : Int) / 2 ^ (7 - t % 8)) 1 = (q : Int) := by
              have h := i64_and (nth l (a + t / 8) / 2 ^ (7 - t % 8)) 1 (Nat.lt_of_le_of_lt (Nat.div_le_self _ _) (by omega)) (by omega)
              rw [Nat.and_one_is_mod, ← hq] at h
              simpa using h
             have Hq := Lib.hid hq; clear hq
             generalize bitsTo (l.drop a) k (t - 6 * k) = v at hst hvb ⊢
             go_wp2_with fail
             refine ⟨⟨t + 1, true, by go_num, by omega, by omega, ?_, rfl, ?_⟩, by simp [intOf]; omega⟩
             · rw [hst.out, Hbd.out, ← Hq.out]; go_num
             · show true = decide _
               simp; omega
           · have h0 : bitAt (l.drop a) t = 0 := by
              rw [Hbd.out, nth_ge l _ (by rw [Hl.out]; omega)]; simp
             have H0 := Lib.hid h0; clear h0
             generalize bitsTo (l.drop a) k (t - 6 * k) = v at hst hvb ⊢
             go_wp2_with fail
             refine ⟨⟨t + 1, th, by go_num, by omega, by omega, ?_, rfl, ?_⟩, by simp [intOf]; omega⟩
             · rw [hst.out, H0.out]; go_num
             · show th = decide _
               rw [hth.out]
               congr 1
               simp only [eq_iff_iff]
               omega
         · have hte : t - 6 * k = 6 := by omega
           have hq6 := bits_six (l.drop a) k hk4
           have hql := bitsTo_lt (l.drop a) k 6
           rw [hte]
           generalize bitsTo (l.drop a) k 6 = v at hq6 hql ⊢
           have hth2 : Hid (th = decide (a + 6 * k / 8 < n)) := by
            have h := hth.out
            show th = _
            rw [h]; simp; omega
           have Hq6 := Lib.hid hq6
           have hv64 : v < 64 := by omega
           clear hte hth hq6 hql
           cases th
           · have hgt : ¬ a + 6 * k / 8 < n := by have := hth2.out; simp at this; omega
             have hqt := quad_take (l.drop a) k hk4
             rw [quadL_gt (by simp [Hl.out]; omega)] at hqt
             have Hqt := Lib.hid hqt; clear hqt
             have htl : ((quad (l.drop a)).take k).length ≤ 4 := by simp; omega
             go_wp2_with fail
             exact ⟨⟨k + 1, by omega, by go_num, by rw [Hqt.out]⟩, by simp [intOf]; omega⟩
           · have hgt : a + 6 * k / 8 < n := by have := hth2.out; simp at this; omega
             have hsl := fun W => slice_letters W v hv64
             have htl : ((quad (l.drop a)).take k).length ≤ 4 := by simp; omega
             go_wp2_with ((with_reducible refine wpList_slice rfl 9 (.const _) (some (.tmp 64)) (some (.tmp 66)) none rfl ?hs ?_); case hs => exact hsl _)
             refine ⟨⟨k + 1, by omega, by go_num, ?_⟩, by simp [intOf]; omega⟩
             have hqt := quad_take (l.drop a) k hk4
             rw [quadL_le (by simp [Hl.out]; omega), ← Hq6.out] at hqt
             rw [hqt]
      · have hk44 : k = 4 := by omega
        have HK := Lib.hid hk44; clear hk44
        go_wp2_with fail
        refine ⟨⟨a + 3, out1 ++ quad (l.drop a), ?_, by go_num, by omega, by omega, hE1⟩, by simp [intOf]; omega⟩
        rw [HK.out, List.take_of_length_le (Nat.le_of_eq (quad_len _))]
  · have ho : out = T := by
     have h := hE.out
     rw [List.drop_of_length_le (by rw [Hl.out]; omega), enc_nil] at h
     simpa using h
    subst ho
    go_wp2_with fail
    go_ret
    exact ⟨rfl, rfl⟩
/-- The state of QuoteText's loop. -/
def QtRel (w : World) (n : Nat) (l T : List UInt8) (ov lv iv : Value) (wr : World) : Prop :=
 ∃ (i : Nat) (out line : List UInt8), iv = .int .i64 (i : Nat) ∧ ov = str out ∧ lv = str line ∧ i ≤ n ∧ line.length ≤ 75 ∧ Hid (out ++ line ++ encQ line.length (l.drop i) = T) ∧ Below w.heap.size w wr
theorem i64_of (x : Nat) (hx : x < 256) : IntKind.i64.wrap (x : Int) = (x : Int) := IntWalk.i64_in _ (by omega)
theorem RQText_any (A : Option Addr) (n c : Nat) (l : List UInt8) (w : World) (hb : By w w.heap.size A n l) (_hn : n ≤ c) (hc : n ≤ 4000) (hD : DeOk w) :
 Calls Tryz.prog 35 #[.slice A n c] w fun e w' => e = .returned (str (encQ 0 l)) ∧ Below w.heap.size w w' := by
 obtain ⟨T, hT⟩ : ∃ T, T = encQ 0 l := ⟨_, rfl⟩
 have hl := hb.len
 have hTl : T.length ≤ 24000 := by
  have := encQ_len l 0
  rw [hT]; omega
 rw [← hT]
 have HT := Lib.hid hT; have Hl := Lib.hid hl; clear hT hl
 have HD := Lib.hid hD
 clear hD
 go_enter Tryz.func35, Tryz.ntmps35
 go_wp2_with fail
 go_loopw [3, 4, 10] (QtRel w n l T) (fun _ _ iv _ => n - (intOf iv).toNat)
 case atStart => exact ⟨0, [], [], rfl, rfl, rfl, by omega, by simp, by show [] ++ [] ++ encQ 0 l = T; rw [HT.out]; rfl, Below.refl _ _⟩
 case round =>
  obtain ⟨i, out, line, rfl, rfl, rfl, hi, hw, hE, hbel⟩ := hrel
  by_cases hin : i < n
  · have hby := hb.below hbel
    obtain ⟨b, off, rfl, _, hcell⟩ := hby.at_ hin
    obtain ⟨x, hx, hd⟩ : ∃ x : UInt8, x.toNat = nth l i ∧ l.drop i = x :: l.drop (i + 1) :=
     ⟨l[i]'(by rw [Hl.out]; exact hin), by rw [nth_of l i (by rw [Hl.out]; exact hin)], List.drop_eq_getElem_cons (by rw [Hl.out]; exact hin)⟩
    rw [← hx] at hcell
    have hE2 : out ++ line ++ encQ line.length (x :: l.drop (i + 1)) = T := by rw [← hd]; exact hE.out
    have hol : out.length + line.length ≤ 24000 := by have := congrArg List.length hE2; simp at this; omega
    have hts := run_toStr (P := Tryz.prog) (wr.alloc (.cells #[.int .u8 (x.toNat : Int)] 5)) 22 9 5 _ _ 1 1 [x] (By.block wr [x] rfl) Tryz.underlying22 Tryz.underlying5 Tryz.underlying9
    have h75 := encQ_wide T out line x (l.drop (i + 1)) hE2
    have h76 := encQ_fits T out line x (l.drop (i + 1)) hE2
    have hx256 := x.toNat_lt
    have h64 := i64_of x.toNat hx256
    have hp1 := one_plainQ x
    have ho1 := one_out1 x
    have ho2 := one_out2 x
    have hone := oneQ_len x
    have hpq : plainQ x.toNat = (decide (32 < x.toNat) && decide (x.toNat ≤ 126) && !(x.toNat == 61)) := rfl
    have KF := Lib.hid (fun X (h : DeOk X) => FormatInt_16 x.toNat hx256 X h)
    have KU := Lib.hid (fun X => ToUpper_any (fmtQ x.toNat) X (by rw [fmt_len]; split <;> omega) (fmt_ascii ⟨x.toNat, hx256⟩))
    have hfl : (Lib.toUpperA (fmtQ x.toNat)).length = if x.toNat < 16 then 1 else 2 := by rw [up_len, fmt_len]
    generalize Lib.toUpperA (fmtQ x.toNat) = f at *
    generalize fmtQ x.toNat = f0 at *
    have hsz0 : Below w.heap.size w (wr.alloc (.cells #[.int .u8 (x.toNat : Int)] 5)) := hbel.alloc hbel.size _
    have HB0 := Lib.hid hsz0
    clear hE hx hd hE2 hsz0
    obtain ⟨q, hq⟩ : ∃ q, q = oneQ x := ⟨_, rfl⟩
    rw [← hq] at h75 h76 hp1 ho1 ho2 hone
    obtain ⟨R, hR⟩ : ∃ R, R = l.drop (i + 1) := ⟨_, rfl⟩
    rw [← hR] at h75 h76
    have HR := Lib.hid hR
    clear hq hR
    have hts' := hts
    generalize x.toNat = y at *
    have fin75 : 75 < line.length + q.length → Hid ((out ++ (line ++ [61, 13, 10])) ++ q ++ encQ q.length (l.drop (i + 1)) = T) := fun h => by show _ = _; rw [← HR.out, ← List.append_assoc out]; exact h75 h
    have fin76 : ¬ 75 < line.length + q.length → Hid (out ++ (line ++ q) ++ encQ (line ++ q).length (l.drop (i + 1)) = T) := fun h => by show _ = _; rw [← HR.out]; exact h76 h
    clear h75 h76 HR
    by_cases hpl : plainQ y = true
    · obtain rfl := hp1 hpl
      rw [hpq] at hpl
      clear ho1 ho2 hfl hts' hpq hp1 hone
      simp only [Bool.and_eq_true, decide_eq_true_eq, Bool.not_eq_true', beq_eq_false_iff_ne] at hpl
      obtain ⟨⟨p1, p2⟩, p3⟩ := hpl
      have d1 : decide ((y : Int) < 33) = false := decide_eq_false (by omega)
      have d2 : decide ((126 : Int) < (y : Int)) = false := decide_eq_false (by omega)
      have d3 : ((y : Int) == 61) = false := by rw [beq_eq_false_iff_ne]; omega
      by_cases hw75 : 75 < line.length + 1
      · have d4 : decide ((75 : Int) < (line.length : Int) + 1) = true := decide_eq_true (by omega)
        have Hf := fin75 hw75
        clear fin75 fin76
        go_wp2_with fail
        exact ⟨⟨i + 1, _, [x], by go_num, rfl, rfl, by omega, by simp, Hf, HB0.out⟩, by simp [intOf]; omega⟩
      · have d4 : decide ((75 : Int) < (line.length : Int) + 1) = false := decide_eq_false (by omega)
        have d5 : (line.length : Int) + 1 ≤ 75 := by omega
        have Hf := fin76 hw75
        clear fin75 fin76
        go_wp2_with fail
        exact ⟨⟨i + 1, _, line ++ [x], by go_num, rfl, rfl, by omega, by simp; omega, Hf, HB0.out⟩, by simp [intOf]; omega⟩
    · have hpl : plainQ y = false := by simpa using hpl
      have ways : y < 33 ∨ (33 ≤ y ∧ 126 < y) ∨ (33 ≤ y ∧ y ≤ 126 ∧ y = 61) := by
       rw [hpq] at hpl
       by_cases a1 : y < 33
       · exact .inl a1
       · by_cases a2 : 126 < y
         · exact .inr (.inl ⟨by omega, a2⟩)
         · refine .inr (.inr ⟨by omega, by omega, ?_⟩)
           have b1 : decide (32 < y) = true := decide_eq_true (by omega)
           have b2 : decide (y ≤ 126) = true := decide_eq_true (by omega)
           rw [b1, b2] at hpl
           simpa using hpl
      have ho1 := ho1 hpl
      have ho2 := ho2 hpl
      have hq13 : q.length ≤ 3 := by omega
      clear hpq hp1 hone hpl
      rcases ways with a1 | ⟨a0, a1⟩ | ⟨a0, a2, a1⟩
      case' inl =>
       have d1 : decide ((y : Int) < 33) = true := decide_eq_true (by omega)
       clear hts'
       go_wp2_with fail
      case' inr.inl =>
       have d1 : decide ((y : Int) < 33) = false := decide_eq_false (by omega)
       have d2 : decide ((126 : Int) < (y : Int)) = true := decide_eq_true (by omega)
       clear hts'
       go_wp2_with fail
      case' inr.inr =>
       have d1 : decide ((y : Int) < 33) = false := decide_eq_false (by omega)
       have d2 : decide ((126 : Int) < (y : Int)) = false := decide_eq_false (by omega)
       have d3 : ((y : Int) == 61) = true := by rw [beq_iff_eq]; omega
       clear hts' a1
       go_wp2_with fail
      all_goals
       refine (KF.out _ (HD.out.below HB0.out)).mono ?_
       rintro e w1 ⟨rfl, hb1⟩
       have hbel1 := HB0.out.trans (hb1.mono HB0.out.size)
       go_wp2_with fail
       refine (KU.out _).mono ?_
       rintro e w2 ⟨rfl, hb2⟩
       have hbel2 := hbel1.trans (hb2.mono hbel1.size)
       clear hb1 hb2 hbel1
       by_cases h16 : y < 16
       · have hq := ho1 h16
         have hfl : f.length = 1 := by rw [hfl, if_pos h16]
         have HQ := Lib.hid (show 61 :: 48 :: f = q from hq)
         have hql : q.length = 3 := by rw [← hq]; simp [hfl]
         clear ho1 ho2 hq hts
         by_cases hw75 : 75 < line.length + q.length
         · have d4 : decide ((75 : Int) < (line.length : Int) + 3) = true := decide_eq_true (by omega)
           have Hf := fin75 hw75
           rw [hql] at hw75
           clear fin75 fin76
           go_wp2_with fail
           try rw [HQ.out]
           exact ⟨⟨i + 1, _, q, by go_num, rfl, rfl, by omega, by omega, Hf, hbel2⟩, by simp [intOf]; omega⟩
         · have d4 : decide ((75 : Int) < (line.length : Int) + 3) = false := decide_eq_false (by omega)
           have d5 : (line.length : Int) + 3 ≤ 75 := by omega
           have Hf := fin76 hw75
           rw [hql] at hw75
           clear fin75 fin76
           go_wp2_with fail
           try rw [HQ.out]
           exact ⟨⟨i + 1, _, line ++ q, by go_num, rfl, rfl, by omega, by rw [List.length_append]; omega, Hf, hbel2⟩, by simp [intOf]; omega⟩
       · have hq := ho2 h16
         have hfl : f.length = 2 := by rw [hfl, if_neg h16]
         have HQ := Lib.hid (show 61 :: f = q from hq)
         have hql : q.length = 3 := by rw [← hq]; simp [hfl]
         clear ho1 ho2 hq hts
         by_cases hw75 : 75 < line.length + q.length
         · have d4 : decide ((75 : Int) < (line.length : Int) + 3) = true := decide_eq_true (by omega)
           have Hf := fin75 hw75
           rw [hql] at hw75
           clear fin75 fin76
           go_wp2_with fail
           try rw [HQ.out]
           exact ⟨⟨i + 1, _, q, by go_num, rfl, rfl, by omega, by omega, Hf, hbel2⟩, by simp [intOf]; omega⟩
         · have d4 : decide ((75 : Int) < (line.length : Int) + 3) = false := decide_eq_false (by omega)
           have d5 : (line.length : Int) + 3 ≤ 75 := by omega
           have Hf := fin76 hw75
           rw [hql] at hw75
           clear fin75 fin76
           go_wp2_with fail
           try rw [HQ.out]
           exact ⟨⟨i + 1, _, line ++ q, by go_num, rfl, rfl, by omega, by rw [List.length_append]; omega, Hf, hbel2⟩, by simp [intOf]; omega⟩
  · have ho : out ++ line = T := by
     have h := hE.out
     rw [List.drop_of_length_le (by rw [Hl.out]; omega)] at h
     simpa [encQ] using h
    have hol : out.length + line.length ≤ 24000 := by rw [← List.length_append, ho]; exact hTl
    have HO := Lib.hid ho
    clear ho
    go_wp2_with fail
    go_ret
    exact ⟨by rw [HO.out]; rfl, hbel⟩
theorem RBText_any (A : Option Addr) (n c : Nat) (l : List UInt8) (w : World) (hb : By w w.heap.size A n l) (hc : n ≤ 4000) :
 Calls Tryz.prog 34 #[.slice A n c] w fun e w' => e = .returned (str (enc 0 l)) ∧ w = w' :=
 BaseText_any A n c l w hb hc
/-- What stands ahead of the empty line, but for how the body is written. -/
def hdT (t cs b id loc : List UInt8) : List UInt8 :=
 ctN ++ [58, 32] ++ t ++ (if cs = [] then [] else csS ++ cs) ++ (if b = [] then [] else bdS ++ b ++ [34]) ++ [13, 10] ++ (if id = [] then [] else idN ++ [58, 32, 60] ++ id ++ [62, 13, 10]) ++ (if loc = [] then [] else locN ++ [58, 32] ++ loc ++ [13, 10])
theorem hd_text (t cs id loc b : List UInt8) (how : Int) : textF (fieldsM t cs id loc how b) = hdT t cs b id loc ++ (if b = [] then cteN ++ [58, 32] ++ howS how ++ [13, 10] else []) ++ [13, 10] := by
 unfold textF fieldsM hdT typeV
 by_cases h1 : cs = [] <;> by_cases h2 : b = [] <;> by_cases h3 : id = [] <;> by_cases h4 : loc = [] <;> simp [h1, h2, h3, h4, lineF, ctN, idN, locN, cteN, csS, bdS]
theorem wrap_join (b : List UInt8) : ∀ (l : List (List UInt8)), l ≠ [] → wrapM b l = [45, 45] ++ b ++ [13, 10] ++ Lib.join l ([13, 10, 45, 45] ++ b ++ [13, 10]) ++ [13, 10, 45, 45] ++ b ++ [45, 45, 13, 10]
 | [], h => absurd rfl h
 | [x], _ => by rw [wrapM, wrapM, Lib.join_one]; simp
 | x :: y :: r, _ => by
  have ih := wrap_join b (y :: r) (by simp)
  have e : Lib.join (x :: y :: r) ([13, 10, 45, 45] ++ b ++ [13, 10]) = x ++ (([13, 10, 45, 45] ++ b ++ [13, 10]) ++ Lib.join (y :: r) ([13, 10, 45, 45] ++ b ++ [13, 10])) := by
   rw [Lib.join_cons, Lib.join_cons]
   simp [Lib.joinTail]
  rw [wrapM, ih, e]
  simp
theorem text_doc_many {t cs id loc body : List UInt8} {how : Int} {parts : List PartD} (h : manyB t = true) (hp : parts ≠ []) :
 textM ⟨t, cs, id, loc, how, body, parts⟩ = hdT t cs (bordM (bordN (nlJ (textsM parts)))) id loc ++ ([13, 10, 45, 45] ++ bordM (bordN (nlJ (textsM parts))) ++ [13, 10] ++ Lib.join (textsM parts) ([13, 10, 45, 45] ++ bordM (bordN (nlJ (textsM parts))) ++ [13, 10]) ++ [13, 10, 45, 45] ++ bordM (bordN (nlJ (textsM parts))) ++ [45, 45, 13, 10]) := by
 have hne : textsM parts ≠ [] := by
  cases parts with
  | nil => exact absurd rfl hp
  | cons p ps => rw [textsM]; simp
 rw [textM, if_pos h, hd_text, wrap_join _ _ hne, if_neg (by simp [bordM])]
 simp
theorem text_doc_leaf {t cs id loc body : List UInt8} {how : Int} {parts : List PartD} (h : manyB t = false) :
 textM ⟨t, cs, id, loc, how, body, parts⟩ = hdT t cs [] id loc ++ (cteN ++ [58, 32] ++ howS how ++ [13, 10, 13, 10] ++ encM how body) := by
 rw [textM, if_neg (by simp [h]), hd_text, if_pos rfl]
 simp
theorem mark_row (n : Nat) (l : List (List UInt8)) : hasS (nlJ l) (markM n) = l.any (fun k => hasS k (markM n)) := by
 refine has_row ?_ ?_ l
 · refine not10 (border := bordM n) fun x hx => ?_
   rcases bord_mem _ x hx with rfl | rfl | h
   · decide
   · decide
   · omega
 · simp [markM]
theorem strs_data (l : List (List UInt8)) : (l.map fun x => (⟨x.toArray⟩ : ByteArray)).map (fun s => s.data.toList) = l := by
 rw [List.map_map]
 conv => rhs; rw [← List.map_id l]
 exact List.map_congr_left fun _ _ => rfl
theorem JoinS_any (l : List (List UInt8)) (sep : List UInt8) (S : Option Addr) (c B : Nat) (w : World) (h : Sl w B 1 S l.length (l.map str)) (hB : B ≤ w.heap.size) (hc : l.length ≤ c) (hn : l.length ≤ 100000000) (hlen : (Lib.join l sep).length ≤ 100000000) :
 Calls Tryz.prog 33 #[.slice S l.length c, .string ⟨sep.toArray⟩] w fun e w' => e = .returned (str (Lib.join l sep)) ∧ Below w.heap.size w w' := by
 rcases l with _ | ⟨x, r⟩
 · refine (Go.Proofs.Tryz.strings_Join_none S c ⟨sep.toArray⟩ w).mono ?_
   rintro e w' ⟨rfl, rfl⟩
   exact ⟨rfl, Below.refl _ _⟩
 · obtain ⟨b, off, rfl, hb, hcell⟩ := h.2 (by simp)
   have e1 := strs_data (x :: r)
   have hk := Go.Proofs.Tryz.strings_Join b off c ((x :: r).map fun l => (⟨l.toArray⟩ : ByteArray)) ⟨sep.toArray⟩ w (fun j y hy => by
    refine hcell j _ ?_
    rw [List.getElem?_map] at hy ⊢
    cases hq : (x :: r)[j]? with
    | none => rw [hq] at hy; cases hy
    | some z => rw [hq] at hy; simp at hy; subst hy; rfl) (Nat.lt_of_lt_of_le hb hB) (by simp at hn ⊢; omega) (by simpa using hc) (by rw [e1]; show (Lib.join (x :: r) sep).length ≤ _; omega)
   rw [e1] at hk
   simp only [List.length_map] at hk
   exact hk
end Go.Proofs.YtinfjdfhkfhgjaaGreatDoor

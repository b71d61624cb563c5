import Derived.Test.YtdhmmepcnladcaaDoorPart5
namespace Go.Proofs.YtdhmmepcnladcaaDoor
open Go.RowKit

/-- What is checked is small. -/
theorem chk_body (q : PartD) (h : chkD q = 0) : q.body.length ≤ 4000 := by
  unfold chkD chkB at h
  split at h
  · cases h
  · split at h
    · cases h
    · split at h
      · cases h
      · rename_i h1; simp at h1; omega
theorem firstErr_all : ∀ (L : List PartD), firstErr L = 0 → ∀ q ∈ L, chkD q = 0
  | [], _ => by simp
  | x :: L, h => by
    unfold firstErr at h
    split at h
    · rename_i h0
      intro q hq
      rcases List.mem_cons.1 hq with rfl | hq
      · exact h0
      · exact firstErr_all L h q hq
    · rename_i h0; exact absurd h h0
theorem checkD_ok (p : PartD) (h : checkD p = 0) : (flatD p).length ≤ 12 ∧ (∀ q ∈ flatD p, chkD q = 0) := by
  cases hc : cntD 3 p with
  | none => rw [checkD_none p hc] at h; cases h
  | some c =>
    rw [checkD_some p c hc] at h
    have := cntD_flat 3 p c hc
    have := cntD_le 3 p c hc
    exact ⟨by omega, firstErr_all _ h⟩
def bareD (q : PartD) : PartD := { q with parts := [] }
theorem bare_at {S : Nat → Prop} {w : World} {q : PartD} {v0 v1 v2 v3 v4 v5 v6 : Value} (h : PartAt S w q [v0, v1, v2, v3, v4, v5, v6]) : PartAt S w (bareD q) [v0, v1, v2, v3, v4, v5, .slice none 0 0] := by
  obtain ⟨t, cs, id, loc, how, body, parts⟩ := q
  obtain ⟨A, n, c, A2, n2, c2, rows, hv, h1, h2, h3, h4, _⟩ := h
  simp only [List.cons.injEq, and_true] at hv
  obtain ⟨rfl, rfl, rfl, rfl, rfl, rfl, _⟩ := hv
  exact ⟨A, n, c, none, 0, 0, [], rfl, h1, h2, h3, h4, ⟨rfl, fun h => absurd h (by omega)⟩, Nat.le_refl _, Nat.zero_le _, rfl⟩

theorem flat7_set6 (done : List (List Value)) (hd : ∀ r ∈ done, r.length = 7) (r0 r1 r2 r3 r4 r5 r6 u6 : Value) (rest : List (List Value)) :
    (done ++ [r0, r1, r2, r3, r4, r5, r6] :: rest).flatten.set (done.length * 7 + 6) u6 = (done ++ [[r0, r1, r2, r3, r4, r5, u6]] ++ rest).flatten := by
  have hl := flat7_len done hd
  rw [← hl, List.append_assoc]
  simp only [List.flatten_append, List.flatten_cons]
  generalize done.flatten = D
  rw [List.set_append_right _ _ (by omega), Nat.add_sub_cancel_left]
  rfl
/-- What part.All leaves. -/
def AllOut (p : PartD) (w : World) (e : Ending) (w' : World) : Prop :=
  ∃ S c, e = .returned (.tuple #[.slice S (if checkD p = 0 then (flatD p).length else 0) c, .int .i64 (checkD p : Nat)]) ∧ SlP (· < w'.heap.size) w' S (if checkD p = 0 then (flatD p).length else 0) (if checkD p = 0 then (flatD p).map bareD else []) ∧
    (if checkD p = 0 then (flatD p).length else 0) ≤ c ∧ c ≤ maxLen ∧ Below w.heap.size w w'
def AllRel2 (L : List PartD) (B n : Nat) (S : Option Addr) (c : Nat) (w1 : World) (iv : Value) (wr : World) : Prop :=
  ∃ i done rest, iv = .int .i64 (i : Nat) ∧ i ≤ n ∧ done.length = i ∧ wr.ownsRow w1.heap.size 25 7 (.slice S n c) n (done ++ rest).flatten ∧ PartsAt (· < B) wr ((L.take i).map bareD) done ∧ PartsAt (· < B) wr (L.drop i) rest ∧ Below w1.heap.size w1 wr
set_option maxRecDepth 100000 in
set_option maxHeartbeats 2000000 in
theorem All_any (p : PartD) (v : List Value) (w : World) (hp : PartAt (· < w.heap.size) w p v) :
    Calls Tryd.prog 11 #[.agg v.toArray] w (AllOut p w) := by
  have hok := checkD_ok p
  have hck := PCheck_any p v
  obtain ⟨A, c, A2, c2, rfl, _⟩ := hp.open
  obtain ⟨W, hW⟩ : ∃ W, W = w.alloc (.cells #[str p.type, str p.cs, str p.id, str p.loc, .int .i64 p.how, .slice A p.body.length c, .slice A2 p.parts.length c2] 25) := ⟨_, rfl⟩
  have hbW : Below w.heap.size w W := by rw [hW]; exact (Below.refl _ w).alloc (Nat.le_refl _) _
  have hbx : Box7 W w.heap.size (str p.type) (str p.cs) (str p.id) (str p.loc) (.int .i64 p.how) (.slice A p.body.length c) (.slice A2 p.parts.length c2) := by rw [hW]; exact Box7.new w _ _ _ _ _ _ _ _
  have hpW := hp.below hbW
  have hcW := hck W (hpW.more hbW.size)
  unfold AllOut
  generalize checkD p = R at hcW hok ⊢
  obtain ⟨n2, hn2⟩ : ∃ n2, n2 = p.parts.length := ⟨_, rfl⟩
  obtain ⟨n1, hn1⟩ : ∃ n1, n1 = p.body.length := ⟨_, rfl⟩
  have HcW := Lib.hid hcW
  have Hp := Lib.hid hp
  clear hck hcW hpW hp
  by_cases hR : R = 0
  · subst hR
    obtain ⟨hl12, hch⟩ := hok rfl
    have Hch := Lib.hid hch
    simp only [if_true]
    clear hok hch
    go_enter Tryd.func11, Tryd.ntmps11
    go_wp2_with fail
    rw [← hW]
    clear hW
    refine HcW.out.mono ?_
    clear HcW
    rintro e w1 ⟨rfl, hb1⟩
    have hbel1 := hbW.trans (hb1.mono hbW.size)
    have hbx1 := hbx.below hb1
    have ⟨x0, x1, x2, x3, x4, x5, x6⟩ := hbx1
    have hcp := Copy_any 12 p _ w1 hl12 (by omega) (fun q hq => chk_body q (Hch.out q hq)) ((Hp.out.below hbel1).more hbel1.size)
    have Hcp := Lib.hid hcp
    clear hbx hbx1 hcp hb1 hbW
    go_wp2_with fail
    refine Hcp.out.mono ?_
    clear Hcp x0 x1 x2 x3 x4 x5 x6
    rintro e w2 ⟨v2, rfl, hpv, hb2⟩
    have hbel2 := hbel1.trans (hb2.mono hbel1.size)
    have hpv2 : PartAt (· < w2.heap.size) w2 p v2 := PartAt.change (fun b hb => hb.2) (fun _ _ => rfl) _ _ hpv
    have hal := all_any 12 p v2 w2.heap.size w2 hl12 (by omega) (Nat.le_refl _) hpv2
    have Hal := Lib.hid hal
    clear hal hpv hpv2
    go_wp2_with fail
    refine Hal.out.mono ?_
    clear Hal
    generalize hL : flatD p = L
    rintro e w3 ⟨S, c3, rows, rfl, hown, hrows, hb3⟩
    have hbel3 := hbel2.trans (hb3.mono hbel2.size)
    have hn12 : L.length ≤ 12 := by rw [← hL]; exact hl12
    have hc3 := own_cap hown
    have hcm3 := own_capmax hown
    obtain ⟨n, hn⟩ : ∃ n, n = L.length := ⟨_, rfl⟩
    rw [← hn] at hown hn12 hc3 ⊢
    have Hn := Lib.hid hn
    have Hown := Lib.hid hown
    have Hrows := Lib.hid hrows
    have Hcm3 := Lib.hid hcm3
    have HL := Lib.hid hL
    clear hown hrows hL hn hb2 hbel1 hcm3
    go_wp2_with fail
    go_loopw [17] (AllRel2 L w2.heap.size n S c3 w2) (fun iv _ => n - (intOf iv).toNat)
    case atStart => exact ⟨0, [], rows, rfl, Nat.zero_le _, rfl, Hown.out, rfl, Hrows.out, hb3⟩
    case round =>
      obtain ⟨i, done, rest, rfl, hi, hdl, hown, hpd, hpr, hbel⟩ := hrel
      by_cases hin : i < n
      · obtain ⟨g, cap, hv, hgb, hgl⟩ := hown.form (by omega)
        injection hv with hS2 _ hcap
        subst hS2
        subst hcap
        have hiL : i < L.length := by rw [← Hn.out]; exact hin
        rw [List.drop_eq_getElem_cons hiL] at hpr
        obtain ⟨r, rs, rfl, hpq, hprs⟩ := hpr
        have hpd7 := PartsAt.rows _ _ hpd
        have ht : (L.take (i + 1)).map bareD = (L.take i).map bareD ++ [bareD L[i]] := by rw [List.take_succ_eq_append_getElem hiL, List.map_append]; rfl
        generalize L[i] = q at hpq ht
        obtain ⟨A', c', A2', c2', rfl, _⟩ := hpq.open
        have hrw7 : ∀ x ∈ done ++ [str q.type, str q.cs, str q.id, str q.loc, .int .i64 q.how, .slice A' q.body.length c', .slice A2' q.parts.length c2'] :: rs, x.length = 7 := by
          intro x hx
          rcases List.mem_append.1 hx with hx | hx
          · exact hpd7 x hx
          · rcases List.mem_cons.1 hx with rfl | hx
            · rfl
            · exact PartsAt.rows _ _ hprs x hx
        have q6 : wr.cell? ⟨g, i * 7 + 6, none⟩ = some (.slice A2' q.parts.length c2') := by
          rw [hown.cellAt _ (by omega), flat7_at _ hrw7 i 6 _ (by rw [List.getElem?_append_right (by omega), hdl, Nat.sub_self]; rfl) (by omega)]
          rfl
        have f6 : wr.frozen? ⟨g, i * 7 + 6, none⟩ = false := hown.frozenAt _
        have hown7 := (hown.stored (i * 7 + 6) (.slice none 0 0)).1
        have hfs := flat7_set6 done hpd7 (str q.type) (str q.cs) (str q.id) (str q.loc) (.int .i64 q.how) (.slice A' q.body.length c') (.slice A2' q.parts.length c2') (.slice none 0 0) rs
        rw [hdl] at hfs
        rw [hfs] at hown7
        have hbel7 := hbel.setCell (p := ⟨g, i * 7 + 6, none⟩) hgb (.slice none 0 0)
        have far : ∀ a : Addr, a.block < w2.heap.size → (wr.setCell ⟨g, i * 7 + 6, none⟩ (.slice none 0 0)).cell? a = wr.cell? a := fun a ha => World.cell?_setCell_other _ _ _ _ (by rintro rfl; simp at ha; omega)
        have h1 := PartsAt.change (fun _ h => h) far _ _ hpd
        have h2 := PartsAt.change (fun _ h => h) far _ _ hprs
        have h3 := PartAt.change (fun _ h => h) far _ _ (bare_at hpq)
        have Ht := Lib.hid ht
        have Hown7 := Lib.hid hown7
        have Hdl := Lib.hid hdl
        clear hfs hown hpd hpq hprs ht hown7 hdl hrw7
        go_wp2_with fail
        refine ⟨⟨i + 1, done ++ [[str q.type, str q.cs, str q.id, str q.loc, .int .i64 q.how, .slice A' q.body.length c', .slice none 0 0]], rs, by go_num, by omega, by simp [Hdl.out], Hown7.out, ?_, h2, hbel7⟩, by simp [intOf]; omega⟩
        rw [Ht.out]
        exact PartsAt.app _ _ _ _ h1 ⟨_, _, rfl, h3, rfl⟩
      · obtain rfl : i = n := by omega
        have Hown2 := Lib.hid hown
        have Hpd2 := Lib.hid hpd
        have Hpr2 := Lib.hid hpr
        clear hown hpd hpr
        go_wp2_with fail
        go_ret2
        have hn := Hn.out
        subst hn
        have hpr := Hpr2.out
        rw [List.drop_length] at hpr
        obtain rfl : rest = [] := hpr
        have hpd := Hpd2.out
        rw [List.take_length] at hpd
        have hown := Hown2.out
        rw [List.append_nil] at hown
        have hL := HL.out
        subst hL
        exact ⟨S, c3, rfl, ⟨done, Sl.of_own hown, PartsAt.change (fun b hb => Nat.lt_of_lt_of_le hb hbel.size) (fun _ _ => rfl) _ _ hpd⟩, hc3, Hcm3.out, hbel2.trans (hbel.mono hbel2.size)⟩
  · have hR1 : ((R : Int) != 0) = true := by simp; omega
    simp only [if_neg hR]
    clear hok
    go_enter Tryd.func11, Tryd.ntmps11
    go_wp2_with fail
    rw [← hW]
    clear hW
    refine HcW.out.mono ?_
    clear HcW hR
    rintro e w1 ⟨rfl, hb1⟩
    go_wp2_with fail
    go_ret2
    exact ⟨none, 0, rfl, SlP.nil_ _ _ _, Nat.le_refl _, Nat.zero_le _, hbW.trans (hb1.mono hbW.size)⟩
end Go.Proofs.YtdhmmepcnladcaaDoor

import Derived.Test.YtlbdnohnngkapaaGreatDoorU6
import Derived.Test.YtlbdnohnngkapaaGreatDoorU1
import Derived.Laws.EntriesVeiled
import Derived.Test.YtlbdnohnngkapaaGreatDoorU3
namespace Go.Proofs.YtlbdnohnngkapaaGreatDoor
open Go.RowKit

/-- What is checked is small. -/
theorem chk_body (q : PartD) (h : chkD q = 0) : q.body.length ≤ 4000 := by
  unfold chkD chkB at h
  split at h
  · cases h
  · split at h
    · cases h
    · split at h
      · cases h
      · rename_i h1; simp at h1; omega
theorem firstErr_all : ∀ (L : List PartD), firstErr L = 0 → ∀ q ∈ L, chkD q = 0
  | [], _ => by simp
  | x :: L, h => by
    unfold firstErr at h
    split at h
    · rename_i h0
      intro q hq
      rcases List.mem_cons.1 hq with rfl | hq
      · exact h0
      · exact firstErr_all L h q hq
    · rename_i h0; exact absurd h h0
theorem checkD_ok (p : PartD) (h : checkD p = 0) : (flatD p).length ≤ 12 ∧ (∀ q ∈ flatD p, chkD q = 0) := by
  cases hc : cntD 3 p with
  | none => rw [checkD_none p hc] at h; cases h
  | some c =>
    rw [checkD_some p c hc] at h
    have := cntD_flat 3 p c hc
    have := cntD_le 3 p c hc
    exact ⟨by omega, firstErr_all _ h⟩
def bareD (q : PartD) : PartD := { q with parts := [] }
theorem bare_at {S : Nat → Prop} {w : World} {q : PartD} {v0 v1 v2 v3 v4 v5 v6 : Value} (h : PartAt S w q [v0, v1, v2, v3, v4, v5, v6]) : PartAt S w (bareD q) [v0, v1, v2, v3, v4, v5, .slice none 0 0] := by
  obtain ⟨t, cs, id, loc, how, body, parts⟩ := q
  obtain ⟨A, n, c, A2, n2, c2, rows, hv, h1, h2, h3, h4, _⟩ := h
  simp only [List.cons.injEq, and_true] at hv
  obtain ⟨rfl, rfl, rfl, rfl, rfl, rfl, _⟩ := hv
  exact ⟨A, n, c, none, 0, 0, [], rfl, h1, h2, h3, h4, ⟨rfl, fun h => absurd h (by omega)⟩, Nat.le_refl _, Nat.zero_le _, rfl⟩

theorem flat7_set6 (done : List (List Value)) (hd : ∀ r ∈ done, r.length = 7) (r0 r1 r2 r3 r4 r5 r6 u6 : Value) (rest : List (List Value)) :
    (done ++ [r0, r1, r2, r3, r4, r5, r6] :: rest).flatten.set (done.length * 7 + 6) u6 = (done ++ [[r0, r1, r2, r3, r4, r5, u6]] ++ rest).flatten := by
  have hl := flat7_len done hd
  rw [← hl, List.append_assoc]
  simp only [List.flatten_append, List.flatten_cons]
  generalize done.flatten = D
  rw [List.set_append_right _ _ (by omega), Nat.add_sub_cancel_left]
  rfl
/-- What part.All leaves. -/
def AllOut (p : PartD) (w : World) (e : Ending) (w' : World) : Prop :=
  ∃ S c, e = .returned (.tuple #[.slice S (if checkD p = 0 then (flatD p).length else 0) c, .int .i64 (checkD p : Nat)]) ∧ SlP (· < w'.heap.size) w' S (if checkD p = 0 then (flatD p).length else 0) (if checkD p = 0 then (flatD p).map bareD else []) ∧
    (if checkD p = 0 then (flatD p).length else 0) ≤ c ∧ c ≤ maxLen ∧ Below w.heap.size w w'
def AllRel2 (L : List PartD) (B n : Nat) (S : Option Addr) (c : Nat) (w1 : World) (iv : Value) (wr : World) : Prop :=
  ∃ i done rest, iv = .int .i64 (i : Nat) ∧ i ≤ n ∧ done.length = i ∧ wr.ownsRow w1.heap.size 25 7 (.slice S n c) n (done ++ rest).flatten ∧ PartsAt (· < B) wr ((L.take i).map bareD) done ∧ PartsAt (· < B) wr (L.drop i) rest ∧ Below w1.heap.size w1 wr
set_option maxRecDepth 100000 in
set_option maxHeartbeats 2000000 in
theorem All_any (p : PartD) (v : List Value) (w : World) (hp : PartAt (· < w.heap.size) w p v) :
    Calls Tryz.prog 39 #[.agg v.toArray] w (AllOut p w) := by
  have hok := checkD_ok p
  have hck := PCheck_any p v
  obtain ⟨A, c, A2, c2, rfl, _⟩ := hp.open
  obtain ⟨W, hW⟩ : ∃ W, W = w.alloc (.cells #[str p.type, str p.cs, str p.id, str p.loc, .int .i64 p.how, .slice A p.body.length c, .slice A2 p.parts.length c2] 25) := ⟨_, rfl⟩
  have hbW : Below w.heap.size w W := by rw [hW]; exact (Below.refl _ w).alloc (Nat.le_refl _) _
  have hbx : Box7 W w.heap.size (str p.type) (str p.cs) (str p.id) (str p.loc) (.int .i64 p.how) (.slice A p.body.length c) (.slice A2 p.parts.length c2) := by rw [hW]; exact Box7.new w _ _ _ _ _ _ _ _
  have hpW := hp.below hbW
  have hcW := hck W (hpW.more hbW.size)
  unfold AllOut
  generalize checkD p = R at hcW hok ⊢
  obtain ⟨n2, hn2⟩ : ∃ n2, n2 = p.parts.length := ⟨_, rfl⟩
  obtain ⟨n1, hn1⟩ : ∃ n1, n1 = p.body.length := ⟨_, rfl⟩
  have HcW := Lib.hid hcW
  have Hp := Lib.hid hp
  clear hck hcW hpW hp
  by_cases hR : R = 0
  · subst hR
    obtain ⟨hl12, hch⟩ := hok rfl
    have Hch := Lib.hid hch
    simp only [if_true]
    clear hok hch
    go_enter Tryz.func39, Tryz.ntmps39
    go_wp2_with fail
    rw [← hW]
    clear hW
    refine HcW.out.mono ?_
    clear HcW
    rintro e w1 ⟨rfl, hb1⟩
    have hbel1 := hbW.trans (hb1.mono hbW.size)
    have hbx1 := hbx.below hb1
    have ⟨x0, x1, x2, x3, x4, x5, x6⟩ := hbx1
    have hcp := Copy_any 12 p _ w1 hl12 (by omega) (fun q hq => chk_body q (Hch.out q hq)) ((Hp.out.below hbel1).more hbel1.size)
    have Hcp := Lib.hid hcp
    clear hbx hbx1 hcp hb1 hbW
    go_wp2_with fail
    refine Hcp.out.mono ?_
    clear Hcp x0 x1 x2 x3 x4 x5 x6
    rintro e w2 ⟨v2, rfl, hpv, hb2⟩
    have hbel2 := hbel1.trans (hb2.mono hbel1.size)
    have hpv2 : PartAt (· < w2.heap.size) w2 p v2 := PartAt.change (fun b hb => hb.2) (fun _ _ => rfl) _ _ hpv
    have hal := all_any 12 p v2 w2.heap.size w2 hl12 (by omega) (Nat.le_refl _) hpv2
    have Hal := Lib.hid hal
    clear hal hpv hpv2
    go_wp2_with fail
    refine Hal.out.mono ?_
    clear Hal
    generalize hL : flatD p = L
    rintro e w3 ⟨S, c3, rows, rfl, hown, hrows, hb3⟩
    have hbel3 := hbel2.trans (hb3.mono hbel2.size)
    have hn12 : L.length ≤ 12 := by rw [← hL]; exact hl12
    have hc3 := own_cap hown
    have hcm3 := own_capmax hown
    obtain ⟨n, hn⟩ : ∃ n, n = L.length := ⟨_, rfl⟩
    rw [← hn] at hown hn12 hc3 ⊢
    have Hn := Lib.hid hn
    have Hown := Lib.hid hown
    have Hrows := Lib.hid hrows
    have Hcm3 := Lib.hid hcm3
    have HL := Lib.hid hL
    clear hown hrows hL hn hb2 hbel1 hcm3
    go_wp2_with fail
    go_loopw [17] (AllRel2 L w2.heap.size n S c3 w2) (fun iv _ => n - (intOf iv).toNat)
    case atStart => exact ⟨0, [], rows, rfl, Nat.zero_le _, rfl, Hown.out, rfl, Hrows.out, hb3⟩
    case round =>
      obtain ⟨i, done, rest, rfl, hi, hdl, hown, hpd, hpr, hbel⟩ := hrel
      by_cases hin : i < n
      · obtain ⟨g, cap, hv, hgb, hgl⟩ := hown.form (by omega)
        injection hv with hS2 _ hcap
        subst hS2
        subst hcap
        have hiL : i < L.length := by rw [← Hn.out]; exact hin
        rw [List.drop_eq_getElem_cons hiL] at hpr
        obtain ⟨r, rs, rfl, hpq, hprs⟩ := hpr
        have hpd7 := PartsAt.rows _ _ hpd
        have ht : (L.take (i + 1)).map bareD = (L.take i).map bareD ++ [bareD L[i]] := by rw [List.take_succ_eq_append_getElem hiL, List.map_append]; rfl
        generalize L[i] = q at hpq ht
        obtain ⟨A', c', A2', c2', rfl, _⟩ := hpq.open
        have hrw7 : ∀ x ∈ done ++ [str q.type, str q.cs, str q.id, str q.loc, .int .i64 q.how, .slice A' q.body.length c', .slice A2' q.parts.length c2'] :: rs, x.length = 7 := by
          intro x hx
          rcases List.mem_append.1 hx with hx | hx
          · exact hpd7 x hx
          · rcases List.mem_cons.1 hx with rfl | hx
            · rfl
            · exact PartsAt.rows _ _ hprs x hx
        have q6 : wr.cell? ⟨g, i * 7 + 6, none⟩ = some (.slice A2' q.parts.length c2') := by
          rw [hown.cellAt _ (by omega), flat7_at _ hrw7 i 6 _ (by rw [List.getElem?_append_right (by omega), hdl, Nat.sub_self]; rfl) (by omega)]
          rfl
        have f6 : wr.frozen? ⟨g, i * 7 + 6, none⟩ = false := hown.frozenAt _
        have hown7 := (hown.stored (i * 7 + 6) (.slice none 0 0)).1
        have hfs := flat7_set6 done hpd7 (str q.type) (str q.cs) (str q.id) (str q.loc) (.int .i64 q.how) (.slice A' q.body.length c') (.slice A2' q.parts.length c2') (.slice none 0 0) rs
        rw [hdl] at hfs
        rw [hfs] at hown7
        have hbel7 := hbel.setCell (p := ⟨g, i * 7 + 6, none⟩) hgb (.slice none 0 0)
        have far : ∀ a : Addr, a.block < w2.heap.size → (wr.setCell ⟨g, i * 7 + 6, none⟩ (.slice none 0 0)).cell? a = wr.cell? a := fun a ha => World.cell?_setCell_other _ _ _ _ (by rintro rfl; simp at ha; omega)
        have h1 := PartsAt.change (fun _ h => h) far _ _ hpd
        have h2 := PartsAt.change (fun _ h => h) far _ _ hprs
        have h3 := PartAt.change (fun _ h => h) far _ _ (bare_at hpq)
        have Ht := Lib.hid ht
        have Hown7 := Lib.hid hown7
        have Hdl := Lib.hid hdl
        clear hfs hown hpd hpq hprs ht hown7 hdl hrw7
        go_wp2_with fail
        refine ⟨⟨i + 1, done ++ [[str q.type, str q.cs, str q.id, str q.loc, .int .i64 q.how, .slice A' q.body.length c', .slice none 0 0]], rs, by go_num, by omega, by simp [Hdl.out], Hown7.out, ?_, h2, hbel7⟩, by simp [intOf]; omega⟩
        rw [Ht.out]
        exact PartsAt.app _ _ _ _ h1 ⟨_, _, rfl, h3, rfl⟩
      · obtain rfl : i = n := by omega
        have Hown2 := Lib.hid hown
        have Hpd2 := Lib.hid hpd
        have Hpr2 := Lib.hid hpr
        clear hown hpd hpr
        go_wp2_with fail
        go_ret2
        have hn := Hn.out
        subst hn
        have hpr := Hpr2.out
        rw [List.drop_length] at hpr
        obtain rfl : rest = [] := hpr
        have hpd := Hpd2.out
        rw [List.take_length] at hpd
        have hown := Hown2.out
        rw [List.append_nil] at hown
        have hL := HL.out
        subst hL
        exact ⟨S, c3, rfl, ⟨done, Sl.of_own hown, PartsAt.change (fun b hb => Nat.lt_of_lt_of_le hb hbel.size) (fun _ _ => rfl) _ _ hpd⟩, hc3, Hcm3.out, hbel2.trans (hbel.mono hbel2.size)⟩
  · have hR1 : ((R : Int) != 0) = true := by simp; omega
    simp only [if_neg hR]
    clear hok
    go_enter Tryz.func39, Tryz.ntmps39
    go_wp2_with fail
    rw [← hW]
    clear hW
    refine HcW.out.mono ?_
    clear HcW hR
    rintro e w1 ⟨rfl, hb1⟩
    go_wp2_with fail
    go_ret2
    exact ⟨none, 0, rfl, SlP.nil_ _ _ _, Nat.le_refl _, Nat.zero_le _, hbW.trans (hb1.mono hbW.size)⟩
end Go.Proofs.YtlbdnohnngkapaaGreatDoor

namespace Go.Proofs.YtlbdnohnngkapaaGreatDoor

mutual
/-- part.Within, where n numbers stand already: of a part that is in number inn. -/
def wthD : PartD → Nat → Int → List Int
  | ⟨_, _, _, _, _, _, parts⟩, n, inn => inn :: wthsD parts (n + 1) n
def wthsD : List PartD → Nat → Nat → List Int
  | [], _, _ => []
  | p :: ps, n, me => wthD p n (me : Int) ++ wthsD ps (n + (flatD p).length) me
end
mutual
theorem wthD_len : ∀ (p : PartD) (n : Nat) (inn : Int), (wthD p n inn).length = (flatD p).length
  | ⟨t, cs, id, loc, how, body, parts⟩, n, inn => by rw [wthD, flatD, List.length_cons, List.length_cons, wthsD_len parts]
theorem wthsD_len : ∀ (ps : List PartD) (n me : Nat), (wthsD ps n me).length = (flatsD ps).length
  | [], _, _ => by rw [wthsD, flatsD]; rfl
  | p :: ps, n, me => by rw [wthsD, flatsD, List.length_append, List.length_append, wthD_len p, wthsD_len ps]
end
theorem wthD_eq (p : PartD) (n : Nat) (inn : Int) : wthD p n inn = inn :: wthsD p.parts (n + 1) n := by cases p; rw [wthD]

/-- What the numbers say: of a forest whose parts lie from n on, all in number me. -/
theorem wths_facts : ∀ (ps : List PartD) (n me : Nat), me < n →
    (∀ (j : Nat) (x : Int), (wthsD ps n me)[j]? = some x → x = (me : Int) ∨ ((n : Int) ≤ x ∧ x < (n : Int) + j ∧ ∃ q, (flatsD ps)[(x - n).toNat]? = some q ∧ q.parts ≠ [])) ∧
    (∀ (j : Nat) q, (flatsD ps)[j]? = some q → q.parts ≠ [] → ((n + j : Nat) : Int) ∈ wthsD ps n me) ∧ (ps ≠ [] → (me : Int) ∈ wthsD ps n me) := by
  have key : ∀ (k : Nat) (ps : List PartD), (flatsD ps).length ≤ k → ∀ (n me : Nat), me < n →
      (∀ (j : Nat) (x : Int), (wthsD ps n me)[j]? = some x → x = (me : Int) ∨ ((n : Int) ≤ x ∧ x < (n : Int) + j ∧ ∃ q, (flatsD ps)[(x - n).toNat]? = some q ∧ q.parts ≠ [])) ∧
      (∀ (j : Nat) q, (flatsD ps)[j]? = some q → q.parts ≠ [] → ((n + j : Nat) : Int) ∈ wthsD ps n me) ∧ (ps ≠ [] → (me : Int) ∈ wthsD ps n me) := by
    intro k
    induction k with
    | zero =>
      intro ps hk n me hm
      cases ps with
      | nil => simp [wthsD, flatsD]
      | cons p ps => rw [flatsD, flatD_eq] at hk; simp at hk
    | succ k ih =>
      intro ps hk n me hm
      cases ps with
      | nil => simp [wthsD, flatsD]
      | cons p ps =>
        have hfl : (flatsD (p :: ps)).length = 1 + (flatsD p.parts).length + (flatsD ps).length := by
          rw [flatsD, flatD_eq, List.length_append, List.length_cons]; omega
        obtain ⟨a1, a2, a3⟩ := ih p.parts (by omega) (n + 1) n (by omega)
        obtain ⟨b1, b2, b3⟩ := ih ps (by omega) (n + (flatD p).length) me (by omega)
        have hlp : (flatD p).length = 1 + (flatsD p.parts).length := by rw [flatD_eq, List.length_cons]; omega
        have hwl := wthsD_len p.parts (n + 1) n
        have e : wthsD (p :: ps) n me = (me : Int) :: (wthsD p.parts (n + 1) n ++ wthsD ps (n + (flatD p).length) me) := by rw [wthsD, wthD_eq]; rfl
        have f : flatsD (p :: ps) = p :: (flatsD p.parts ++ flatsD ps) := by rw [flatsD, flatD_eq]; rfl
        rw [e, f]
        refine ⟨?_, ?_, fun _ => by simp⟩
        · intro j x hx
          cases j with
          | zero => left; simpa using hx.symm
          | succ j =>
            rw [List.getElem?_cons_succ] at hx
            rcases Nat.lt_or_ge j (wthsD p.parts (n + 1) n).length with h | h
            · rw [List.getElem?_append_left h] at hx
              rcases a1 j x hx with rfl | ⟨h1, h2, q, hq, hqp⟩
              · right
                refine ⟨by omega, by omega, p, by simp, ?_⟩
                intro hp
                rw [hp] at h
                simp [wthsD] at h
              · right
                refine ⟨by omega, by omega, q, ?_, hqp⟩
                have e2 : (x - (n : Int)).toNat = (x - ((n + 1 : Nat) : Int)).toNat + 1 := by omega
                rw [e2, List.getElem?_cons_succ, List.getElem?_append_left]
                · exact hq
                · exact (List.getElem?_eq_some_iff.1 hq).1
            · rw [List.getElem?_append_right h] at hx
              rcases b1 _ x hx with rfl | ⟨h1, h2, q, hq, hqp⟩
              · exact .inl rfl
              · right
                refine ⟨by omega, by omega, q, ?_, hqp⟩
                have e2 : (x - (n : Int)).toNat = (x - ((n + (flatD p).length : Nat) : Int)).toNat + (flatsD p.parts).length + 1 := by omega
                rw [e2, List.getElem?_cons_succ, List.getElem?_append_right (by omega), Nat.add_sub_cancel]
                exact hq
        · intro j q hq hqp
          cases j with
          | zero =>
            simp at hq
            subst hq
            have := a3 hqp
            simp only [Nat.add_zero]
            exact List.mem_cons_of_mem _ (List.mem_append.2 (.inl this))
          | succ j =>
            rw [List.getElem?_cons_succ] at hq
            rcases Nat.lt_or_ge j (flatsD p.parts).length with h | h
            · rw [List.getElem?_append_left h] at hq
              have := a2 j q hq hqp
              rw [show n + (j + 1) = n + 1 + j from by omega]
              exact List.mem_cons_of_mem _ (List.mem_append.2 (.inl this))
            · rw [List.getElem?_append_right h] at hq
              have := b2 _ q hq hqp
              rw [show n + (j + 1) = n + (flatD p).length + (j - (flatsD p.parts).length) from by omega]
              exact List.mem_cons_of_mem _ (List.mem_append.2 (.inr this))
  intro ps n me hm
  exact key _ ps (Nat.le_refl _) n me hm
/-- .. of one part with all in it, the first. -/
theorem wth_facts (p : PartD) :
    (wthD p 0 (-1))[0]? = some (-1) ∧
    (∀ (j : Nat) (x : Int), (wthD p 0 (-1))[j + 1]? = some x → 0 ≤ x ∧ x ≤ j ∧ ∃ q, (flatD p)[x.toNat]? = some q ∧ q.parts ≠ []) ∧
    (∀ (j : Nat) q, (flatD p)[j]? = some q → q.parts ≠ [] → ((j : Nat) : Int) ∈ wthD p 0 (-1)) := by
  obtain ⟨a1, a2, a3⟩ := wths_facts p.parts 1 0 (by omega)
  rw [wthD_eq, flatD_eq]
  refine ⟨rfl, ?_, ?_⟩
  · intro j x hx
    rw [List.getElem?_cons_succ] at hx
    rcases a1 j x hx with rfl | ⟨h1, h2, q, hq, hqp⟩
    · refine ⟨by omega, by omega, p, by simp, ?_⟩
      intro hp
      rw [hp] at hx
      simp [wthsD] at hx
    · refine ⟨by omega, by omega, q, ?_, hqp⟩
      have e2 : x.toNat = (x - ((1 : Nat) : Int)).toNat + 1 := by omega
      rw [e2, List.getElem?_cons_succ]
      exact hq
  · intro j q hq hqp
    cases j with
    | zero => simp at hq; subst hq; exact List.mem_cons_of_mem _ (a3 hqp)
    | succ j =>
      rw [List.getElem?_cons_succ] at hq
      have := a2 j q hq hqp
      rw [show ((j + 1 : Nat) : Int) = ((1 + j : Nat) : Int) from by omega]
      exact List.mem_cons_of_mem _ this
end Go.Proofs.YtlbdnohnngkapaaGreatDoor

namespace Go.Proofs.YtlbdnohnngkapaaGreatDoor
open Go.RowKit

/-- The cells of a list of ints. -/
def iCells (l : List Int) : List Value := l.map fun x => Value.int .i64 x
theorem infoInt2 : (Tryz.prog.info? 3).map (fun i => (i.zero, i.size, i.bytes)) = some (some (.int .i64 0), 1, 8) := by kernel_rfl
theorem iCells_app (a b : List Int) : iCells (a ++ b) = iCells a ++ iCells b := by simp [iCells]
theorem iCells_len (a : List Int) : (iCells a).length = a.length := by simp [iCells]
theorem iCells_one (l : List Int) : ∀ u ∈ iCells l, u.oneCell' = true := by
  intro u hu; simp [iCells] at hu; obtain ⟨x, _, rfl⟩ := hu; rfl

theorem Sl.one2 (w : World) (o : Obj) (t : TypeId) (v : Value) : Sl ((w.alloc o).alloc (.cells #[v] t)) (w.heap.size + 2) 1 (some ⟨w.heap.size + 1, 0, none⟩) 1 [v] := by
  have := Sl.one (w.alloc o) t v
  simpa using this
/-- What the closure of part.Within works on: the list in block b, itself in block b + 1. -/
def WCtx (b : Nat) (w : World) (l : List Int) : Prop :=
  ∃ S m c, w.cell? ⟨b, 0, none⟩ = some (.slice S m c) ∧ w.frozen? ⟨b, 0, none⟩ = false ∧ w.cell? ⟨b + 1, 0, none⟩ = some (.func (.func 104) #[] #[.pointer (some ⟨b, 0, none⟩), .pointer (some ⟨b + 1, 0, none⟩)]) ∧
    w.ownsRow (b + 2) 3 1 (.slice S m c) m (iCells l) ∧ l.length = m ∧ b + 2 ≤ w.heap.size
theorem WCtx.below {b : Nat} {w w' : World} {l : List Int} (h : WCtx b w l) (hb : Below w.heap.size w w') : WCtx b w' l := by
  obtain ⟨S, m, c, h1, h2, h3, h4, h5, h6⟩ := h
  exact ⟨S, m, c, (hb.cell (p := ⟨b, 0, none⟩) (by show b < _; omega)).trans h1, (hb.frozen (p := ⟨b, 0, none⟩) (by show b < _; omega)).trans h2, (hb.cell (p := ⟨b + 1, 0, none⟩) (by show b + 1 < _; omega)).trans h3, own_below h4 hb, h5, Nat.le_trans h6 hb.size⟩
def WRel (b n2 me : Nat) (parts : List PartD) (T : List Int) (w0 : World) (iv : Value) (wr : World) : Prop :=
  ∃ i done, iv = .int .i64 (i : Nat) ∧ i ≤ n2 ∧ WCtx b wr done ∧ Hid (done ++ wthsD (parts.drop i) done.length me = T) ∧ Below b w0 wr
set_option maxRecDepth 100000 in
set_option maxHeartbeats 2000000 in
theorem Within1_any (b : Nat) (k : Nat) : ∀ (p : PartD) (v : List Value) (inn : Int) (l : List Int) (w : World) (B : Nat), (flatD p).length ≤ k → l.length + (flatD p).length ≤ 1000 → -1 ≤ inn → inn ≤ 1000 → B ≤ b → PartAt (· < B) w p v → WCtx b w l →
    Calls Tryz.prog 104 #[.agg v.toArray, .int .i64 inn, .pointer (some ⟨b, 0, none⟩), .pointer (some ⟨b + 1, 0, none⟩)] w
      fun e w' => e = .returned (.tuple #[]) ∧ WCtx b w' (l ++ wthD p l.length inn) ∧ Below b w w' := by
  obtain ⟨i0, hi0, hz0, hz1, hz2⟩ := info_parts infoInt2
  induction k with
  | zero => intro p v inn l w B h; rw [flatD_eq] at h; simp at h
  | succ k ih =>
    intro p v inn l w B hk hk1 hinn1 hinn2 hB hp hctx
    obtain ⟨A, c, A2, c2, rfl, _, _, _, _, hP, hc2, hcm⟩ := hp.open
    obtain ⟨W, hW⟩ : ∃ W, W = w.alloc (.cells #[str p.type, str p.cs, str p.id, str p.loc, .int .i64 p.how, .slice A p.body.length c, .slice A2 p.parts.length c2] 25) := ⟨_, rfl⟩
    have hbW : Below w.heap.size w W := by rw [hW]; exact (Below.refl _ w).alloc (Nat.le_refl _) _
    have hbx : Box7 W w.heap.size (str p.type) (str p.cs) (str p.id) (str p.loc) (.int .i64 p.how) (.slice A p.body.length c) (.slice A2 p.parts.length c2) := by rw [hW]; exact Box7.new w _ _ _ _ _ _ _ _
    have hctxW := hctx.below hbW
    have hszb : b + 2 ≤ w.heap.size := by obtain ⟨_, _, _, _, _, _, _, _, h⟩ := hctx; exact h
    have hbel0 : Below b w W := hbW.mono (by omega)
    obtain ⟨n2, hn2⟩ : ∃ n2, n2 = p.parts.length := ⟨_, rfl⟩
    have hT := wthD_eq p l.length inn
    obtain ⟨T, hTd⟩ : ∃ T, T = l ++ wthD p l.length inn := ⟨_, rfl⟩
    have hTl : T.length = l.length + (flatD p).length := by rw [hTd, List.length_append, wthD_len]
    rw [hT] at hTd
    rw [show l ++ wthD p l.length inn = T from by rw [hT, hTd]]
    have hPW := hP.below (hbW.mono (by omega : B ≤ w.heap.size))
    rw [← hn2] at hPW hc2 hW hbx ⊢
    have HT := Lib.hid hTd
    have HTl := Lib.hid hTl
    have Hn2 := Lib.hid hn2
    have Hih := Lib.hid ih
    have Hk := Lib.hid hk
    have hn2m : n2 ≤ 9223372036854775807 := by unfold maxLen at hcm; omega
    have hl1000 : l.length ≤ 1000 := by omega
    obtain ⟨S, m, cS, y0, yf, y1, hown, hlm, _⟩ := hctxW
    have hne : Value.ownBlock (.slice S m cS) ≠ some w.heap.size := by
      obtain ⟨S0, m0, c0, e0, _, _, hown0, _⟩ := hctx
      have e1 := (hbW.cell (p := ⟨b, 0, none⟩) (by show b < _; omega)).trans e0
      rw [y0] at e1
      injection e1 with e1
      rw [e1]
      intro e
      have := (hown0.lt _ e).2
      omega
    have hP0 : SlP (· < B) w A2 n2 p.parts := by rw [hn2]; exact hP
    have Hne := Lib.hid hne
    have hm1000 : m ≤ 1000 := by omega
    have Hlm := Lib.hid hlm
    have h63 : m + 1 ≤ maxLen := by unfold maxLen; omega
    have h47 : (m + 1) * 8 ≤ 140737488355328 := by omega
    have ⟨x0, x1, x2, x3, x4, x5, x6⟩ := hbx
    have hsW : b + 2 ≤ W.heap.size := Nat.le_trans hszb hbW.size
    have hownA := hown
    clear hT hTd hTl hn2 ih hk hP hp hctx hcm hlm
    subst hW
    go_enter Tryz.func104, Tryz.ntmps104
    go_wp2_with (at_builtin; refine wpList_app rfl _ _ 62 rfl (b + 2) 3 i0 (.int .i64 0) 1 8 Tryz.underlying62 hi0 hz0 hz1 hz2 rfl (by decide) S m cS (iCells l) rfl (hown.alloc _) _ _ 1 1 [.int .i64 inn] rfl (Sl.one2 w _ _ _) (iCells_one [inn]) h63 h47 (by simp only [World.size_alloc]; omega) ?_)
    intro S' c' w4 hown4 hb4 hg4
    have hbA := ((Below.refl (b + 2) (w.alloc (.cells #[str p.type, str p.cs, str p.id, str p.loc, .int .i64 p.how, .slice A p.body.length c, .slice A2 n2 c2] 25))).alloc hsW (.cells #[.int .i64 inn] 3)).trans hb4
    have hb40 : Below b w w4 := hbel0.trans (hbA.mono (by omega))
    have z0 := (hbA.cell (p := ⟨b, 0, none⟩) (by show b < b + 2; omega)).trans y0
    have zf := (hbA.frozen (p := ⟨b, 0, none⟩) (by show b < b + 2; omega)).trans yf
    have z1 := (hbA.cell (p := ⟨b + 1, 0, none⟩) (by show b + 1 < b + 2; omega)).trans y1
    have hbk : w4.heap[w.heap.size]? = some (.cells #[str p.type, str p.cs, str p.id, str p.loc, .int .i64 p.how, .slice A p.body.length c, .slice A2 n2 c2] 25) := by
      rw [hg4.block w.heap.size (by simp <;> omega) (fun e => Hne.out e.symm), Lib.alloc_old _ _ _ (by simp)]
      exact heap_alloc_new w _
    have u6 : w4.cell? ⟨w.heap.size, 6, none⟩ = some (.slice A2 n2 c2) := by unfold World.cell?; rw [hbk]; rfl
    have hne4 : Value.ownBlock (.slice S' (m + 1) c') ≠ some b := fun e => by have := (hown4.lt _ e).1; omega
    have hctx5 : WCtx b (w4.setCell ⟨b, 0, none⟩ (.slice S' (m + 1) c')) (l ++ [inn]) := by
      refine ⟨S', m + 1, c', World.cell?_setCell_same _ _ _ z0, by simpa using zf, ?_, ?_, by simp [Hlm.out], by have h1 := hb4.size; have h2 := hbA.size; simp only [World.size_setCell]; simp only [World.size_alloc] at h1; omega⟩
      · rw [World.cell?_setCell_other _ _ _ _ (by simp)]; exact z1
      · rw [iCells_app]; exact own_setFar hown4 hne4 _
    have hbel5 : Below b w (w4.setCell ⟨b, 0, none⟩ (.slice S' (m + 1) c')) := hb40.setCell (Nat.le_refl _) _
    have u6' : (w4.setCell ⟨b, 0, none⟩ (.slice S' (m + 1) c')).cell? ⟨w.heap.size, 6, none⟩ = some (.slice A2 n2 c2) := by
      rw [World.cell?_setCell_other _ _ _ _ (by simp <;> omega)]; exact u6
    have Hctx5 := Lib.hid hctx5
    clear hown hownA hown4 hb4 hg4 hbA hb40 y0 yf y1 hbk u6 hne4 hctx5 x0 x1 x2 x3 x4 x5 x6 z1 hbx hbel0 hbW hPW
    go_wp2_with fail
    go_loopw [18] (WRel b n2 m p.parts T w) (fun iv _ => n2 - (intOf iv).toNat)
    case atStart =>
      refine ⟨0, l ++ [inn], rfl, Nat.zero_le _, Hctx5.out, ?_, hbel5⟩
      show _ = T
      rw [HT.out, List.drop_zero, List.length_append, Hlm.out]
      simp
    case round =>
      obtain ⟨i, done, rfl, hi, hctx, hE, hbel⟩ := hrel
      by_cases hin : i < n2
      · have hPr := hP0.belowN hbel hB
        obtain ⟨b', off, q, A', n', c', A2', n2', c2', rfl, hbS, hq, hqa, x0, x1, x2, x3, x4, x5, x6⟩ := hPr.cells7 hin
        have hE1 := hE.out
        rw [hq, wthsD] at hE1
        have hqf : (flatD q).length ≤ k ∧ done.length + (flatD q).length ≤ 1000 := by
          have h1 := congrArg List.length hE1
          simp only [List.length_append, wthD_len] at h1
          have h2 := HTl.out
          refine ⟨?_, by omega⟩
          have hqi : i < p.parts.length := by rw [← Hn2.out]; exact hin
          have h3 := flatsD_get p.parts i hqi
          have h4 : p.parts[i] = q := by rw [List.drop_eq_getElem_cons hqi] at hq; injection hq
          rw [h4] at h3
          have h5 := Hk.out
          rw [flatD_eq, List.length_cons] at h5
          omega
        obtain ⟨W, hW⟩ : ∃ W, W = wr.alloc (.cells #[str q.type, str q.cs, str q.id, str q.loc, .int .i64 q.how, .slice A' n' c', .slice A2' n2' c2'] 25) := ⟨_, rfl⟩
        have hbW : Below wr.heap.size wr W := by rw [hW]; exact (Below.refl _ wr).alloc (Nat.le_refl _) _
        have hszr : b + 2 ≤ wr.heap.size := by obtain ⟨_, _, _, _, _, _, _, _, h⟩ := hctx; exact h
        have hctxW := hctx.below hbW
        have y1 : W.cell? ⟨b + 1, 0, none⟩ = some (.func (.func 104) #[] #[.pointer (some ⟨b, 0, none⟩), .pointer (some ⟨b + 1, 0, none⟩)]) := by obtain ⟨_, _, _, _, _, h, _⟩ := hctxW; exact h
        have hcl := Hih.out q _ (m : Int) done W B hqf.1 hqf.2 (by omega) (by omega) hB (hqa.belowN hbW (by omega)) hctxW
        have hbelW := hbel.trans (hbW.mono (by omega))
        have hE2 : Hid ((done ++ wthD q done.length (m : Int)) ++ wthsD (p.parts.drop (i + 1)) (done ++ wthD q done.length (m : Int)).length m = T) := by
          show _ = T
          rw [List.length_append, wthD_len, List.append_assoc]
          exact hE1
        generalize done ++ wthD q done.length (m : Int) = done2 at hcl hE2
        have Hcl := Lib.hid hcl
        clear hcl hE hE1 hq hPr hqa hctx hctxW hbW hbel
        subst hW
        go_wp2_with fail
        refine Hcl.out.mono ?_
        rintro e w6 ⟨rfl, hctx6, hb6⟩
        clear x0 x1 x2 x3 x4 x5 x6 y1
        go_wp2_with fail
        exact ⟨⟨i + 1, done2, by go_num, by omega, hctx6, hE2, hbelW.trans hb6⟩, by simp [intOf]; omega⟩
      · have hE1 : Hid (done = T) := by
          have := hE.out
          rw [List.drop_of_length_le (by rw [← Hn2.out]; omega), wthsD, List.append_nil] at this
          exact this
        clear hE
        have Hctx := Lib.hid hctx
        clear hctx
        go_wp2_with fail
        go_end0
        obtain rfl := hE1.out
        exact ⟨rfl, Hctx.out, hbel⟩
end Go.Proofs.YtlbdnohnngkapaaGreatDoor

namespace Go.Proofs.YtlbdnohnngkapaaGreatDoor
open Go.RowKit

theorem WCtx.new (w : World) (t1 t2 : TypeId) : WCtx w.heap.size ((w.alloc (.cells #[.slice none 0 0] t1)).alloc (.cells #[.func (.func 104) #[] #[.pointer (some ⟨w.heap.size, 0, none⟩), .pointer (some ⟨w.heap.size + 1, 0, none⟩)]] t2)) [] := by
  have h0 : ((w.alloc (.cells #[.slice none 0 0] t1)).alloc (.cells #[.func (.func 104) #[] #[.pointer (some ⟨w.heap.size, 0, none⟩), .pointer (some ⟨w.heap.size + 1, 0, none⟩)]] t2)).heap[w.heap.size]? = some (.cells #[.slice none 0 0] t1) := by
    rw [Lib.alloc_old _ _ _ (by simp)]; exact heap_alloc_new w _
  have h1 : ((w.alloc (.cells #[.slice none 0 0] t1)).alloc (.cells #[.func (.func 104) #[] #[.pointer (some ⟨w.heap.size, 0, none⟩), .pointer (some ⟨w.heap.size + 1, 0, none⟩)]] t2)).heap[w.heap.size + 1]? = some (.cells #[.func (.func 104) #[] #[.pointer (some ⟨w.heap.size, 0, none⟩), .pointer (some ⟨w.heap.size + 1, 0, none⟩)]] t2) := by
    have := heap_alloc_new (w.alloc (.cells #[.slice none 0 0] t1)) (.cells #[.func (.func 104) #[] #[.pointer (some ⟨w.heap.size, 0, none⟩), .pointer (some ⟨w.heap.size + 1, 0, none⟩)]] t2)
    simpa using this
  refine ⟨none, 0, 0, ?_, Lib.frozen_of_heap h0 0, ?_, World.ownsRow_nil _ _ _ _, rfl, by simp⟩
  · unfold World.cell?; rw [h0]; rfl
  · unfold World.cell?; rw [h1]; rfl
/-- What part.Within leaves. -/
def WthOut (p : PartD) (w : World) (e : Ending) (w' : World) : Prop :=
  ∃ S c, e = .returned (.tuple #[.slice S (if checkD p = 0 then (flatD p).length else 0) c, .int .i64 (checkD p : Nat)]) ∧ Sl w' w'.heap.size 1 S (if checkD p = 0 then (flatD p).length else 0) (iCells (if checkD p = 0 then wthD p 0 (-1) else [])) ∧
    (if checkD p = 0 then (flatD p).length else 0) ≤ c ∧ c ≤ maxLen ∧ Below w.heap.size w w'
set_option maxRecDepth 100000 in
set_option maxHeartbeats 2000000 in
theorem Within_any (p : PartD) (v : List Value) (w : World) (hp : PartAt (· < w.heap.size) w p v) :
    Calls Tryz.prog 40 #[.agg v.toArray] w (WthOut p w) := by
  have hok := checkD_ok p
  have hck := PCheck_any p v
  obtain ⟨A, c, A2, c2, rfl, _⟩ := hp.open
  obtain ⟨W, hW⟩ : ∃ W, W = w.alloc (.cells #[str p.type, str p.cs, str p.id, str p.loc, .int .i64 p.how, .slice A p.body.length c, .slice A2 p.parts.length c2] 25) := ⟨_, rfl⟩
  have hbW : Below w.heap.size w W := by rw [hW]; exact (Below.refl _ w).alloc (Nat.le_refl _) _
  have hbx : Box7 W w.heap.size (str p.type) (str p.cs) (str p.id) (str p.loc) (.int .i64 p.how) (.slice A p.body.length c) (.slice A2 p.parts.length c2) := by rw [hW]; exact Box7.new w _ _ _ _ _ _ _ _
  have hpW := hp.below hbW
  have hcW := hck W (hpW.more hbW.size)
  unfold WthOut
  generalize checkD p = R at hcW hok ⊢
  have HcW := Lib.hid hcW
  have Hp := Lib.hid hp
  clear hck hcW hpW hp
  by_cases hR : R = 0
  · subst hR
    obtain ⟨hl12, hch⟩ := hok rfl
    simp only [if_true]
    have hwl := wthD_len p 0 (-1)
    clear hok hch
    obtain ⟨T, hT⟩ : ∃ T, T = wthD p 0 (-1) := ⟨_, rfl⟩
    rw [← hT, ← hwl, ← hT]
    rw [← hT] at hwl
    have Hwl := Lib.hid hwl
    have HT := Lib.hid hT
    clear hwl hT
    go_enter Tryz.func40, Tryz.ntmps40
    go_wp2_with fail
    rw [← hW]
    clear hW
    refine HcW.out.mono ?_
    clear HcW
    rintro e w1 ⟨rfl, hb1⟩
    have hbel1 := hbW.trans (hb1.mono hbW.size)
    have hbx1 := hbx.below hb1
    have ⟨x0, x1, x2, x3, x4, x5, x6⟩ := hbx1
    have hl1 := hbx1.lt
    clear hbx hbx1 hb1 hbW
    go_wp2_with fail
    have hbelx := (hbel1.alloc hbel1.size (.cells #[.slice none 0 0] 62)).alloc (by simp; have := hbel1.size; omega) (.cells #[.func (.func 104) #[] #[.pointer (some ⟨w1.heap.size, 0, none⟩), .pointer (some ⟨w1.heap.size + 1, 0, none⟩)]] 125)
    refine (Within1_any w1.heap.size 12 p _ (-1) [] _ w.heap.size hl12 (by simp; omega) (by omega) (by omega) hbel1.size (Hp.out.below hbelx) (WCtx.new w1 _ _)).mono ?_
    rw [List.nil_append, List.length_nil, ← HT.out]
    rintro e w2 ⟨rfl, hctx, hb2⟩
    have hbel2 := hbelx.trans (hb2.mono hbel1.size)
    obtain ⟨S, m, cS, y0, yf, y1, hown, hlm, _⟩ := hctx
    have hsl := Sl.of_own hown
    have hcap := own_cap hown
    have hcm := own_capmax hown
    subst hlm
    clear x0 x1 x2 x3 x4 x5 x6 yf y1 hown hbelx hb2
    go_wp2_with fail
    go_ret2
    exact ⟨S, cS, rfl, hsl, hcap, hcm, hbel2⟩
  · have hR1 : ((R : Int) != 0) = true := by simp; omega
    simp only [if_neg hR]
    clear hok
    go_enter Tryz.func40, Tryz.ntmps40
    go_wp2_with fail
    rw [← hW]
    clear hW
    refine HcW.out.mono ?_
    clear HcW hR
    rintro e w1 ⟨rfl, hb1⟩
    go_wp2_with fail
    go_ret2
    exact ⟨none, 0, rfl, Sl.nil_ _ _ _ _, Nat.le_refl _, Nat.zero_le _, hbW.trans (hb1.mono hbW.size)⟩
end Go.Proofs.YtlbdnohnngkapaaGreatDoor

namespace Go.Proofs.YtlbdnohnngkapaaGreatDoor
open Go.RowKit

theorem chk_many (q : PartD) (h : chkD q = 0) : manyB q.type = decide (0 < q.parts.length) := by
  unfold chkD chkB at h
  split at h
  · cases h
  · split at h
    · cases h
    · split at h
      · cases h
      · split at h
        · cases h
        · rename_i h1
          simp only [Bool.or_eq_true, not_or] at h1
          have := h1.1
          simpa using this
/-- What the law asks, of what part.All and part.Within say. -/
theorem tree_facts (p : PartD) (hch : ∀ q ∈ flatD p, chkD q = 0) :
    (wthD p 0 (-1))[0]? = some (-1) ∧
    (∀ j, j + 1 < (flatD p).length → ∃ (k : Nat) (q : PartD), (wthD p 0 (-1))[j + 1]? = some (k : Int) ∧ k ≤ j ∧ (flatD p)[k]? = some q ∧ manyB q.type = true) ∧
    (∀ (j : Nat) (q : PartD), (flatD p)[j]? = some q → manyB q.type = (wthD p 0 (-1)).contains (j : Int)) := by
  obtain ⟨a0, a1, a2⟩ := wth_facts p
  have hl := wthD_len p 0 (-1)
  refine ⟨a0, fun j hj => ?_, fun j q hq => ?_⟩
  · have hx : (wthD p 0 (-1))[j + 1]? = some (wthD p 0 (-1))[j + 1] := List.getElem?_eq_getElem (by omega)
    obtain ⟨h1, h2, q, hq, hqp⟩ := a1 j _ hx
    obtain ⟨k, hk⟩ := Int.eq_ofNat_of_zero_le h1
    rw [hk] at hx h2 hq
    refine ⟨k, q, hx, by omega, by simpa using hq, ?_⟩
    rw [chk_many q (hch q (List.mem_of_getElem? hq))]
    have : 0 < q.parts.length := List.length_pos_iff.2 hqp
    simpa using this
  · rw [chk_many q (hch q (List.mem_of_getElem? hq)), Bool.eq_iff_iff, decide_eq_true_eq, List.contains_iff_mem]
    constructor
    · intro h
      exact a2 j q hq (List.length_pos_iff.1 h)
    · intro h
      obtain ⟨i, hi, he⟩ := List.getElem_of_mem h
      have hx : (wthD p 0 (-1))[i]? = some (j : Int) := by rw [List.getElem?_eq_getElem hi, he]
      cases i with
      | zero => rw [a0] at hx; injection hx with hx; omega
      | succ i =>
        obtain ⟨_, _, q', hq', hqp⟩ := a1 i _ hx
        rw [Int.toNat_natCast, hq] at hq'
        injection hq' with hq'
        subst hq'
        exact List.length_pos_iff.2 hqp
end Go.Proofs.YtlbdnohnngkapaaGreatDoor

namespace Go.Proofs.YtlbdnohnngkapaaGreatDoor
open Go.RowKit

/-- Where a part is of which nothing is said. -/
def outW : List UInt8 := [116, 104, 105, 115, 109, 101, 115, 115, 97, 103, 101, 58, 47]
def fromW (out : List (List UInt8)) (k : Int) : List UInt8 := if 0 ≤ k ∧ out.getD k.toNat [] ≠ [] then out.getD k.toNat [] else outW
def stepW (out : List (List UInt8)) (loc : List UInt8) (k : Int) : List UInt8 := if loc = [] then fromW out k else ledB (fromW out k) loc
def whereF : List PartD → List Int → List (List UInt8) → List (List UInt8)
  | x :: xs, k :: ks, out => whereF xs ks (out ++ [stepW out x.loc k])
  | [], _, out => out
  | _ :: _, [], out => out
def whereD (p : PartD) : List (List UInt8) := whereF (flatD p) (wthD p 0 (-1)) []
theorem whereF_len : ∀ (F : List PartD) (T : List Int) (out : List (List UInt8)), F.length = T.length → (whereF F T out).length = out.length + F.length
  | [], _, out, _ => by simp [whereF]
  | x :: xs, [], out, h => by simp at h
  | x :: xs, k :: ks, out, h => by
    rw [whereF, whereF_len xs ks _ (by simpa using h)]
    simp
    omega
theorem printU_len (u : UrlD) : (printU u).1.length ≤ 605 := by
  unfold printU
  split
  · rename_i h
    simp only
    obtain ⟨h1, h2, h3, h4, h5⟩ := check_text h
    unfold textU
    have e1 : (if u.scheme = [] then [] else u.scheme ++ [58]).length ≤ 121 := by split <;> simp <;> omega
    have e2 : (if u.hasHost then [47, 47] ++ u.host else []).length ≤ 122 := by split <;> simp <;> omega
    have e3 : (if u.hasQuery then 63 :: u.query else []).length ≤ 121 := by split <;> simp <;> omega
    have e4 : (if u.hasFrag then 35 :: u.frag else []).length ≤ 121 := by split <;> simp <;> omega
    simp only [List.length_append]
    omega
  · simp
theorem ledB_len (f t : List UInt8) : (ledB f t).length ≤ 605 := by
  unfold ledB
  split
  · simp
  · split
    · simp
    · split
      · simp
      · exact printU_len _
theorem fromW_len {out : List (List UInt8)} (h : ∀ s ∈ out, s.length ≤ 605) (k : Int) : (fromW out k).length ≤ 605 := by
  unfold fromW
  split
  · rename_i h1
    rw [List.getD_eq_getElem?_getD]
    cases hx : out[k.toNat]? with
    | none => simp
    | some s => exact h s (List.mem_of_getElem? hx)
  · decide
theorem stepW_len {out : List (List UInt8)} (h : ∀ s ∈ out, s.length ≤ 605) (loc : List UInt8) (k : Int) : (stepW out loc k).length ≤ 605 := by
  unfold stepW
  split
  · exact fromW_len h k
  · exact ledB_len _ _
theorem chk_loc (q : PartD) (h : chkD q = 0) : q.loc.length ≤ 120 := by
  unfold chkD chkB at h
  split at h
  · cases h
  · rename_i h1
    cases hw : wordB q.loc with
    | false => rw [hw] at h1; simp at h1
    | true =>
      unfold wordB at hw
      simp only [Bool.and_eq_true, decide_eq_true_eq] at hw
      exact hw.1
theorem madeStrW (n : Nat) : (madeCells (Value.string ⟨#[]⟩).cells (n * 1)).toList = (List.replicate n ([] : List UInt8)).map str := by
  rw [Nat.mul_one]
  unfold madeCells
  rw [Array.toList_map, Array.toList_range, List.map_replicate]
  induction n with
  | zero => rfl
  | succ n ih =>
    rw [List.range_succ, List.map_append, ih, List.replicate_succ']
    congr 1
    show [(#[Value.string ⟨#[]⟩] : Array Value)[n % 1]!] = _
    rw [Nat.mod_one]
    rfl
/-- What part.Within says at a place. -/
theorem wth_at (p : PartD) (hch : ∀ q ∈ flatD p, chkD q = 0) (i : Nat) (hi : i < (flatD p).length) : ∃ k : Int, (wthD p 0 (-1)).drop i = k :: (wthD p 0 (-1)).drop (i + 1) ∧ (wthD p 0 (-1))[i]? = some k ∧ -1 ≤ k ∧ k < i := by
  obtain ⟨f0, f1, _⟩ := tree_facts p hch
  have hl := wthD_len p 0 (-1)
  have hd := List.drop_eq_getElem_cons (l := wthD p 0 (-1)) (i := i) (by omega)
  have hg : (wthD p 0 (-1))[i]? = some ((wthD p 0 (-1))[i]'(by omega)) := List.getElem?_eq_getElem (by omega)
  refine ⟨_, hd, hg, ?_⟩
  cases i with
  | zero => rw [f0] at hg; injection hg with hg; omega
  | succ i =>
    obtain ⟨k, q, h1, h2, _⟩ := f1 i hi
    rw [h1] at hg
    injection hg with hg
    omega
/-- A row of texts, the first of which are written. -/
def OB (w : World) (g n : Nat) (out : List (List UInt8)) : Prop := w.heap[g]? = some (.cells ((out ++ List.replicate (n - out.length) []).map str).toArray 9 (0, 0))
section
variable {w w' : World} {g n : Nat} {out : List (List UInt8)}
theorem OB.lt (h : OB w g n out) : g < w.heap.size := by
  rcases Nat.lt_or_ge g w.heap.size with h' | h'
  · exact h'
  · unfold OB at h; rw [Array.getElem?_eq_none h'] at h; cases h
theorem OB.fz (h : OB w g n out) (i : Nat) : w.frozen? ⟨g, i, none⟩ = false := by
  unfold OB at h
  unfold World.frozen?
  rw [h]
  simp
theorem OB.below (h : OB w g n out) (hb : Below w.heap.size w w') : OB w' g n out := (hb.block g h.lt).trans h
theorem OB.cell (h : OB w g n out) {k : Nat} (hk : k < out.length) : w.cell? ⟨g, k, none⟩ = some (str (out.getD k [])) := by
  unfold OB at h
  unfold World.cell?
  rw [h]
  simp only [List.getElem?_toArray, List.getElem?_map]
  rw [List.getElem?_append_left hk, List.getElem?_eq_getElem hk]
  simp [List.getD_eq_getElem?_getD, List.getElem?_eq_getElem hk]
theorem OB.slot (h : OB w g n out) (i : Nat) (hi : i < n) : ∃ old, w.cell? ⟨g, i, none⟩ = some old := by
  unfold OB at h
  unfold World.cell?
  rw [h]
  simp only
  rw [Array.getElem?_eq_getElem (by simp; omega)]
  exact ⟨_, rfl⟩
theorem OB.set (h : OB w g n out) (hn : out.length < n) (x : List UInt8) : OB (w.setCell ⟨g, out.length, none⟩ (str x)) g n (out ++ [x]) := by
  unfold OB at h ⊢
  simp only [World.setCell, Array.getElem?_modify, if_pos, h, Option.map_some]
  have : List.replicate (n - out.length) ([] : List UInt8) = [] :: List.replicate (n - (out ++ [x]).length) [] := by
    rw [List.length_append, List.length_singleton, show n - out.length = (n - (out.length + 1)) + 1 by omega, List.replicate_succ]
  rw [this]
  simp
theorem OB.sl (h : OB w g n out) (hn : out.length = n) : Sl w w.heap.size 1 (some ⟨g, 0, none⟩) n (out.map str) := by
  unfold OB at h
  refine Sl.of_block h (by simp [hn]) (fun j u hu => ?_)
  rw [hn, Nat.sub_self, List.replicate_zero, List.append_nil, Nat.zero_add]
  simpa using hu
end
def WhereOut (p : PartD) (w : World) (e : Ending) (w' : World) : Prop :=
  ∃ S c, e = .returned (.tuple #[.slice S (if checkD p = 0 then (flatD p).length else 0) c, .int .i64 (checkD p : Nat)]) ∧ Sl w' w'.heap.size 1 S (if checkD p = 0 then (flatD p).length else 0) ((if checkD p = 0 then whereD p else []).map str) ∧
    (if checkD p = 0 then (flatD p).length else 0) ≤ c ∧ c ≤ maxLen ∧ Below w.heap.size w w'
def WhRel (n : Nat) (F : List PartD) (T : List Int) (R : List (List UInt8)) (g : Nat) (w1 : World) (iv : Value) (wr : World) : Prop :=
  ∃ (i : Nat) (out : List (List UInt8)), iv = .int .i64 i ∧ i ≤ n ∧ out.length = i ∧ OB wr g n out ∧ Below w1.heap.size w1 wr ∧ (∀ s ∈ out, s.length ≤ 605) ∧ Hid (whereF (F.drop i) (T.drop i) out = R)
set_option maxRecDepth 100000 in
set_option maxHeartbeats 4000000 in
theorem Where_any (p : PartD) (v : List Value) (w : World) (hM : MaxLenOk w) (hp : PartAt (· < w.heap.size) w p v) :
    Calls Tryz.prog 38 #[.agg v.toArray] w (WhereOut p w) := by
  have hok := checkD_ok p
  have hat := wth_at p
  have hal := fun W h => All_any p v W h
  have hwt := fun W h => Within_any p v W h
  unfold AllOut at hal
  unfold WthOut at hwt
  unfold WhereOut
  obtain ⟨R, hR⟩ : ∃ R, R = whereD p := ⟨_, rfl⟩
  rw [← hR]
  unfold whereD at hR
  have hwl := wthD_len p 0 (-1)
  obtain ⟨A, c, A2, c2, rfl, _⟩ := hp.open
  obtain ⟨W, hW⟩ : ∃ W, W = w.alloc (.cells #[str p.type, str p.cs, str p.id, str p.loc, .int .i64 p.how, .slice A p.body.length c, .slice A2 p.parts.length c2] 25) := ⟨_, rfl⟩
  have hbW : Below w.heap.size w W := by rw [hW]; exact (Below.refl _ w).alloc (Nat.le_refl _) _
  have hbx : Box7 W w.heap.size (str p.type) (str p.cs) (str p.id) (str p.loc) (.int .i64 p.how) (.slice A p.body.length c) (.slice A2 p.parts.length c2) := by rw [hW]; exact Box7.new w _ _ _ _ _ _ _ _
  have Hal := Lib.hid hal
  have Hwt := Lib.hid hwt
  have Hp := Lib.hid hp
  have HM := Lib.hid hM
  clear hal hwt hp hM
  generalize checkD p = K at *
  generalize wthD p 0 (-1) = T at *
  generalize flatD p = F at *
  by_cases hK : K = 0
  · subst hK
    simp only [if_true] at Hal Hwt ⊢
    obtain ⟨h12, hch⟩ := hok rfl
    have Hat := Lib.hid (hat hch)
    have hlocs : ∀ q ∈ F, q.loc.length ≤ 120 := fun q hq => chk_loc q (hch q hq)
    have Hlocs := Lib.hid hlocs
    obtain ⟨n, hn⟩ : ∃ n, n = F.length := ⟨_, rfl⟩
    rw [← hn] at Hal Hwt h12 hwl ⊢
    have HR := Lib.hid hR
    have Hn := Lib.hid hn
    have Hwl := Lib.hid hwl
    clear hok hch hat hlocs hR hn hwl
    obtain ⟨i0, hi0, hz0, hz1, hz2⟩ := info_parts infoStrU
    have Hi0 := Lib.hid hi0
    have hi1 : (Tryz.prog.info? 9).map (·.size) = some 1 := by rw [hi0]; simp [hz1]
    clear hi0
    go_enter Tryz.func38, Tryz.ntmps38
    go_wp2_with fail
    rw [← hW]
    clear hW
    refine (Hal.out W ((Hp.out.below hbW).more hbW.size)).mono ?_
    rintro e w1 ⟨S1, c1, rfl, hs1, hc1, hm1, hb1⟩
    have hbel1 := hbW.trans (hb1.mono hbW.size)
    have hbx1 := hbx.below hb1
    have ⟨x0, x1, x2, x3, x4, x5, x6⟩ := hbx1
    clear hbx hbx1 hb1 hbW Hal
    go_wp2_with fail
    refine (Hwt.out w1 ((Hp.out.below hbel1).more hbel1.size)).mono ?_
    rintro e w2 ⟨S2, c2', rfl, hs2, hc2, hm2, hb2⟩
    have hbel2 := hbel1.trans (hb2.mono hbel1.size)
    have hs1b := (hs1.below hb2).more hb2.size
    clear hs1 hb2 x0 x1 x2 x3 x4 x5 x6 Hwt
    obtain ⟨wm, hrunm, hownm, hgm⟩ := run_make_full (P := Tryz.prog) w2 w2.heap.size 57 9 i0 _ 1 Tryz.underlying57 Hi0.out hz0 hz1 .i64 .i64 n (by rw [hz2]; omega) (by unfold maxLen; omega) (Nat.le_refl _)
    rw [madeStrW] at hownm
    have hbm : Below w2.heap.size w2 wm := (Below.refl _ w2).grown hgm (Nat.le_refl _) (fun k hk => by cases hk)
    have hbelm := hbel2.trans (hbm.mono hbel2.size)
    obtain ⟨g, hg⟩ : ∃ g, g = w2.heap.size := ⟨_, rfl⟩
    rw [← hg] at hrunm hownm
    have hblk : OB wm g n [] := by
      unfold OB
      rcases hownm.2 with ⟨hv, _⟩ | ⟨g', cap, cur, hv, _, h2, h3, h4, h5, h6⟩
      · cases hv
      · injection hv with hv _ hcap
        injection hv with hv
        injection hv with hv
        subst hv
        rw [h2]
        congr 2
        rw [List.nil_append, List.length_nil, Nat.sub_zero, ← h6, List.take_of_length_le (by simp [h5]; omega)]
    unfold maxLen at hm1 hm2
    have Hs1 := Lib.hid hs1b
    have Hs2 := Lib.hid hs2
    have Hg := Lib.hid hg
    have Hbel2 := Lib.hid hbel2
    clear hs1b hs2 hownm hgm hg hbel2 hbel1 hbelm
    go_wp2_with fail
    clear hrunm
    go_loopw [30] (WhRel n F T R g w2) (fun iv _ => n - (intOf iv).toNat)
    case atStart => exact ⟨0, [], rfl, Nat.zero_le _, rfl, hblk, hbm, by simp, by rw [List.drop_zero, List.drop_zero]; exact HR.out.symm⟩
    case round =>
      obtain ⟨i, out, rfl, hi, hol, hOB, hbel, hsm, HS⟩ := hrel
      by_cases hin : i < n
      · obtain ⟨b, off, q1, A', n', c', A2', n2', c2'', hS1, hbS, hq1, hqa, y0, y1, y2, y3, y4, y5, y6⟩ := (Hs1.out.below hbel).cells7 hin
        subst hS1
        obtain ⟨k, hkd, hkg, hk0, hki⟩ := Hat.out i (by rw [← Hn.out]; exact hin)
        have hqd : ∃ q, F.drop i = q :: F.drop (i + 1) ∧ q1.loc = q.loc ∧ q ∈ F := by
          have hiF : i < F.length := by rw [← Hn.out]; exact hin
          have h1 := List.drop_eq_getElem_cons (l := F) (i := i) hiF
          rw [← List.map_drop, h1, List.map_cons] at hq1
          injection hq1 with hq1 _
          exact ⟨_, h1, by rw [← hq1]; rfl, List.getElem_mem _⟩
        obtain ⟨q, hq, hql, hqm⟩ := hqd
        have hloc := Hlocs.out q hqm
        rw [← hql] at hloc
        have hstep : whereF (F.drop (i + 1)) (T.drop (i + 1)) (out ++ [stepW out q1.loc k]) = R := by
          have := HS.out
          rw [hq, hkd, whereF, ← hql] at this
          exact this
        have Hstep := Lib.hid hstep
        clear hstep hql hq hqm HS hq1
        have hT : ∃ bt offt, S2 = some ⟨bt, offt, none⟩ ∧ ∀ wx, Below w2.heap.size w2 wx → wx.cell? ⟨bt, offt + i, none⟩ = some (.int .i64 k) := by
          obtain ⟨bt, offt, u, h1, hbt, h3, h4⟩ := Hs2.out.at_ hin
          rw [iCells, List.getElem?_map, hkg] at h3
          injection h3 with h3
          exact ⟨bt, offt, h1, fun wx hx => by rw [hx.cell (by exact hbt), h4, ← h3]⟩
        obtain ⟨bt, offt, hS2, hz0⟩ := hT
        subst hS2
        go_upto_region 10 with fail
        obtain ⟨W1, hW1⟩ : ∃ W1, W1 = wr.alloc (.cells #[str q1.type, str q1.cs, str q1.id, str q1.loc, .int .i64 q1.how, .slice A' n' c', .slice A2' n2' c2''] 25) := ⟨_, rfl⟩
        have hbA : Below wr.heap.size wr W1 := by rw [hW1]; exact (Below.refl _ _).alloc (Nat.le_refl _) _
        have hX := Box7.new wr 25 (str q1.type) (str q1.cs) (str q1.id) (str q1.loc) (.int .i64 q1.how) (.slice A' n' c') (.slice A2' n2' c2'')
        rw [← hW1] at hX
        rw [← hW1]
        clear hW1
        have ⟨x0, x1, x2, x3, x4, x5, x6⟩ := hX
        have hOB1 := hOB.below hbA
        have hbel1 := hbel.trans (hbA.mono hbel.size)
        have hbelw := Hbel2.out.trans (hbel1.mono Hbel2.out.size)
        have hgw : w2.heap.size ≤ g := by rw [Hg.out]; exact Nat.le_refl _
        have z0 := hz0 W1 hbel1
        clear hOB y0 y1 y2 y3 y4 y5 y6 hqa hz0
        by_cases hk : 0 ≤ k
        · obtain ⟨j, rfl⟩ := Int.eq_ofNat_of_zero_le hk
          have hj : j < out.length := by omega
          have hcj := hOB1.cell hj
          have hmem : (out.getD j []) ∈ out := by rw [List.getD_eq_getElem?_getD, List.getElem?_eq_getElem hj]; exact List.getElem_mem _
          have hsj := hsm _ hmem
          obtain ⟨s0, hs0⟩ : ∃ s0, s0 = out.getD j [] := ⟨_, rfl⟩
          rw [← hs0] at hcj hsj
          have Hs0 := Lib.hid hs0
          have d0 : decide ((0 : Int) ≤ (j : Int)) = true := by simp
          have d1 : (j : Int) < n := by omega
          clear hmem hs0
          by_cases he : s0 = []
          · have e1 : (s0 == []) = true := by rw [he]; rfl
            have Hse := Lib.hid he
            clear he
            have hfr : fromW out (j : Int) = outW := by unfold fromW; rw [if_neg (by rw [Int.toNat_natCast, ← Hs0.out, Hse.out]; simp)]
            have hfrl : (outW : List UInt8).length ≤ 605 := by decide
            have Hfr := Lib.hid hfr
            have Hfrl := Lib.hid hfrl
            clear hfr hfrl
            by_cases hl : q1.loc = []
            · have hl2 : (q1.loc == []) = true := by rw [hl]; rfl
              have hR2 : whereF (F.drop (i + 1)) (T.drop (i + 1)) (out ++ [outW]) = R := by
                have := Hstep.out
                rw [stepW, if_pos hl, Hfr.out] at this
                exact this
              have HR2 := Lib.hid hR2
              have HS1 := Lib.hid (hOB1.set (by omega) outW)
              have HB1 := Lib.hid (hbel1.setCell (p := ⟨g, out.length, none⟩) hgw (str outW))
              have hfz := hOB1.fz i
              obtain ⟨old, hsl⟩ := hOB1.slot i hin
              rw [hol] at HS1 HB1
              clear hl hR2 hX
              go_wp2_with fail
              exact ⟨⟨i + 1, out ++ [outW], by go_num, by omega, by simp [hol], HS1.out, HB1.out, fun s hs => by rcases List.mem_append.1 hs with h | h; exact hsm s h; rw [List.mem_singleton.1 h]; exact Hfrl.out, HR2⟩, by simp [intOf]; omega⟩
            · have hl2 : (q1.loc == []) = false := by simpa using hl
              have hR2 : whereF (F.drop (i + 1)) (T.drop (i + 1)) (out ++ [ledB outW q1.loc]) = R := by
                have := Hstep.out
                rw [stepW, if_neg hl, Hfr.out] at this
                exact this
              have HR2 := Lib.hid hR2
              have KL := Lib.hid (fun X (h : MaxLenOk X) => Led_any outW q1.loc X h (by have := Hfrl.out; unfold maxLen; omega) (by unfold maxLen; omega))
              have HLL := Lib.hid (ledB_len outW q1.loc)
              generalize ledB outW q1.loc = LL at *
              clear hl hR2 hX
              go_wp2_with fail
              refine (KL.out _ (HM.out.below hbelw)).mono ?_
              rintro e w5 ⟨rfl, hb5⟩
              have hOB5 := hOB1.below hb5
              have hbel5 := hbel1.trans (hb5.mono hbel1.size)
              have HS1 := Lib.hid (hOB5.set (by omega) LL)
              have HB1 := Lib.hid (hbel5.setCell (p := ⟨g, out.length, none⟩) hgw (str LL))
              have hfz := hOB5.fz i
              obtain ⟨old, hsl⟩ := hOB5.slot i hin
              rw [hol] at HS1 HB1
              clear x0 x1 x2 x3 x4 x5 x6 hb5
              go_wp2_with fail
              exact ⟨⟨i + 1, out ++ [LL], by go_num, by omega, by simp [hol], HS1.out, HB1.out, fun s hs => by rcases List.mem_append.1 hs with h | h; exact hsm s h; rw [List.mem_singleton.1 h]; exact HLL.out, HR2⟩, by simp [intOf]; omega⟩
          · have e1 : (s0 == []) = false := by simpa using he
            have Hse := Lib.hid he
            clear he
            have hfr : fromW out (j : Int) = s0 := by unfold fromW; rw [if_pos ⟨by omega, by rw [Int.toNat_natCast, ← Hs0.out]; exact Hse.out⟩, Int.toNat_natCast, ← Hs0.out]
            have hfrl : (s0 : List UInt8).length ≤ 605 := hsj
            have Hfr := Lib.hid hfr
            have Hfrl := Lib.hid hfrl
            clear hfr hfrl
            by_cases hl : q1.loc = []
            · have hl2 : (q1.loc == []) = true := by rw [hl]; rfl
              have hR2 : whereF (F.drop (i + 1)) (T.drop (i + 1)) (out ++ [s0]) = R := by
                have := Hstep.out
                rw [stepW, if_pos hl, Hfr.out] at this
                exact this
              have HR2 := Lib.hid hR2
              have HS1 := Lib.hid (hOB1.set (by omega) s0)
              have HB1 := Lib.hid (hbel1.setCell (p := ⟨g, out.length, none⟩) hgw (str s0))
              have hfz := hOB1.fz i
              obtain ⟨old, hsl⟩ := hOB1.slot i hin
              rw [hol] at HS1 HB1
              clear hl hR2 hX
              go_wp2_with fail
              exact ⟨⟨i + 1, out ++ [s0], by go_num, by omega, by simp [hol], HS1.out, HB1.out, fun s hs => by rcases List.mem_append.1 hs with h | h; exact hsm s h; rw [List.mem_singleton.1 h]; exact Hfrl.out, HR2⟩, by simp [intOf]; omega⟩
            · have hl2 : (q1.loc == []) = false := by simpa using hl
              have hR2 : whereF (F.drop (i + 1)) (T.drop (i + 1)) (out ++ [ledB s0 q1.loc]) = R := by
                have := Hstep.out
                rw [stepW, if_neg hl, Hfr.out] at this
                exact this
              have HR2 := Lib.hid hR2
              have KL := Lib.hid (fun X (h : MaxLenOk X) => Led_any s0 q1.loc X h (by have := Hfrl.out; unfold maxLen; omega) (by unfold maxLen; omega))
              have HLL := Lib.hid (ledB_len s0 q1.loc)
              generalize ledB s0 q1.loc = LL at *
              clear hl hR2 hX
              go_wp2_with fail
              refine (KL.out _ (HM.out.below hbelw)).mono ?_
              rintro e w5 ⟨rfl, hb5⟩
              have hOB5 := hOB1.below hb5
              have hbel5 := hbel1.trans (hb5.mono hbel1.size)
              have HS1 := Lib.hid (hOB5.set (by omega) LL)
              have HB1 := Lib.hid (hbel5.setCell (p := ⟨g, out.length, none⟩) hgw (str LL))
              have hfz := hOB5.fz i
              obtain ⟨old, hsl⟩ := hOB5.slot i hin
              rw [hol] at HS1 HB1
              clear x0 x1 x2 x3 x4 x5 x6 hb5
              go_wp2_with fail
              exact ⟨⟨i + 1, out ++ [LL], by go_num, by omega, by simp [hol], HS1.out, HB1.out, fun s hs => by rcases List.mem_append.1 hs with h | h; exact hsm s h; rw [List.mem_singleton.1 h]; exact HLL.out, HR2⟩, by simp [intOf]; omega⟩
        · obtain rfl : k = -1 := by omega
          clear hk
          have hfr : fromW out (-1) = outW := by unfold fromW; rw [if_neg (by omega)]
          have hfrl : (outW : List UInt8).length ≤ 605 := by decide
          have Hfr := Lib.hid hfr
          have Hfrl := Lib.hid hfrl
          clear hfr hfrl
          by_cases hl : q1.loc = []
          · have hl2 : (q1.loc == []) = true := by rw [hl]; rfl
            have hR2 : whereF (F.drop (i + 1)) (T.drop (i + 1)) (out ++ [outW]) = R := by
              have := Hstep.out
              rw [stepW, if_pos hl, Hfr.out] at this
              exact this
            have HR2 := Lib.hid hR2
            have HS1 := Lib.hid (hOB1.set (by omega) outW)
            have HB1 := Lib.hid (hbel1.setCell (p := ⟨g, out.length, none⟩) hgw (str outW))
            have hfz := hOB1.fz i
            obtain ⟨old, hsl⟩ := hOB1.slot i hin
            rw [hol] at HS1 HB1
            clear hl hR2 hX
            go_wp2_with fail
            exact ⟨⟨i + 1, out ++ [outW], by go_num, by omega, by simp [hol], HS1.out, HB1.out, fun s hs => by rcases List.mem_append.1 hs with h | h; exact hsm s h; rw [List.mem_singleton.1 h]; exact Hfrl.out, HR2⟩, by simp [intOf]; omega⟩
          · have hl2 : (q1.loc == []) = false := by simpa using hl
            have hR2 : whereF (F.drop (i + 1)) (T.drop (i + 1)) (out ++ [ledB outW q1.loc]) = R := by
              have := Hstep.out
              rw [stepW, if_neg hl, Hfr.out] at this
              exact this
            have HR2 := Lib.hid hR2
            have KL := Lib.hid (fun X (h : MaxLenOk X) => Led_any outW q1.loc X h (by have := Hfrl.out; unfold maxLen; omega) (by unfold maxLen; omega))
            have HLL := Lib.hid (ledB_len outW q1.loc)
            generalize ledB outW q1.loc = LL at *
            clear hl hR2 hX
            go_wp2_with fail
            refine (KL.out _ (HM.out.below hbelw)).mono ?_
            rintro e w5 ⟨rfl, hb5⟩
            have hOB5 := hOB1.below hb5
            have hbel5 := hbel1.trans (hb5.mono hbel1.size)
            have HS1 := Lib.hid (hOB5.set (by omega) LL)
            have HB1 := Lib.hid (hbel5.setCell (p := ⟨g, out.length, none⟩) hgw (str LL))
            have hfz := hOB5.fz i
            obtain ⟨old, hsl⟩ := hOB5.slot i hin
            rw [hol] at HS1 HB1
            clear x0 x1 x2 x3 x4 x5 x6 hb5
            go_wp2_with fail
            exact ⟨⟨i + 1, out ++ [LL], by go_num, by omega, by simp [hol], HS1.out, HB1.out, fun s hs => by rcases List.mem_append.1 hs with h | h; exact hsm s h; rw [List.mem_singleton.1 h]; exact HLL.out, HR2⟩, by simp [intOf]; omega⟩
      · obtain rfl : i = n := by omega
        have hS := hOB.sl hol
        have hfin : out = R := by
          have := HS.out
          rw [List.drop_eq_nil_of_le (by rw [← Hn.out]; exact Nat.le_refl _)] at this
          simpa [whereF] using this
        have Hfin := Lib.hid hfin
        have hb := Hbel2.out.trans (hbel.mono Hbel2.out.size)
        clear hfin
        go_wp2_with fail
        go_ret2
        rw [Hfin.out] at hS
        exact ⟨_, _, rfl, hS, Nat.le_refl _, by unfold maxLen; omega, hb⟩
  · have hK1 : ((K : Int) != 0) = true := by simp; omega
    simp only [if_neg hK] at Hal ⊢
    clear hok hK hat
    go_enter Tryz.func38, Tryz.ntmps38
    go_wp2_with fail
    rw [← hW]
    clear hW
    refine (Hal.out W ((Hp.out.below hbW).more hbW.size)).mono ?_
    rintro e w1 ⟨S1, c1, rfl, hs1, hc1, hm1, hb1⟩
    have hbel1 := hbW.trans (hb1.mono hbW.size)
    clear hbx hb1 hbW Hal hs1
    go_wp2_with fail
    go_ret2
    exact ⟨none, 0, rfl, Sl.nil_ _ _ _ _, Nat.le_refl _, by unfold maxLen; omega, hbel1⟩
end Go.Proofs.YtlbdnohnngkapaaGreatDoor

namespace Go.Proofs.YtlbdnohnngkapaaGreatDoor
open Go.RowKit

/-- An address without what stands behind #. -/
def bareB (s : List UInt8) : List UInt8 := (Lib.cut s [35]).1
theorem bare_any (s : List UInt8) (w : World) (hs : s.length ≤ maxLen) : Calls Tryz.prog 182 #[str s] w fun e w' => e = .returned (str (bareB s)) ∧ ∃ q, w' = w.drewN q := by
  have K := Lib.hid (fun X => Cut_one s 35 X hs)
  go_enter Tryz.func182, Tryz.ntmps182
  go_wp2_with fail
  refine (K.out _).mono ?_
  rintro e w1 ⟨rfl, q, rfl⟩
  go_wp2_with fail
  go_ret
  exact ⟨rfl, q, rfl⟩
def isB (t : List UInt8) (x : PartD) (h : List UInt8) : Bool :=
  !(manyB x.type) && (if Lib.hasPrefix t [99, 105, 100, 58] then !(x.id == []) && (x.id == t.drop 4) else !(x.loc == []) && (!(h == []) && (bareB h == t)))
def findF : List PartD → List (List UInt8) → List UInt8 → Nat → Int
  | x :: xs, h :: hs, t, i => if isB t x h then (i : Int) else findF xs hs t (i + 1)
  | [], _, _, _ => -1
  | _ :: _, [], _, _ => -1
def findG (F : List PartD) (W : List (List UInt8)) (t : List UInt8) : Int := findF F W (bareB t) 0
theorem CutPrefix_cid (l : List UInt8) (w : World) : Calls Tryz.prog 109 #[str l, .string ⟨#[99, 105, 100, 58]⟩] w fun e w' => e = .returned (.tuple #[str (if Lib.hasPrefix l [99, 105, 100, 58] then l.drop 4 else l), .bool (Lib.hasPrefix l [99, 105, 100, 58])]) ∧ w = w' := by
  refine (Go.Proofs.Tryz.strings_CutPrefix ⟨l.toArray⟩ ⟨#[99, 105, 100, 58]⟩ w).mono ?_
  rintro e w1 ⟨rfl, rfl⟩
  exact ⟨rfl, rfl⟩
def FnRel (n : Nat) (F : List PartD) (L : List (List UInt8)) (t : List UInt8) (R : Int) (w1 : World) (sv iv : Value) (wr : World) : Prop :=
  ∃ i : Nat, sv = .int .i64 0 ∧ iv = .int .i64 i ∧ i ≤ n ∧ Below w1.heap.size w1 wr ∧ Hid (findF (F.drop i) (L.drop i) t i = R)
set_option maxRecDepth 100000 in
set_option maxHeartbeats 4000000 in
theorem find_any (n c c2 : Nat) (S1 S2 : Option Addr) (F : List PartD) (L : List (List UInt8)) (t : List UInt8) (w : World) (hF : SlP (· < w.heap.size) w S1 n F) (hL : Sl w w.heap.size 1 S2 n (L.map str)) (hn : n ≤ 1000000) (ht : t.length ≤ maxLen) (hLl : ∀ s ∈ L, s.length ≤ 605) :
    Calls Tryz.prog 102 #[.slice S1 n c, .slice S2 n c2, str t] w fun e w' => e = .returned (.int .i64 (findG F L t)) ∧ Below w.heap.size w w' := by
  obtain ⟨R, hR⟩ : ∃ R, R = findG F L t := ⟨_, rfl⟩
  rw [← hR]
  unfold findG at hR
  have KB := Lib.hid (fun X => bare_any t X ht)
  have HR := Lib.hid hR
  have HF := Lib.hid hF
  have HL := Lib.hid hL
  have HLl := Lib.hid hLl
  have hFn := hF.len
  have hLn : L.length = n := by have := hL.1; simpa using this
  have HFn := Lib.hid hFn
  have HLn := Lib.hid hLn
  generalize bareB t = t' at *
  have KC := Lib.hid (fun X => CutPrefix_cid t' X)
  clear hR hF hL hLl ht hFn hLn
  obtain ⟨cid, hcid⟩ : ∃ cid, cid = Lib.hasPrefix t' [99, 105, 100, 58] := ⟨_, rfl⟩
  rw [← hcid] at KC
  obtain ⟨cut, hcut⟩ : ∃ cut, cut = (if cid then t'.drop 4 else t') := ⟨_, rfl⟩
  rw [← hcut] at KC
  have Hcid := Lib.hid hcid
  have Hcut := Lib.hid hcut
  clear hcid hcut
  go_enter Tryz.func102, Tryz.ntmps102
  go_wp2_with fail
  refine (KB.out _).mono ?_
  rintro e w1 ⟨rfl, q1, rfl⟩
  go_wp2_with fail
  refine (KC.out _).mono ?_
  rintro e w2 ⟨rfl, rfl⟩
  go_wp2_with fail
  go_loopw [6, 20] (FnRel n F L t' R w) (fun _ iv _ => n - (intOf iv).toNat)
  case atStart => exact ⟨0, rfl, rfl, Nat.zero_le _, belN (Below.refl _ _) _, by rw [List.drop_zero, List.drop_zero]; exact HR.out.symm⟩
  case round =>
    obtain ⟨i, rfl, rfl, hi, hbel, HS⟩ := hrel
    by_cases hin : i < n
    · obtain ⟨b, off, q, A', n', c', A2', n2', c2'', hS1, hbS, hq, hqa, y0, y1, y2, y3, y4, y5, y6⟩ := (HF.out.below hbel).cells7 hin
      subst hS1
      obtain ⟨bt, offt, u, hS2, hbt, hu, hcu⟩ := HL.out.at_ hin
      subst hS2
      have hiL : i < L.length := by rw [HLn.out]; exact hin
      have hdL := List.drop_eq_getElem_cons (l := L) (i := i) hiL
      rw [List.getElem?_map, List.getElem?_eq_getElem hiL] at hu
      injection hu with hu
      have hsl := HLl.out _ (List.getElem_mem hiL)
      obtain ⟨h, hh⟩ : ∃ h, h = L[i] := ⟨_, rfl⟩
      rw [← hh] at hdL hu hsl
      subst hu
      have hstep : (if isB t' q h then (i : Int) else findF (F.drop (i + 1)) (L.drop (i + 1)) t' (i + 1)) = R := by
        have := HS.out
        rw [hq, hdL, findF] at this
        exact this
      have Hstep := Lib.hid hstep
      have KM := Lib.hid (fun X => Many_any q.type X)
      have KH := Lib.hid (fun X => bare_any h X (by unfold maxLen; omega))
      clear hstep hq hdL hh HS
      go_upto_region 6 with fail
      obtain ⟨W1, hW1⟩ : ∃ W1, W1 = wr.alloc (.cells #[str q.type, str q.cs, str q.id, str q.loc, .int .i64 q.how, .slice A' n' c', .slice A2' n2' c2''] 25) := ⟨_, rfl⟩
      have hbA : Below wr.heap.size wr W1 := by rw [hW1]; exact (Below.refl _ _).alloc (Nat.le_refl _) _
      have hX := Box7.new wr 25 (str q.type) (str q.cs) (str q.id) (str q.loc) (.int .i64 q.how) (.slice A' n' c') (.slice A2' n2' c2'')
      rw [← hW1] at hX
      rw [← hW1]
      clear hW1
      have ⟨x0, x1, x2, x3, x4, x5, x6⟩ := hX
      have hbel1 := hbel.trans (hbA.mono hbel.size)
      have z0 : W1.cell? ⟨bt, offt + i, none⟩ = some (str h) := by rw [hbel1.cell (by exact hbt)]; exact hcu
      clear y0 y1 y2 y3 y4 y5 y6 hqa hcu hbel hbA hX
      have hB : isB t' q h = (!(manyB q.type) && (if cid then !(q.id == []) && (q.id == cut) else !(q.loc == []) && (!(h == []) && (bareB h == t')))) := by
        unfold isB
        rw [← Hcid.out]
        cases hcc : cid
        · rfl
        · have := Hcut.out
          rw [hcc] at this
          rw [this]
          rfl
      have HB := Lib.hid hB
      clear hB
      generalize manyB q.type = mm at KM HB
      generalize bareB h = bh at KH HB
      cases mm
      · cases cid
        · by_cases h1 : q.loc = []
          · have d1 : (q.loc == []) = true := by rw [h1]; simp
            have Hh1 := Lib.hid h1
            clear h1
            go_wp2_with fail
            refine (KM.out _).mono ?_
            rintro e wM ⟨rfl, rfl⟩
            go_wp2_with fail
            exact ⟨⟨i + 1, rfl, by go_num, by omega, hbel1, by refine Lib.hid ?_; have := Hstep.out; rw [HB.out] at this; simpa [d1] using this⟩, by simp [intOf]; omega⟩
          · have d1 : (q.loc == []) = false := by simpa using h1
            have Hh1 := Lib.hid h1
            clear h1
            by_cases h2 : h = []
            · have d2 : (h == []) = true := by rw [h2]; simp
              have Hh2 := Lib.hid h2
              clear h2
              go_wp2_with fail
              refine (KM.out _).mono ?_
              rintro e wM ⟨rfl, rfl⟩
              go_wp2_with fail
              exact ⟨⟨i + 1, rfl, by go_num, by omega, hbel1, by refine Lib.hid ?_; have := Hstep.out; rw [HB.out] at this; simpa [d1, d2] using this⟩, by simp [intOf]; omega⟩
            · have d2 : (h == []) = false := by simpa using h2
              have Hh2 := Lib.hid h2
              clear h2
              by_cases h3 : bh = t'
              · have d3 : (bh == t') = true := by rw [h3]; simp
                have Hh3 := Lib.hid h3
                clear h3
                go_wp2_with fail
                refine (KM.out _).mono ?_
                rintro e wM ⟨rfl, rfl⟩
                go_wp2_with fail
                refine (KH.out _).mono ?_
                rintro e wH ⟨rfl, q9, rfl⟩
                go_wp2_with fail
                go_ret
                have := Hstep.out
                rw [HB.out] at this
                simp [d1, d2, d3] at this
                exact ⟨by rw [← this]; rfl, belN hbel1 _⟩
              · have d3 : (bh == t') = false := by simpa using h3
                have Hh3 := Lib.hid h3
                clear h3
                go_wp2_with fail
                refine (KM.out _).mono ?_
                rintro e wM ⟨rfl, rfl⟩
                go_wp2_with fail
                refine (KH.out _).mono ?_
                rintro e wH ⟨rfl, q9, rfl⟩
                go_wp2_with fail
                exact ⟨⟨i + 1, rfl, by go_num, by omega, belN hbel1 _, by refine Lib.hid ?_; have := Hstep.out; rw [HB.out] at this; simpa [d1, d2, d3] using this⟩, by simp [intOf]; omega⟩
        · by_cases h1 : q.id = []
          · have d1 : (q.id == []) = true := by rw [h1]; simp
            have Hh1 := Lib.hid h1
            clear h1
            have hdc : (q.id == cut) = (q.id == cut) := rfl
            clear hdc
            go_wp2_with fail
            refine (KM.out _).mono ?_
            rintro e wM ⟨rfl, rfl⟩
            go_wp2_with fail
            exact ⟨⟨i + 1, rfl, by go_num, by omega, hbel1, by refine Lib.hid ?_; have := Hstep.out; rw [HB.out] at this; simpa [d1] using this⟩, by simp [intOf]; omega⟩
          · have d1 : (q.id == []) = false := by simpa using h1
            have Hh1 := Lib.hid h1
            clear h1
            by_cases h2 : q.id = cut
            · have d2 : (q.id == cut) = true := by rw [h2]; simp
              have Hh2 := Lib.hid h2
              clear h2
              go_wp2_with fail
              refine (KM.out _).mono ?_
              rintro e wM ⟨rfl, rfl⟩
              go_wp2_with fail
              go_ret
              have := Hstep.out
              rw [HB.out] at this
              simp [d1, d2] at this
              exact ⟨by rw [← this]; rfl, hbel1⟩
            · have d2 : (q.id == cut) = false := by simpa using h2
              have Hh2 := Lib.hid h2
              clear h2
              go_wp2_with fail
              refine (KM.out _).mono ?_
              rintro e wM ⟨rfl, rfl⟩
              go_wp2_with fail
              exact ⟨⟨i + 1, rfl, by go_num, by omega, hbel1, by refine Lib.hid ?_; have := Hstep.out; rw [HB.out] at this; simpa [d1, d2] using this⟩, by simp [intOf]; omega⟩
      · go_wp2_with fail
        refine (KM.out _).mono ?_
        rintro e wM ⟨rfl, rfl⟩
        go_wp2_with fail
        exact ⟨⟨i + 1, rfl, by go_num, by omega, hbel1, by refine Lib.hid ?_; have := Hstep.out; rw [HB.out] at this; simpa [] using this⟩, by simp [intOf]; omega⟩
    · obtain rfl : i = n := by omega
      have hfin := HS.out
      rw [List.drop_eq_nil_of_le (by rw [HFn.out]; exact Nat.le_refl _), findF] at hfin
      have Hfin := Lib.hid hfin
      clear hfin
      go_wp2_with fail
      go_ret
      exact ⟨by rw [← Hfin.out]; rfl, hbel⟩
end Go.Proofs.YtlbdnohnngkapaaGreatDoor

namespace Go.Proofs.YtlbdnohnngkapaaGreatDoor
open Go.RowKit

/-- The scanner, in block s: the page, where one stands, what is out. -/
def ScanIs (w : World) (s : Nat) (v : Value) (at_ : Nat) (out : Value) : Prop := w.heap[s]? = some (.cells #[v, .int .i64 (at_ : Nat), out] 141 (0, 0))
section
variable {w w' : World} {s at_ : Nat} {v out : Value}
theorem ScanIs.c0 (h : ScanIs w s v at_ out) : w.cell? ⟨s, 0, none⟩ = some v := by rw [Go.Joins.cell_of_block h]; rfl
theorem ScanIs.c1 (h : ScanIs w s v at_ out) : w.cell? ⟨s, 1, none⟩ = some (.int .i64 (at_ : Nat)) := by rw [Go.Joins.cell_of_block h]; rfl
theorem ScanIs.c2 (h : ScanIs w s v at_ out) : w.cell? ⟨s, 2, none⟩ = some out := by rw [Go.Joins.cell_of_block h]; rfl
theorem ScanIs.fz (h : ScanIs w s v at_ out) (o : Nat) : w.frozen? ⟨s, o, none⟩ = false := Go.Joins.unfrozen_of_block h o
theorem ScanIs.set1 (h : ScanIs w s v at_ out) (x : Nat) : ScanIs (w.setCell ⟨s, 1, none⟩ (.int .i64 (x : Nat))) s v x out := by
  unfold ScanIs; rw [Go.Joins.block_setCell h]; rfl
theorem ScanIs.set2 (h : ScanIs w s v at_ out) (x : Value) : ScanIs (w.setCell ⟨s, 2, none⟩ x) s v at_ x := by
  unfold ScanIs; rw [Go.Joins.block_setCell h]; rfl
theorem ScanIs.lt (h : ScanIs w s v at_ out) : s < w.heap.size := by
  rcases Nat.lt_or_ge s w.heap.size with h' | h'
  · exact h'
  · unfold ScanIs at h; rw [Array.getElem?_eq_none h'] at h; cases h
theorem ScanIs.keep (h : ScanIs w s v at_ out) (hk : w'.heap[s]? = w.heap[s]?) : ScanIs w' s v at_ out := by unfold ScanIs; rw [hk]; exact h
theorem ScanIs.below (h : ScanIs w s v at_ out) (hb : Below w.heap.size w w') : ScanIs w' s v at_ out := h.keep (hb.block s h.lt)
theorem ScanIs.drewN (h : ScanIs w s v at_ out) (n : Nat) : ScanIs (w.drewN n) s v at_ out := h
end
theorem grown_drewN {w w' : World} {r : Option Nat} (h : w.grownBy w' r) (n : Nat) : w.grownBy (w'.drewN n) r := ⟨h.os, h.tape, h.output, h.size, h.block⟩
theorem grown_below {w w' w2 : World} {r : Option Nat} (h : w.grownBy w' r) (hb : Below w'.heap.size w' w2) : w.grownBy w2 r :=
  ⟨hb.os.trans h.os, hb.tape.trans h.tape, hb.output.trans h.output, Nat.le_trans h.size hb.size, fun k hk hne => (hb.block k (Nat.lt_of_lt_of_le hk h.size)).trans (h.block k hk hne)⟩
theorem By.grown {w w' : World} {B n : Nat} {A : Option Addr} {l : List UInt8} (h : By w B A n l) {s : Nat} (hg : w.grownBy w' (some s)) (hB : B ≤ s) (hs : B ≤ w.heap.size) : By w' B A n l :=
  Sl.grown h hg hs (fun g hg => by injection hg with hg; omega)
def atOf (w : World) (s : Nat) : Nat := match w.cell? ⟨s, 1, none⟩ with | some (.int _ i) => i.toNat | _ => 0
theorem scan_at {w : World} {s at_ : Nat} {v out : Value} (h : ScanIs w s v at_ out) : atOf w s = at_ := by
  unfold atOf; rw [h.c1]; simp
theorem stopD_yes (p : Nat → Bool) (l : List UInt8) (k : Nat) (hk : k < l.length) (h : p (nth l k) = true) : stopD p (l.drop k) = l.drop k := by
  rw [List.drop_eq_getElem_cons hk]
  exact (stopD_at p _ _ (by rw [← nth_of l k hk]; exact h)).1
theorem stopD_no (p : Nat → Bool) (l : List UInt8) (k : Nat) (hk : k < l.length) (h : p (nth l k) = false) : stopD p (l.drop k) = stopD p (l.drop (k + 1)) := by
  rw [List.drop_eq_getElem_cons hk]
  exact (stopD_pre p [l[k]] _ (by simp; rw [← nth_of l k hk]; exact h)).1

/-- What a test of bytes is good for, where it turns nothing. -/
def PredQ (g : Nat) (lb : Array Value) (p : Nat → Bool) (ok : World → Prop) : Prop :=
  ∀ (W : World) (x : Nat), x < 256 → ok W → Calls Tryz.prog g (#[.int .u8 (x : Int)] ++ lb) W fun e w' => e = .returned (.bool (p x)) ∧ w' = W
def TillRel (s : Nat) (v out : Value) (n : Nat) (w : World) (p : Nat → Bool) (l : List UInt8) (R : Nat) (wr : World) : Prop :=
  ∃ at_ : Nat, at_ ≤ n ∧ ScanIs wr s v at_ out ∧ w.grownBy wr (some s) ∧ Hid ((stopD p (l.drop at_)).length = R)
/-- Where one stands behind till. -/
def TillOut (s : Nat) (v out : Value) (R : Nat) (w : World) (e : Ending) (w' : World) : Prop := e = .returned (.tuple #[]) ∧ ScanIs w' s v R out ∧ w.grownBy w' (some s)
set_option maxRecDepth 100000 in
set_option maxHeartbeats 1000000 in
theorem till_any (g : Nat) (lb : Array Value) (eg : ∀ args w, (callFunc g args).run Tryz.prog w = .ok (.enter g args) w) (p : Nat → Bool) (ok : World → Prop) (hp : PredQ g lb p ok) (s : Nat) (A : Option Addr) (n c B at_ : Nat) (out : Value) (l : List UInt8) (w : World)
    (hs : ScanIs w s (.slice A n c) at_ out) (hb : By w B A n l) (hB : B ≤ s) (hn : n ≤ 1000000) (hat : at_ ≤ n) (hok : ∀ W, w.grownBy W (some s) → ok W) :
    Calls Tryz.prog 115 #[.pointer (some ⟨s, 0, none⟩), .func (.func g) #[] lb] w (TillOut s (.slice A n c) out (n - (stopD p (l.drop at_)).length) w) := by
  have hl := hb.len
  obtain ⟨R, hR⟩ : ∃ R, R = (stopD p (l.drop at_)).length := ⟨_, rfl⟩
  have hRn : R ≤ n - at_ := by rw [hR]; have := stopD_len p (l.drop at_); simp at this; omega
  rw [← hR]
  have HR := Lib.hid hR
  have Hl := Lib.hid hl
  have Hok := Lib.hid hok
  have Hp := Lib.hid hp
  have hsl := hs.lt
  have Hs := Lib.hid hs
  clear hR hl hok hp hs
  go_enter Tryz.func115, Tryz.ntmps115
  go_wp2_with fail
  go_loopw [] (fun wr => TillRel s (.slice A n c) out n w p l R wr) (fun wr => n - atOf wr s)
  case atStart => exact ⟨at_, by omega, Hs.out, World.grownBy.refl w _, HR.out.symm⟩
  case round =>
    obtain ⟨at_, ha, hS, hg, hE⟩ := hrel
    have y0 := hS.c0
    have y1 := hS.c1
    have yf := hS.fz 1
    have HS := Lib.hid hS
    have Hat := Lib.hid (scan_at hS)
    clear hS
    by_cases han : at_ < n
    · have hby := hb.grown hg hB (by omega)
      obtain ⟨b, off, rfl, hbB, hcell⟩ := hby.at_ han
      have hx := nth_lt l at_
      have cP := fun k => Hp.out (wr.drewN k) (nth l at_) hx (Hok.out _ (grown_drewN hg k))
      have hal : at_ < l.length := by rw [Hl.out]; exact han
      clear hby
      by_cases hpx : p (nth l at_) = true
      · rw [hpx] at cP
        have HP := Lib.hid cP
        have Hpx := Lib.hid hpx
        clear cP hpx
        go_wp2_with fail
        go_quiet ((go_at_fn g; exact Calls.quiet_of_same (HP.out _)))
        go_wp2_with fail
        go_end0
        refine ⟨rfl, ?_, grown_drewN hg nq⟩
        have e : at_ = n - R := by
          have h := hE.out
          rw [stopD_yes p l at_ hal Hpx.out, List.length_drop, ← Hl.out.symm] at h
          have := Hl.out
          omega
        rw [← e]
        exact HS.out.drewN nq
      · have hpf : p (nth l at_) = false := by simpa using hpx
        rw [hpf] at cP
        have HP := Lib.hid cP
        have Hpx := Lib.hid hpf
        clear cP hpx hpf
        go_wp2_with fail
        go_quiet ((go_at_fn g; exact Calls.quiet_of_same (HP.out _)))
        have yz : (wr.drewN nq).cell? ⟨s, 1, none⟩ = some (.int .i64 (at_ : Nat)) := y1
        have yz2 : (wr.drewN nq).frozen? ⟨s, 1, none⟩ = false := yf
        go_wp2_with fail
        refine ⟨⟨at_ + 1, by omega, ?_, ?_, ?_⟩, ?_⟩
        · have := (HS.out.drewN nq).set1 (at_ + 1)
          exact this
        · have h1 := grown_drewN hg nq
          exact ⟨h1.os, h1.tape, h1.output, by simpa using h1.size, fun k hk hne => (Below.heap_setCell _ _ _ k (fun e => hne (by rw [e]))).trans (h1.block k hk hne)⟩
        · show _ = R
          rw [← stopD_no p l at_ hal Hpx.out]
          exact hE.out
        · have h2 := scan_at ((HS.out.drewN nq).set1 (at_ + 1))
          have h3 := Hat.out
          show n - atOf ((wr.drewN nq).setCell ⟨s, 1, none⟩ (.int .i64 ((at_ : Int) + 1))) s < n - atOf wr s
          rw [h3, show atOf ((wr.drewN nq).setCell ⟨s, 1, none⟩ (.int .i64 ((at_ : Int) + 1))) s = at_ + 1 from h2]
          omega
    · go_wp2_with fail
      go_quiet (fail)
      go_wp2_with fail
      go_end0
      refine ⟨rfl, ?_, grown_drewN hg nq⟩
      have e : at_ = n - R := by
        have h := hE.out
        rw [List.drop_of_length_le (by have := Hl.out; omega)] at h
        have : R = 0 := by rw [← h]; rfl
        omega
      rw [← e]
      exact HS.out.drewN nq
end Go.Proofs.YtlbdnohnngkapaaGreatDoor

namespace Go.Proofs.YtlbdnohnngkapaaGreatDoor
open Go.RowKit

theorem eqI (x k : Nat) : ((x : Int) == (k : Int)) = (x == k) := by
  rw [Bool.eq_iff_iff, beq_iff_eq, beq_iff_eq]; omega
theorem neI (x k : Nat) : ((x : Int) != (k : Int)) = !(x == k) := by
  rw [← eqI]; rfl
set_option maxRecDepth 100000 in
set_option maxHeartbeats 1000000 in
theorem find1_any (x : Nat) (_hx : x < 256) (w : World) : Calls Tryz.prog 116 #[.int .u8 (x : Int)] w fun e w' => e = .returned (.bool (pIs 60 x)) ∧ w' = w := by
  unfold pIs
  have d60 : ((x : Int) == 60) = (x == 60) := eqI x 60
  generalize (x == 60) = q60 at d60 ⊢
  cases q60
  all_goals
    go_enter Tryz.func116, Tryz.ntmps116
    go_wp2_with fail
    go_ret
    exact ⟨rfl, rfl⟩
set_option maxRecDepth 100000 in
set_option maxHeartbeats 1000000 in
theorem blanks1_any (x : Nat) (hx : x < 256) (w : World) : Calls Tryz.prog 262 #[.int .u8 (x : Int)] w fun e w' => e = .returned (.bool (pNotSp x)) ∧ w' = w := by
  have hs := space_any x hx w
  unfold pNotSp
  generalize isSp x = r at hs ⊢
  have Hs := Lib.hid hs
  clear hs
  cases r
  all_goals
    go_enter Tryz.func262, Tryz.ntmps262
    go_wp2_with fail
    refine Hs.out.mono ?_
    rintro e w1 ⟨rfl, rfl⟩
    go_wp2_with fail
    go_ret
    exact ⟨rfl, rfl⟩
set_option maxRecDepth 100000 in
set_option maxHeartbeats 1000000 in
theorem value2_any (x : Nat) (hx : x < 256) (w : World) : Calls Tryz.prog 264 #[.int .u8 (x : Int)] w fun e w' => e = .returned (.bool (pVal x)) ∧ w' = w := by
  have hs := space_any x hx w
  unfold pVal
  generalize isSp x = r at hs ⊢
  have Hs := Lib.hid hs
  clear hs
  have d62 : ((x : Int) == 62) = (x == 62) := eqI x 62
  generalize (x == 62) = q62 at d62 ⊢
  cases r <;> cases q62
  all_goals
    go_enter Tryz.func264, Tryz.ntmps264
    go_wp2_with fail
    refine Hs.out.mono ?_
    rintro e w1 ⟨rfl, rfl⟩
    go_wp2_with fail
    go_ret
    exact ⟨rfl, rfl⟩
set_option maxRecDepth 100000 in
set_option maxHeartbeats 1000000 in
theorem tag1_any (x : Nat) (hx : x < 256) (w : World) : Calls Tryz.prog 196 #[.int .u8 (x : Int)] w fun e w' => e = .returned (.bool (pName x)) ∧ w' = w := by
  have hs := space_any x hx w
  unfold pName
  generalize isSp x = r at hs ⊢
  have Hs := Lib.hid hs
  clear hs
  have d47 : ((x : Int) == 47) = (x == 47) := eqI x 47
  have d62 : ((x : Int) == 62) = (x == 62) := eqI x 62
  generalize (x == 47) = q47 at d47 ⊢
  generalize (x == 62) = q62 at d62 ⊢
  cases r <;> cases q47 <;> cases q62
  all_goals
    go_enter Tryz.func196, Tryz.ntmps196
    go_wp2_with fail
    refine Hs.out.mono ?_
    rintro e w1 ⟨rfl, rfl⟩
    go_wp2_with fail
    go_ret
    exact ⟨rfl, rfl⟩
set_option maxRecDepth 100000 in
set_option maxHeartbeats 1000000 in
theorem tag2_any (x : Nat) (hx : x < 256) (w : World) : Calls Tryz.prog 198 #[.int .u8 (x : Int)] w fun e w' => e = .returned (.bool (pAttr x)) ∧ w' = w := by
  have hs := space_any x hx w
  unfold pAttr
  generalize isSp x = r at hs ⊢
  have Hs := Lib.hid hs
  clear hs
  have d47 : ((x : Int) == 47) = (x == 47) := eqI x 47
  have n47 : ((x : Int) != 47) = !(x == 47) := neI x 47
  have e47 : (x != 47) = !(x == 47) := rfl
  rw [e47]
  clear e47
  generalize (x == 47) = q47 at d47 n47 ⊢
  cases r <;> cases q47
  all_goals
    go_enter Tryz.func198, Tryz.ntmps198
    go_wp2_with fail
    refine Hs.out.mono ?_
    rintro e w1 ⟨rfl, rfl⟩
    go_wp2_with fail
    go_ret
    exact ⟨rfl, rfl⟩
set_option maxRecDepth 100000 in
set_option maxHeartbeats 1000000 in
theorem tag3_any (x : Nat) (hx : x < 256) (w : World) : Calls Tryz.prog 199 #[.int .u8 (x : Int)] w fun e w' => e = .returned (.bool (pEq x)) ∧ w' = w := by
  have hs := space_any x hx w
  unfold pEq
  generalize isSp x = r at hs ⊢
  have Hs := Lib.hid hs
  clear hs
  have d47 : ((x : Int) == 47) = (x == 47) := eqI x 47
  have d62 : ((x : Int) == 62) = (x == 62) := eqI x 62
  have d61 : ((x : Int) == 61) = (x == 61) := eqI x 61
  generalize (x == 47) = q47 at d47 ⊢
  generalize (x == 62) = q62 at d62 ⊢
  generalize (x == 61) = q61 at d61 ⊢
  cases r <;> cases q47 <;> cases q62 <;> cases q61
  all_goals
    go_enter Tryz.func199, Tryz.ntmps199
    go_wp2_with fail
    refine Hs.out.mono ?_
    rintro e w1 ⟨rfl, rfl⟩
    go_wp2_with fail
    go_ret
    exact ⟨rfl, rfl⟩
set_option maxRecDepth 100000 in
theorem value1_any (q b x : Nat) (w : World) (hq : w.cell? ⟨b, 0, none⟩ = some (.int .u8 (q : Int))) : Calls Tryz.prog 263 #[.int .u8 (x : Int), .pointer (some ⟨b, 0, none⟩)] w fun e w' => e = .returned (.bool (pIs q x)) ∧ w' = w := by
  unfold pIs
  have d : ((x : Int) == (q : Int)) = (x == q) := eqI x q
  generalize (x == q) = r at d ⊢
  go_enter Tryz.func263, Tryz.ntmps263
  go_wp2_with fail
  go_ret
  exact ⟨rfl, rfl⟩
theorem predFind : PredQ 116 #[] (pIs 60) (fun _ => True) := fun W x hx _ => find1_any x hx W
theorem predBlank : PredQ 262 #[] pNotSp (fun _ => True) := fun W x hx _ => blanks1_any x hx W
theorem predVal : PredQ 264 #[] pVal (fun _ => True) := fun W x hx _ => value2_any x hx W
theorem predName : PredQ 196 #[] pName (fun _ => True) := fun W x hx _ => tag1_any x hx W
theorem predAttr : PredQ 198 #[] pAttr (fun _ => True) := fun W x hx _ => tag2_any x hx W
theorem predEq : PredQ 199 #[] pEq (fun _ => True) := fun W x hx _ => tag3_any x hx W
theorem predQuote (q b : Nat) : PredQ 263 #[.pointer (some ⟨b, 0, none⟩)] (pIs q) (fun W => W.cell? ⟨b, 0, none⟩ = some (.int .u8 (q : Int))) := fun W x _ h => value1_any q b x W h
end Go.Proofs.YtlbdnohnngkapaaGreatDoor

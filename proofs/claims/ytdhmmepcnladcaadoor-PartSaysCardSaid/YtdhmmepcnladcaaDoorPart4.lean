import Derived.Test.YtdhmmepcnladcaaDoorPart3
import Derived.Test.YtdhmmepcnladcaaDoorCatPart
namespace Go.Proofs.YtdhmmepcnladcaaDoor
open Go.RowKit

theorem check_at {S : Nat → Prop} {W : World} (p : PartD) (v : List Value) (h : PartAt S W p v) (w : World) :
    Calls Tryd.prog 81 #[.agg v.toArray] w fun e w' => e = .returned (.int .i64 (chkD p : Nat)) ∧ Below w.heap.size w w' := by
  obtain ⟨A, c, A2, c2, rfl, ⟨h1, h2, h3, h4, h5, h6⟩, _, h7, h8, _, h9, h10⟩ := h.open
  exact check_raw p.type p.cs p.id p.loc p.how A A2 _ c _ c2 w h1 h2 h3 h4 h5 h6 (Nat.le_trans h7 h8) (Nat.le_trans h9 h10)

/-- A slice of parts in new memory, that lead into blocks below B. -/
def AllRes (B : Nat) (ps : List PartD) (w : World) (e : Ending) (w' : World) : Prop :=
  ∃ S c rows, e = .returned (.slice S ps.length c) ∧ w'.ownsRow w.heap.size 25 7 (.slice S ps.length c) ps.length rows.flatten ∧ PartsAt (· < B) w' ps rows ∧ Below w.heap.size w w'
def AllRel (B : Nat) (parts all : List PartD) (n2 : Nat) (w0 : World) (lv iv : Value) (wr : World) : Prop :=
  ∃ i m c S done rows, lv = .slice S m c ∧ iv = .int .i64 (i : Nat) ∧ i ≤ n2 ∧ wr.ownsRow w0.heap.size 25 7 (.slice S m c) m rows.flatten ∧ PartsAt (· < B) wr done rows ∧
    Hid (done ++ flatsD (parts.drop i) = all ∧ done.length = m) ∧ 1 ≤ m ∧ Below w0.heap.size w0 wr
set_option maxRecDepth 100000 in
set_option maxHeartbeats 2000000 in
theorem all_any (k : Nat) : ∀ (p : PartD) (v : List Value) (B : Nat) (w : World), (flatD p).length ≤ k → k ≤ 1000 → B ≤ w.heap.size → PartAt (· < B) w p v →
    Calls Tryd.prog 75 #[.agg v.toArray] w (AllRes B (flatD p) w) := by
  obtain ⟨i0, hi0, hz0, hz1, hz2⟩ := info_parts catInfoPart
  induction k with
  | zero => intro p v B w h; rw [flatD_eq] at h; simp at h
  | succ k ih =>
    intro p v B w hk hk1 hB hp
    obtain ⟨A, c, A2, c2, rfl, _, _, _, _, hP, hc2, hcm⟩ := hp.open
    have hall := flatD_eq p
    have hrow : PartsAt (· < B) w [p] [[str p.type, str p.cs, str p.id, str p.loc, .int .i64 p.how, .slice A p.body.length c, .slice A2 p.parts.length c2]] := ⟨_, _, rfl, hp, rfl⟩
    obtain ⟨n2, hn2⟩ : ∃ n2, n2 = p.parts.length := ⟨_, rfl⟩
    rw [← hn2] at hP hrow hc2 ⊢
    obtain ⟨L, hL⟩ : ∃ L, L = flatD p := ⟨_, rfl⟩
    rw [← hL] at hall hk ⊢
    have hn2m : n2 ≤ 9223372036854775807 := by unfold maxLen at hcm; omega
    have Hall := Lib.hid hall
    have Hn2 := Lib.hid hn2
    have Hih := Lib.hid ih
    have hk1000 : L.length ≤ 1000 := by omega
    have Hk := Lib.hid hk
    clear hall hL hn2 ih hk hcm hp
    go_enter Tryd.func75, Tryd.ntmps75
    go_wp2_with fail
    go_loopw [3, 11] (AllRel B p.parts L n2 w) (fun _ iv _ => n2 - (intOf iv).toNat)
    case atStart =>
      have hbn : Below w.heap.size w ((w.alloc (.cells #[str p.type, str p.cs, str p.id, str p.loc, .int .i64 p.how, .slice A p.body.length c, .slice A2 n2 c2] 25)).alloc (.cells #[str p.type, str p.cs, str p.id, str p.loc, .int .i64 p.how, .slice A p.body.length c, .slice A2 n2 c2] 25)) := ((Below.refl _ w).alloc (Nat.le_refl _) _).alloc (by simp) _
      refine ⟨0, 1, 1, some ⟨w.heap.size + 1, 0, none⟩, [p], _, rfl, rfl, Nat.zero_le _, ?_, PartsAt.change (fun _ h => h) (fun a ha => hbn.cell (Nat.lt_of_lt_of_le ha hB)) _ _ hrow, ⟨Hall.out.symm, rfl⟩, Nat.le_refl _, hbn⟩
      exact ⟨rfl, .inr ⟨w.heap.size + 1, 1, _, rfl, Nat.le_succ _, by have := heap_alloc_new (w.alloc (.cells #[str p.type, str p.cs, str p.id, str p.loc, .int .i64 p.how, .slice A p.body.length c, .slice A2 n2 c2] 25)) (.cells #[str p.type, str p.cs, str p.id, str p.loc, .int .i64 p.how, .slice A p.body.length c, .slice A2 n2 c2] 25); simpa using this, Nat.le_refl _, by unfold maxLen; omega, rfl, rfl⟩⟩
    case round =>
      obtain ⟨i, m, cl, S, done, rows, rfl, rfl, hi, hown, hrows, hE, hm1, hbel⟩ := hrel
      by_cases hin : i < n2
      · have hPr := hP.belowN hbel hB
        obtain ⟨b, off, q, A', n', c', A2', n2', c2', rfl, hbS, hq, hqa, x0, x1, x2, x3, x4, x5, x6⟩ := hPr.cells7 hin
        have hE1 := hE.out.1
        rw [hq, flatsD] at hE1
        have hlq : (flatD q).length ≤ k ∧ m + (flatD q).length ≤ 1000 := by
          have h1 := congrArg List.length hE1
          have h2 := Hk.out
          have h3 := hE.out.2
          simp only [List.length_append] at h1
          omega
        obtain ⟨W, hW⟩ : ∃ W, W = wr.alloc (.cells #[str q.type, str q.cs, str q.id, str q.loc, .int .i64 q.how, .slice A' n' c', .slice A2' n2' c2'] 25) := ⟨_, rfl⟩
        have hbW : Below wr.heap.size wr W := by rw [hW]; exact (Below.refl _ wr).alloc (Nat.le_refl _) _
        have hbelW := hbel.trans (hbW.mono hbel.size)
        have hqa2 : PartAt (· < B) W q [str q.type, str q.cs, str q.id, str q.loc, .int .i64 q.how, .slice A' n' c', .slice A2' n2' c2'] := hqa.belowN hbW (Nat.le_trans hB hbel.size)
        have hcl := Hih.out q _ B W hlq.1 (by omega) (Nat.le_trans hB hbelW.size) hqa2
        have hownW := own_below hown hbW
        have hrowsW := PartsAt.change (fun _ h => h) (fun a ha => hbW.cell (Nat.lt_of_lt_of_le ha (Nat.le_trans hB hbel.size))) _ _ hrows
        have hE2 : Hid ((done ++ flatD q) ++ flatsD (p.parts.drop (i + 1)) = L ∧ (done ++ flatD q).length = m + (flatD q).length) := ⟨by rw [List.append_assoc]; exact hE1, by rw [List.length_append, hE.out.2]⟩
        generalize flatD q = F at hcl hE2 hlq
        have Hcl := Lib.hid hcl
        clear hE hE1 hq hqa hqa2 hcl hPr hown hrows hbW hbel
        go_wp2_with fail
        rw [← hW]
        clear hW x0 x1 x2 x3 x4 x5 x6
        refine Hcl.out.mono ?_
        rintro e w1 ⟨S2, c2, rows2, rfl, hown2, hrows2, hb1⟩
        have hown1 := own_below hownW hb1
        have hrows1 := PartsAt.change (fun _ h => h) (fun a ha => hb1.cell (Nat.lt_of_lt_of_le ha (Nat.le_trans hB hbelW.size))) _ _ hrowsW
        have hbel1 := hbelW.trans (hb1.mono hbelW.size)
        have hone := PartsAt.one _ _ hrows2
        have hsl := Sl.of_own hown2
        have h63 : m + F.length ≤ maxLen := by unfold maxLen; omega
        have h47 : (m + F.length) * 120 ≤ 140737488355328 := by omega
        clear hownW hrowsW hown2 hb1 hbelW Hcl
        go_wp2_with (at_builtin; refine wpList_app rfl _ _ 23 rfl w.heap.size 25 i0 (Value.agg #[.string ⟨#[]⟩, .string ⟨#[]⟩, .string ⟨#[]⟩, .string ⟨#[]⟩, .int .i64 0, .slice none 0 0, .slice none 0 0]) 7 120 Tryd.underlying23 hi0 hz0 hz1 hz2 rfl (by decide) S m cl rows.flatten rfl hown1 _ S2 F.length c2 rows2.flatten rfl hsl hone h63 h47 hbel1.size ?_)
        intro S' c' w4 hown4 hb4 _
        have hbel4 := hbel1.trans hb4
        have hr1 := PartsAt.change (fun _ h => h) (fun a ha => hb4.cell (Nat.lt_of_lt_of_le ha hB)) _ _ hrows1
        have hr2 := PartsAt.change (fun _ h => h) (fun a ha => hb4.cell (Nat.lt_of_lt_of_le ha hB)) _ _ hrows2
        clear hrows1 hrows2
        go_wp2_with fail
        exact ⟨⟨i + 1, m + F.length, c', S', done ++ F, rows ++ rows2, rfl, by go_num, by omega, by rw [List.flatten_append]; exact hown4, PartsAt.app _ _ _ _ hr1 hr2, hE2, by omega, hbel4⟩, by simp [intOf]; omega⟩
      · have hE1 : Hid (done = L ∧ L.length = m) := by
          have h1 := hE.out.1
          rw [List.drop_of_length_le (by rw [hP.len]; omega), flatsD, List.append_nil] at h1
          exact ⟨h1, by rw [← h1]; exact hE.out.2⟩
        clear hE
        go_wp2_with fail
        go_ret
        obtain ⟨rfl, rfl⟩ := hE1.out
        exact ⟨S, cl, rows, rfl, hown, hrows, hbel⟩
theorem AllRes.slp {B : Nat} {ps : List PartD} {w w' : World} {S : Option Addr} {c : Nat} {rows : List (List Value)} (hown : w'.ownsRow w.heap.size 25 7 (.slice S ps.length c) ps.length rows.flatten) (hr : PartsAt (· < B) w' ps rows) (hB : B ≤ w'.heap.size) :
    SlP (· < w'.heap.size) w' S ps.length ps := ⟨rows, Sl.of_own hown, PartsAt.change (fun _ h => Nat.lt_of_lt_of_le h hB) (fun _ _ => rfl) _ _ hr⟩
def ChkRel (L : List PartD) (R : Nat) (w0 w1 : World) (iv : Value) (wr : World) : Prop :=
  ∃ i : Nat, iv = .int .i64 (i : Nat) ∧ i ≤ L.length ∧ Hid (firstErr (L.drop i) = R) ∧ Below w1.heap.size w1 wr
set_option maxRecDepth 100000 in
set_option maxHeartbeats 2000000 in
theorem PCheck_any (p : PartD) (v : List Value) (w : World) (hp : PartAt (· < w.heap.size) w p v) :
    Calls Tryd.prog 15 #[.agg v.toArray] w fun e w' => e = .returned (.int .i64 (checkD p : Nat)) ∧ Below w.heap.size w w' := by
  have hfl := fun c => cntD_flat 3 p c
  have hcle := fun c => cntD_le 3 p c
  have hck1 := checkD_none p
  have hck2 := fun c => checkD_some p c
  obtain ⟨A, c, A2, c2, rfl, _⟩ := hp.open
  obtain ⟨W, hW⟩ : ∃ W, W = w.alloc (.cells #[str p.type, str p.cs, str p.id, str p.loc, .int .i64 p.how, .slice A p.body.length c, .slice A2 p.parts.length c2] 25) := ⟨_, rfl⟩
  have hbW : Below w.heap.size w W := by rw [hW]; exact (Below.refl _ w).alloc (Nat.le_refl _) _
  have hbx : Box7 W w.heap.size (str p.type) (str p.cs) (str p.id) (str p.loc) (.int .i64 p.how) (.slice A p.body.length c) (.slice A2 p.parts.length c2) := by rw [hW]; exact Box7.new w _ _ _ _ _ _ _ _
  have hpW := hp.below hbW
  have hct := count_any 3 p _ 1 W (by omega) (by omega) (hpW.more hbW.size)
  obtain ⟨n2, hn2⟩ : ∃ n2, n2 = p.parts.length := ⟨_, rfl⟩
  obtain ⟨n1, hn1⟩ : ∃ n1, n1 = p.body.length := ⟨_, rfl⟩
  have Hp := Lib.hid hp
  have HpW := Lib.hid hpW
  have HW := Lib.hid hW
  generalize checkD p = R at hck1 hck2 ⊢
  generalize cntD 3 p = o at hct hfl hcle hck1 hck2
  cases o with
  | none =>
    obtain rfl : R = 2 := hck1 rfl
    simp only [cntVal] at hct
    clear hck1 hck2 hfl hcle hp hpW hn1 hn2
    go_enter Tryd.func15, Tryd.ntmps15
    go_wp2_with fail
    rw [← hW]
    clear hW
    refine hct.mono ?_
    clear hct
    rintro e w1 ⟨rfl, hb1⟩
    go_wp2_with fail
    go_ret
    exact ⟨rfl, hbW.trans (hb1.mono hbW.size)⟩
  | some c0 =>
    have h1 := hck2 c0 rfl
    have h2 := hfl c0 rfl
    have h3 := hcle c0 rfl
    obtain ⟨h31, h32⟩ := h3
    simp only [cntVal] at hct
    obtain ⟨L, hL⟩ : ∃ L, L = flatD p := ⟨_, rfl⟩
    rw [← hL] at h1 h2
    have HR := Lib.hid h1
    have HL := Lib.hid hL
    have HLc := Lib.hid h2
    have hlen : L.length ≤ 12 := by omega
    have Hct := Lib.hid hct
    clear hck1 hck2 hfl hcle hp hpW hn1 hn2 h1 h2 hL hct
    go_enter Tryd.func15, Tryd.ntmps15
    go_wp2_with fail
    rw [← hW]
    clear hW
    refine Hct.out.mono ?_
    clear Hct
    rintro e w1 ⟨rfl, hb1⟩
    have hbx1 := hbx.below hb1
    have hbel1 := hbW.trans (hb1.mono hbW.size)
    have hp1 := Hp.out.below hbel1
    have hal := all_any 12 p _ w.heap.size w1 (by rw [← HL.out]; exact hlen) (by omega) hbel1.size hp1
    rw [← HL.out] at hal
    have Hal := Lib.hid hal
    have ⟨x0, x1, x2, x3, x4, x5, x6⟩ := hbx1
    clear hbx hbx1 hp1 hal hb1 hbW
    go_wp2_with fail
    refine Hal.out.mono ?_
    clear Hal x0 x1 x2 x3 x4 x5 x6
    rintro e w2 ⟨S, c3, rows, rfl, hown, hrows, hb2⟩
    have hbel2 := hbel1.trans (hb2.mono hbel1.size)
    have hP := AllRes.slp hown hrows hbel2.size
    clear hown hrows
    go_wp2_with fail
    go_loopw [18] (ChkRel L R w w2) (fun iv _ => L.length - (intOf iv).toNat)
    case atStart => exact ⟨0, rfl, Nat.zero_le _, HR.out.symm, Below.refl _ _⟩
    case round =>
      obtain ⟨i, rfl, hi, hE, hbel⟩ := hrel
      by_cases hin : i < L.length
      · have hPr := hP.below hbel
        obtain ⟨b, off, q, A', n', c', A2', n2', c2', rfl, hbS, hq, hqa, x0, x1, x2, x3, x4, x5, x6⟩ := hPr.cells7 hin
        have hck := fun W => check_at q _ hqa W
        have hE2 : Hid (R = if chkD q = 0 then firstErr (L.drop (i + 1)) else chkD q) := by show R = _; rw [← hE.out, hq, firstErr]
        generalize chkD q = e at hck hE2
        have Hck := Lib.hid hck
        have hbA := hbel.alloc hbel.size (.cells #[str q.type, str q.cs, str q.id, str q.loc, .int .i64 q.how, .slice A' n' c', .slice A2' n2' c2'] 25)
        clear hck hqa hq hPr hE
        go_wp2_with fail
        refine (Hck.out _).mono ?_
        rintro e1 w3 ⟨rfl, hb3⟩
        have hbel3 := hbA.trans (hb3.mono hbA.size)
        clear Hck x0 x1 x2 x3 x4 x5 x6 hbA hb3
        by_cases he : e = 0
        · subst he
          have hE3 : Hid (firstErr (L.drop (i + 1)) = R) := by have := hE2.out; rw [if_pos rfl] at this; exact this.symm
          clear hE2
          go_wp2_with fail
          exact ⟨⟨i + 1, by go_num, by omega, hE3, hbel3⟩, by simp [intOf]; omega⟩
        · obtain rfl : R = e := by have := hE2.out; rw [if_neg he] at this; exact this
          have he1 : ((R : Int) != 0) = true := by simp; omega
          clear hE2 he
          go_wp2_with fail
          go_ret
          exact ⟨rfl, hbel2.trans (hbel3.mono hbel2.size)⟩
      · obtain rfl : 0 = R := by rw [← hE.out, List.drop_of_length_le (by omega)]; rfl
        clear hE
        go_wp2_with fail
        go_ret
        exact ⟨rfl, hbel2.trans (hbel.mono hbel2.size)⟩
end Go.Proofs.YtdhmmepcnladcaaDoor

import Derived.Test.YtdhmmepcnladcaaDoorHd8
import Derived.Deep.RegionHeld
import Derived.Test.YtdhmmepcnladcaaDoorAppOp
namespace Go.Proofs.YtdhmmepcnladcaaDoor
open Go.RowKit
attribute [local go_sem high] cut_fields upto_fields

theorem takeWhile_yes (q : FieldD → Bool) : ∀ (l : List FieldD) (y : FieldD), y ∈ l.takeWhile q → q y = true
  | [], _, h => by simp at h
  | x :: l, y, h => by
    rw [List.takeWhile_cons] at h
    split at h
    · rename_i hq
      rcases List.mem_cons.1 h with rfl | h
      · exact hq
      · exact takeWhile_yes q l y h
    · simp at h
/-- As PredF, of the worlds in which what lies below a block is as it was. -/
def PredFB (base g : Nat) (lb : Array Value) (p : FieldD → Bool) (l : List FieldD) (w : World) : Prop :=
  ∀ (W : World) (x : FieldD), x ∈ l → Below base w W → Calls Tryd.prog g (#[.agg #[str x.name, str x.value]] ++ lb) W fun e w' => e = .returned (.bool (p x)) ∧ Below W.heap.size W w'
def DelRes (base : Nat) (F : List FieldD) (w : World) (e : Ending) (w' : World) : Prop :=
  ∃ S k c, e = .returned (.slice S k c) ∧ k = F.length ∧ w'.ownsRow base 46 2 (.slice S k c) k (fieldC F) ∧ Below base w w'
def DelRel (base g n c : Nat) (l F : List FieldD) (p : FieldD → Bool) (w : World) (iv jv : Value) (wr : World) : Prop :=
  ∃ (i j : Nat) (kept junk : List FieldD), iv = .int .i64 (i : Nat) ∧ jv = .int .i64 (j : Nat) ∧ Hid (kept.length = i ∧ kept.length + junk.length = j ∧ kept ++ (l.drop j).filter (fun x => !p x) = F) ∧ i < j ∧ j ≤ n ∧
    wr.ownsRow base 46 2 (.slice (some ⟨g, 0, none⟩) n c) n (fieldC (kept ++ junk ++ l.drop j)) ∧ Below base w wr
set_option maxRecDepth 100000 in
set_option maxHeartbeats 2000000 in
theorem DeleteFunc_fields (base g0 : Nat) (lb : Array Value) (eg : ∀ args w, (callFunc g0 args).run Tryd.prog w = .ok (.enter g0 args) w) (p : FieldD → Bool) (l : List FieldD) (S : Option Addr) (n c : Nat) (w : World)
    (hown : w.ownsRow base 46 2 (.slice S n c) n (fieldC l)) (hbase : base ≤ w.heap.size) (hn : n ≤ 1000) (hp : PredFB base g0 lb p l w) :
    Calls Tryd.prog 66 #[.slice S n c, .func (.func g0) #[] lb] w (DelRes base (l.filter (fun x => !p x)) w) := by
  have hl : l.length = n := by have := hown.1; rw [fieldC_len] at this; omega
  have hnc := own_cap hown
  have hcm := own_capF hown
  have hpf : PredF g0 lb p l w := fun W x hx hW => hp W x hx (hW.mono hbase)
  have hix := IndexFunc_fields g0 lb eg p l S n c w.heap.size w (Sl.of_own hown) (Nat.le_refl _) (by unfold maxLen; omega) hpf
  have hlaw : (firstF p l = -1 ∧ l.filter (fun x => !p x) = l) ∨ ∃ a x r, l = a ++ x :: r ∧ (∀ y ∈ a, p y = false) ∧ p x = true ∧ firstF p l = (a.length : Int) := by
    by_cases h : l.any p = true
    · right
      refine ⟨l.takeWhile (fun x => !p x), ?_⟩
      have hsp := List.takeWhile_append_dropWhile (p := fun x => !p x) (l := l)
      cases hd : l.dropWhile (fun x => !p x) with
      | nil =>
        exfalso
        rw [hd, List.append_nil] at hsp
        obtain ⟨y, hy, hpy⟩ := List.any_eq_true.1 h
        rw [← hsp] at hy
        have := takeWhile_yes _ _ y hy
        simp [hpy] at this
      | cons x r =>
        rw [hd] at hsp
        have hx : p x = true := by
          have := List.head?_dropWhile_not (fun x => !p x) l
          rw [hd] at this
          simpa using this
        have ha : ∀ y ∈ l.takeWhile (fun x => !p x), p y = false := fun y hy => by simpa using takeWhile_yes _ _ y hy
        refine ⟨x, r, hsp.symm, ha, hx, ?_⟩
        have := firstF_hit p _ x r ha hx
        rwa [hsp] at this
    · left
      have hall : ∀ y ∈ l, p y = false := by
        intro y hy
        cases hpy : p y
        · rfl
        · exact absurd (List.any_eq_true.2 ⟨y, hy, hpy⟩) h
      exact ⟨firstF_none p l hall, List.filter_eq_self.2 (fun y hy => by simp [hall y hy])⟩
  rcases hlaw with ⟨h1, h2⟩ | ⟨a, x, r, hlx, ha, hx, h1⟩
  · rw [h1] at hix
    rw [h2]
    have Hix := Lib.hid hix
    have Hown := Lib.hid hown
    have Hl := Lib.hid hl
    clear hix hown hl hp hpf h1 h2
    go_enter Tryd.func66, Tryd.ntmps66
    go_wp2_with fail
    refine Hix.out.mono ?_
    rintro e w1 ⟨rfl, hb1⟩
    go_wp2_with fail
    go_ret
    exact ⟨S, n, c, rfl, Hl.out.symm, own_below Hown.out hb1, hb1.mono hbase⟩
  · have hal : a.length < n := by rw [← hl, hlx]; simp
    have hF : l.filter (fun x => !p x) = a ++ r.filter (fun x => !p x) := by
      rw [hlx, List.filter_append, List.filter_eq_self.2 (fun y hy => by simp [ha y hy]), List.filter_cons, if_neg (by simp [hx])]
    obtain ⟨Fl, hFl⟩ : ∃ Fl, Fl = l.filter (fun x => !p x) := ⟨_, rfl⟩
    rw [← hFl] at hF ⊢
    rw [h1] at hix
    obtain ⟨g, cap, hv, hgb, hgl⟩ := hown.form (by omega)
    injection hv with hS2 _ hcap
    subst hS2
    subst hcap
    have hdr : l.drop (a.length + 1) = r := by
      rw [hlx, show a ++ x :: r = (a ++ [x]) ++ r by simp]
      exact List.drop_left' (by simp)
    have hstart : DelRel base g n c l Fl p w (.int .i64 (a.length : Nat)) (.int .i64 ((a.length + 1 : Nat) : Int)) w := by
      refine ⟨a.length, a.length + 1, a, [x], rfl, rfl, ⟨rfl, rfl, ?_⟩, by omega, by omega, ?_, Below.refl _ _⟩
      · rw [hdr, hF]
      · rw [hdr, show a ++ [x] ++ r = l by rw [hlx]; simp]; exact hown
    have hgo : ∀ w1, Below w.heap.size w w1 → DelRel base g n c l Fl p w (.int .i64 (a.length : Nat)) (.int .i64 ((a.length + 1 : Nat) : Int)) w1 := by
      intro w1 hb
      obtain ⟨i, j, kept, junk, e1, e2, e3, e4, e5, e6, e7⟩ := hstart
      exact ⟨i, j, kept, junk, e1, e2, e3, e4, e5, own_below e6 hb, hb.mono hbase⟩
    obtain ⟨ia, hia⟩ : ∃ ia, ia = a.length := ⟨_, rfl⟩
    rw [← hia] at hix hgo hal
    have hne : ((ia : Int) == -1) = false := by simp
    have Hix := Lib.hid hix
    have HGo := Lib.hid hgo
    have HP := Lib.hid hp
    have Hl := Lib.hid hl
    unfold maxLen at hcm
    clear hix hgo hstart hdr hF hFl ha hx h1 hown hpf hp hl hia hlx
    go_enter Tryd.func66, Tryd.ntmps66
    go_wp2_with fail
    refine Hix.out.mono ?_
    rintro e w1 ⟨rfl, hb1⟩
    have HR := Lib.hid (HGo.out w1 hb1)
    clear HGo Hix hb1
    go_wp2_with fail
    go_loopw [5, 6] (DelRel base g n c l Fl p w) (fun _ jv _ => n - (intOf jv).toNat)
    case atStart => have := HR.out; simpa using this
    case round =>
      clear HR
      obtain ⟨i, j, kept, junk, rfl, rfl, hE, hij, hjn, hown, hbel⟩ := hrel
      by_cases hj : j < n
      · have hsl := Sl.of_own hown
        obtain ⟨b, off, y, hA, _, hy, y0, y1⟩ := hsl.field j hj
        injection hA with hA
        injection hA with hA1 hA2 _
        subst hA1
        subst hA2
        have hjl : j < l.length := by rw [Hl.out]; exact hj
        have hyl : l.drop j = y :: l.drop (j + 1) := by
          have h2 : (kept ++ junk ++ l.drop j).drop j = l.drop j := List.drop_left' (by rw [List.length_append]; exact hE.out.2.1)
          rw [h2] at hy
          have h3 := List.drop_eq_getElem_cons hjl
          rw [h3] at hy
          injection hy with hy _
          rw [h3, hy]
        have hym : y ∈ l := List.mem_of_mem_drop (i := j) (by rw [hyl]; simp)
        have hszb := Nat.le_trans hbase (Nat.le_refl _)
        have hbs : base ≤ wr.heap.size := Nat.le_trans hbase hbel.size
        have hbA : Below base w (wr.alloc (.cells #[str y.name, str y.value] 46)) := hbel.alloc hbs _
        have hcl := HP.out (wr.alloc (.cells #[str y.name, str y.value] 46)) y hym hbA
        have hbx := box2_new wr 46 (str y.name) (str y.value)
        have hownA := own_below hown ((Below.refl wr.heap.size wr).alloc (Nat.le_refl _) (.cells #[str y.name, str y.value] 46))
        have hE2 := hE.out
        rw [hyl] at hE2
        have hrow : kept ++ junk ++ l.drop j = kept ++ junk ++ y :: l.drop (j + 1) := by rw [hyl]
        rw [hrow] at hownA
        have Hrow := Lib.hid hownA
        have hjI : (0 : Int) ≤ j := by omega
        have hjI2 : (j : Int) < n := by omega
        have z0 : wr.cell? ⟨g, j * 2, none⟩ = some (str y.name) := by rw [Nat.zero_add] at y0; exact y0
        have z1 : wr.cell? ⟨g, j * 2 + 1, none⟩ = some (str y.value) := by rw [Nat.zero_add] at y1; exact y1
        clear hown hsl hy hyl hownA hrow y0 y1 hym
        cases hpy : p y
        case true =>
          rw [hpy] at hcl
          have Hcl := Lib.hid hcl
          have hF3 : Hid (kept.length = i ∧ kept.length + (junk ++ [y]).length = j + 1 ∧ kept ++ (l.drop (j + 1)).filter (fun x => !p x) = Fl) := by
            refine ⟨hE2.1, by rw [List.length_append]; simp; have := hE2.2.1; omega, ?_⟩
            have := hE2.2.2
            rw [List.filter_cons, if_neg (by simp [hpy])] at this
            exact this
          clear hcl hpy hE2 hE
          go_wp2_with (go_at_fn g0; refine Hcl.out.mono ?_; rintro e w2 ⟨rfl, hb2⟩)
          have hbel2 := hbA.trans (hb2.mono (Nat.le_trans hbase hbA.size))
          have hown2 := own_below Hrow.out hb2
          exact ⟨⟨i, j + 1, kept, junk ++ [y], rfl, by go_num, hF3, by omega, by omega, by simpa using hown2, hbel2⟩, by simp [intOf]; omega⟩
        case false =>
          rw [hpy] at hcl
          have Hcl := Lib.hid hcl
          obtain ⟨k0, js, rfl⟩ : ∃ k0 js, junk = k0 :: js := by
            cases junk with
            | nil => have h1 := hE2.1; have h2 := hE2.2.1; simp at h2; omega
            | cons k0 js => exact ⟨k0, js, rfl⟩
          have hF3 : Hid ((kept ++ [y]).length = i + 1 ∧ (kept ++ [y]).length + (js ++ [y]).length = j + 1 ∧ (kept ++ [y]) ++ (l.drop (j + 1)).filter (fun x => !p x) = Fl) := by
            refine ⟨by simp [hE2.1], ?_, ?_⟩
            · have := hE2.2.1
              simp only [List.length_append, List.length_cons, List.length_nil] at this ⊢
              omega
            · have := hE2.2.2
              rw [List.filter_cons, if_pos (by simp [hpy])] at this
              rw [← this]; simp
          have hsw := fieldC_swap kept (js ++ y :: l.drop (j + 1)) k0 y
          rw [hE2.1] at hsw
          have Hsw := Lib.hid hsw
          clear hcl hpy hE2 hE hsw
          have hiI : (0 : Int) ≤ i := by omega
          have hiI2 : (i : Int) < n := by omega
          go_wp2_with (go_at_fn g0; refine Hcl.out.mono ?_; rintro e w2 ⟨rfl, hb2⟩; have hown2 := own_below Hrow.out hb2; have q0 := (hb2.cell (p := ⟨wr.heap.size, 0, none⟩) (by simp)).trans hbx.1; have q1 := (hb2.cell (p := ⟨wr.heap.size, 1, none⟩) (by simp)).trans hbx.2; have f0 := hown2.frozenAt (i * 2); have f1 := hown2.frozenAt (i * 2 + 1); obtain ⟨u0, hu0⟩ : ∃ u, w2.cell? ⟨g, i * 2, none⟩ = some u := ⟨_, (hown2.cellAt (i * 2) (by omega)).trans (List.getElem?_eq_getElem (by rw [hown2.1]; omega))⟩; obtain ⟨u1, hu1⟩ : ∃ u, w2.cell? ⟨g, i * 2 + 1, none⟩ = some u := ⟨_, (hown2.cellAt (i * 2 + 1) (by omega)).trans (List.getElem?_eq_getElem (by rw [hown2.1]; omega))⟩)
          have hbel2 := hbA.trans (hb2.mono (Nat.le_trans hbase hbA.size))
          have hown3 := ((hown2.stored (i * 2) (str y.name)).1.stored (i * 2 + 1) (str y.value)).1
          rw [show kept ++ k0 :: js ++ y :: l.drop (j + 1) = kept ++ k0 :: (js ++ y :: l.drop (j + 1)) by simp, Hsw.out] at hown3
          refine ⟨⟨i + 1, j + 1, kept ++ [y], js ++ [y], by go_num, by go_num, hF3, by omega, by omega, ?_, (hbel2.setCell hgb _).setCell hgb _⟩, by simp [intOf]; omega⟩
          simpa using hown3
      · obtain rfl : j = n := by omega
        have hE2 := hE.out
        rw [List.drop_of_length_le (by rw [Hl.out]; exact Nat.le_refl _)] at hown hE2
        simp only [List.filter_nil, List.append_nil] at hown hE2
        obtain ⟨e1, e2, e3⟩ := hE2
        obtain ⟨vs, hclr⟩ : ∃ vs, ∀ ty, (Builtin.clear_ #[42] ty #[.slice (some ⟨g, i * 2, none⟩) (j - i) (c - i)]).run Tryd.prog wr = .ok (.tuple #[]) (wr.setCells g (i * 2) vs) := by
          have h := fun ty => clear_fields wr ty g (i * 2) (j - i) (c - i) (by omega) (fun t ht => by rw [hown.cellAt (i * 2 + t) (by omega), List.getElem?_eq_getElem (by rw [hown.1]; omega)]; rfl) (fun t => hown.frozenAt t)
          obtain ⟨vs, h0⟩ := h 0
          exact ⟨vs, fun ty => h0⟩
        have hown2 := own_head (own_setCells vs _ (i * 2) wr hown) (i := i) (by omega)
        rw [setL_take _ _ _ _ (Nat.le_refl _)] at hown2
        have htk : (fieldC (kept ++ junk)).take (i * 2) = fieldC Fl := by
          rw [fieldC_app, ← e3]
          exact List.take_left' (by rw [fieldC_len, e1])
        rw [htk] at hown2
        have hbel2 := below_setCellsF (g := g) hgb vs (i * 2) wr hbel
        have Hown2 := Lib.hid hown2
        have Hk := Lib.hid (show i = Fl.length by rw [← e3, e1])
        have hij0 : (0 : Int) ≤ i := by omega
        have hij1 : (i : Int) ≤ j := by omega
        have hic : (i : Int) < c := by omega
        clear hown hown2 htk e1 e2 e3 hE
        go_wp2_with fail
        go_ret
        exact ⟨some ⟨g, 0, none⟩, i, c, rfl, Hk.out, Hown2.out, hbel2⟩
end Go.Proofs.YtdhmmepcnladcaaDoor

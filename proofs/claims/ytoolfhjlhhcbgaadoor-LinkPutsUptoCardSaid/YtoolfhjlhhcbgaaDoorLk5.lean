import Derived.Test.YtoolfhjlhhcbgaaDoorLk4
namespace Go.Proofs.YtoolfhjlhhcbgaaDoor
open Go.RowKit

theorem suffix_drop {r l : List UInt8} (h : r <:+ l) : l.drop (l.length - r.length) = r := by
  obtain ⟨x, rfl⟩ := h
  have : (x ++ r).length - r.length = x.length := by simp
  rw [this, List.drop_left]
theorem grown_tr {a b c : World} {s : Nat} (h : a.grownBy b (some s)) (k : b.grownBy c (some s)) : a.grownBy c (some s) :=
  ⟨k.os.trans h.os, k.tape.trans h.tape, k.output.trans h.output, Nat.le_trans h.size k.size, fun j hj hne => (k.block j (Nat.lt_of_lt_of_le hj h.size) hne).trans (h.block j hj hne)⟩
theorem till_rest (g : Nat) (lb : Array Value) (eg : ∀ args w, (callFunc g args).run Tryd.prog w = .ok (.enter g args) w) (p : Nat → Bool) (ok : World → Prop) (hp : PredQ g lb p ok) (s : Nat) (A : Option Addr) (n c B : Nat) (out : Value) (l r : List UInt8) (w : World)
    (hs : ScanIs w s (.slice A n c) (n - r.length) out) (hr : r <:+ l) (hb : By w B A n l) (hB : B ≤ s) (hn : n ≤ 1000000) (hok : ∀ W, w.grownBy W (some s) → ok W) :
    Calls Tryd.prog 68 #[.pointer (some ⟨s, 0, none⟩), .func (.func g) #[] lb] w (TillOut s (.slice A n c) out (n - (stopD p r).length) w) := by
  have h := till_any g lb eg p ok hp s A n c B (n - r.length) out l w hs hb hB hn (Nat.sub_le _ _) hok
  rw [← hb.len, suffix_drop hr, hb.len] at h
  exact h
theorem blanks_any (s : Nat) (A : Option Addr) (n c B : Nat) (out : Value) (l r : List UInt8) (w : World)
    (hs : ScanIs w s (.slice A n c) (n - r.length) out) (hr : r <:+ l) (hb : By w B A n l) (hB : B ≤ s) (hn : n ≤ 1000000) :
    Calls Tryd.prog 106 #[.pointer (some ⟨s, 0, none⟩)] w (TillOut s (.slice A n c) out (n - (stopD pNotSp r).length) w) := by
  have h := till_rest 130 #[] (enters_of Tryd.func130 (by kernel_rfl) rfl) pNotSp _ predBlank s A n c B out l r w hs hr hb hB hn (fun _ _ => trivial)
  have H := Lib.hid h
  clear h hs
  go_enter Tryd.func106, Tryd.ntmps106
  go_wp2_with fail
  refine H.out.mono ?_
  rintro e w1 ⟨rfl, h1, h2⟩
  go_wp2_with fail
  go_end0
  exact ⟨rfl, h1, h2⟩
/-- Where one stands, and what stands there. -/
theorem By.rest {w : World} {B n : Nat} {A : Option Addr} {l : List UInt8} (h : By w B A n l) {c0 : UInt8} {r : List UInt8} (hr : c0 :: r <:+ l) :
    n - (c0 :: r).length < n ∧ nth l (n - (c0 :: r).length) = c0.toNat ∧ n - r.length = n - (c0 :: r).length + 1 := by
  have hl := h.len
  have hle := hr.length_le
  have hd := suffix_drop hr
  rw [hl] at hd hle
  simp only [List.length_cons] at hle ⊢
  refine ⟨by omega, ?_, by omega⟩
  have := nth_drop l (n - (r.length + 1)) 0
  simp only [Nat.add_zero] at this
  rw [← this]
  simp only [List.length_cons] at hd
  rw [hd]
  rfl
def ValOut (s : Nat) (v out : Value) (n : Nat) (r : List UInt8) (w : World) (e : Ending) (w' : World) : Prop :=
  e = .returned (.tuple #[.int .i64 ((n - (valueR r).1.length : Nat) : Int), .int .i64 ((n - (valueR r).2.1.length : Nat) : Int)]) ∧ ScanIs w' s v (n - (valueR r).2.2.length) out ∧ w.grownBy w' (some s)
theorem valueR_nil' {t : List UInt8} (h : stopD pNotSp t = []) : valueR t = ([], [], []) := by unfold valueR; rw [h]
theorem valueR_quo {r : List UInt8} {c : UInt8} {r2 : List UInt8} (h : stopD pNotSp r = c :: r2) (hc : c = 34 ∨ c = 39) : valueR r = (r2, stopD (pIs c.toNat) r2, (stopD (pIs c.toNat) r2).drop 1) := by
  show (match stopD pNotSp r with | [] => _ | c :: r2 => _) = _
  rw [h]
  exact if_pos hc
theorem valueR_bare {r : List UInt8} {c : UInt8} {r2 : List UInt8} (h : stopD pNotSp r = c :: r2) (hc : ¬ (c = 34 ∨ c = 39)) : valueR r = (c :: r2, stopD pVal (c :: r2), stopD pVal (c :: r2)) := by
  show (match stopD pNotSp r with | [] => _ | c :: r2 => _) = _
  rw [h]
  exact if_neg hc
theorem by_new {w : World} {b off n : Nat} {l : List UInt8} {B : Nat} (h : By w B (some ⟨b, off, none⟩) n l) (k : Nat) (hk : k < n) : w.cell? ⟨b, off + k, none⟩ = some (.int .u8 (nth l k)) := by
  obtain ⟨b', off', hA, _, hc⟩ := h.opn (by omega)
  injection hA with hA
  injection hA with h1 h2 _
  subst h1; subst h2
  exact hc k hk
set_option maxRecDepth 100000 in
set_option maxHeartbeats 2000000 in
theorem value_any (s : Nat) (A : Option Addr) (n c B : Nat) (out : Value) (l r : List UInt8) (w : World)
    (hs : ScanIs w s (.slice A n c) (n - r.length) out) (hr : r <:+ l) (hb : By w B A n l) (hB : B ≤ s) (hn : n ≤ 1000000) :
    Calls Tryd.prog 107 #[.pointer (some ⟨s, 0, none⟩)] w (ValOut s (.slice A n c) out n r w) := by
  have hbl := blanks_any s A n c B out l r w hs hr hb hB hn
  have hsB : B ≤ w.heap.size := by have := hs.lt; omega
  have Hbl := Lib.hid hbl
  clear hbl hs
  have hr1 : stopD pNotSp r <:+ l := (stopD_suffix pNotSp r).trans hr
  rcases hd : stopD pNotSp r with _ | ⟨c0, r2⟩
  · unfold ValOut
    rw [valueR_nil' hd]
    rw [hd] at Hbl
    simp only [List.length_nil, Nat.sub_zero] at Hbl ⊢
    have Hd := Lib.hid hd
    clear hd
    go_enter Tryd.func107, Tryd.ntmps107
    go_wp2_with fail
    refine Hbl.out.mono ?_
    clear Hbl
    rintro e w1 ⟨rfl, hS1, hg1⟩
    have y0 := hS1.c0
    have y1 := hS1.c1
    have HS1 := Lib.hid hS1
    clear hS1
    go_wp2_with fail
    go_quiet (fail)
    have hS2 : ScanIs (w1.drewN nq) s (.slice A n c) (n - ([] : List UInt8).length) out := HS1.out.drewN nq
    have y0' := hS2.c0
    have y1' := hS2.c1
    have hb2 : By (w1.drewN nq) B A n l := hb.grown (grown_drewN hg1 nq) hB hsB
    have ht := till_rest 132 #[] (enters_of Tryd.func132 (by kernel_rfl) rfl) pVal _ predVal s A n c B out l [] (w1.drewN nq) hS2 (List.nil_suffix) hb2 hB hn (fun _ _ => trivial)
    have Ht := Lib.hid ht
    clear ht hS2 hb2 y0 y1
    go_wp2_with fail
    refine Ht.out.mono ?_
    clear Ht
    rintro e w2 ⟨rfl, hS3, hg3⟩
    have z1 := hS3.c1
    have HS3 := Lib.hid hS3
    clear hS3
    go_wp2_with fail
    go_quiet (fail)
    go_wp2_with fail
    go_ret2
    exact ⟨rfl, HS3.out.drewN _, grown_tr (grown_drewN hg1 _) (grown_drewN hg3 _)⟩
  · rw [hd] at hr1 Hbl
    obtain ⟨f1, f2, f3⟩ := hb.rest hr1
    obtain ⟨a1, ha1⟩ : ∃ a1, a1 = n - (c0 :: r2).length := ⟨_, rfl⟩
    rw [← ha1] at f1 f2 f3 Hbl
    obtain ⟨q, hq⟩ : ∃ q, q = c0.toNat := ⟨_, rfl⟩
    rw [← hq] at f2
    have hq256 : q < 256 := by rw [hq]; exact c0.toNat_lt
    have Ha1 := Lib.hid ha1
    have F2 := Lib.hid f2
    have F3 := Lib.hid f3
    have Hq := Lib.hid hq
    clear ha1 f2 f3 hq
    by_cases hc : c0 = 34 ∨ c0 = 39
    · unfold ValOut
      rw [valueR_quo hd hc]
      have Hd := Lib.hid hd
      clear hd
      go_enter Tryd.func107, Tryd.ntmps107
      go_wp2_with fail
      refine Hbl.out.mono ?_
      clear Hbl
      rintro e w1 ⟨rfl, hS1, hg1⟩
      have y0 := hS1.c0
      have y1 := hS1.c1
      have HS1 := Lib.hid hS1
      have hb1 := hb.grown hg1 hB hsB
      obtain ⟨b, off, rfl, hbB, -⟩ := hb1.opn (by omega)
      have hcell := by_new hb1 a1 f1
      rw [F2.out] at hcell
      have Hb1 := Lib.hid hb1
      clear hS1 hb1
      go_wp2_with fail
      have dd : ((q : Int) == 34) = true ∨ (((q : Int) == 34) = false ∧ ((q : Int) == 39) = true) := by
        rcases hc with rfl | rfl
        · left; rw [Hq.out]; rfl
        · right; rw [Hq.out]; exact ⟨rfl, rfl⟩
      rcases dd with d34 | ⟨d34, d39⟩
      case' inl => go_quiet (fail)
      case' inr => go_quiet (fail)
      all_goals
        have hS2 : ScanIs (w1.drewN nq) s (.slice (some ⟨b, off, none⟩) n c) a1 out := HS1.out.drewN nq
        have y0' := hS2.c0
        have y1' := hS2.c1
        have hcell' : (w1.drewN nq).cell? ⟨b, off + a1, none⟩ = some (.int .u8 (q : Int)) := hcell
        have l1 : s < w1.heap.size := HS1.out.lt
        have l2 : b < w1.heap.size := by omega
        have hall := fun (p : Addr) (hp : p.block < w1.heap.size) => World.cell?_alloc_lt (w1.drewN (nq + 1)) (.cells #[.int .u8 0] 5) p hp
        have z0 := (hall ⟨s, 0, none⟩ l1).trans y0
        have z1 := (hall ⟨s, 1, none⟩ l1).trans y1
        have zb := (hall ⟨b, off + a1, none⟩ l2).trans hcell
        have hnew : ((w1.drewN (nq + 1)).alloc (.cells #[.int .u8 0] 5)).heap[w1.heap.size]? = some (.cells #[.int .u8 0] 5) := heap_alloc_new (w1.drewN (nq + 1)) _
        have zn : ((w1.drewN (nq + 1)).alloc (.cells #[.int .u8 0] 5)).cell? ⟨w1.heap.size, 0, none⟩ = some (.int .u8 0) := by rw [Go.Joins.cell_of_block hnew]; rfl
        have zf := Go.Joins.unfrozen_of_block hnew 0
        have hW2 : ∃ W2 : World, W2 = ((w1.drewN (nq + 1)).alloc (.cells #[.int .u8 0] 5)).setCell ⟨w1.heap.size, 0, none⟩ (.int .u8 (q : Int)) := ⟨_, rfl⟩
        obtain ⟨W2, hW2⟩ := hW2
        have hS3 : ScanIs W2 s (.slice (some ⟨b, off, none⟩) n c) a1 out := by
          rw [hW2]
          refine hS2.keep ?_
          rw [Below.heap_setCell _ _ _ s (by show s ≠ w1.heap.size; omega)]
          exact Lib.alloc_old _ _ _ l1
        have hg2 : w1.grownBy W2 (some s) := by
          rw [hW2]
          refine ⟨rfl, rfl, rfl, by simp, fun k hk _ => ?_⟩
          rw [Below.heap_setCell _ _ _ k (by show k ≠ w1.heap.size; omega)]
          exact Lib.alloc_old _ _ _ hk
        have hqc : W2.cell? ⟨w1.heap.size, 0, none⟩ = some (.int .u8 (q : Int)) := by
          rw [hW2]
          exact World.cell?_setCell_same _ _ _ zn
        have hqs : W2.heap.size = w1.heap.size + 1 := by rw [hW2]; simp
        clear hall hnew
        go_wp2_with fail
        go_region
        rw [← hW2]
        clear hW2 z0 z1 zb zn zf y0 y1 hcell y0' y1' hcell' hS2
        have hgW : w.grownBy W2 (some s) := grown_tr hg1 hg2
        obtain ⟨qb, hqb⟩ : ∃ qb, qb = w1.heap.size := ⟨_, rfl⟩
        rw [← hqb] at hqc hqs l1 ⊢
        have hS4 : ScanIs (W2.setCell ⟨s, 1, none⟩ (.int .i64 ((a1 : Int) + 1))) s (.slice (some ⟨b, off, none⟩) n c) (a1 + 1) out := hS3.set1 (a1 + 1)
        have hg4 := grown_set W2 s 1 (.int .i64 ((a1 : Int) + 1))
        have hgW4 := grown_tr hgW hg4
        have hb4 : By (W2.setCell ⟨s, 1, none⟩ (.int .i64 ((a1 : Int) + 1))) B (some ⟨b, off, none⟩) n l := hb.grown hgW4 hB hsB
        have hr2 : r2 <:+ l := (List.suffix_cons c0 r2).trans hr1
        have ht := till_rest 131 #[.pointer (some ⟨qb, 0, none⟩)] (enters_of Tryd.func131 (by kernel_rfl) rfl) (pIs q) _ (predQuote q qb) s (some ⟨b, off, none⟩) n c B out l r2 (W2.setCell ⟨s, 1, none⟩ (.int .i64 ((a1 : Int) + 1))) (by rw [F3.out]; exact hS4) hr2 hb4 hB hn
          (fun W hW => by
            rw [World.cell?_of_block (hW.block qb (by simp; omega) (by intro e; injection e with e; omega))]
            rw [World.cell?_of_block (Below.heap_setCell W2 ⟨s, 1, none⟩ _ qb (by show qb ≠ s; omega))]
            exact hqc)
        have x0 := hS3.c0
        have x1 := hS3.c1
        have xf := hS3.fz 1
        have x1' := hS4.c1
        have hd2 := stopD_len (pIs q) r2
        obtain ⟨D, hD⟩ : ∃ D, D = stopD (pIs q) r2 := ⟨_, rfl⟩
        rw [← hD] at ht hd2
        have hle2 : r2.length + 1 ≤ n := by have := hr1.length_le; rw [hb.len] at this; simpa using this
        obtain ⟨a2, ha2⟩ : ∃ a2, a2 = n - D.length := ⟨_, rfl⟩
        rw [← ha2] at ht
        have Ht := Lib.hid ht
        have HD := Lib.hid hD
        have Hg := Lib.hid hgW4
        clear hS3 hS4 hg2 hgW hgW4 hg4 hb4 ht hD hqb hg1 hqc
        go_wp2_with fail
        refine Ht.out.mono ?_
        clear Ht
        rintro e w4 ⟨rfl, hS5, hg5⟩
        have u0 := hS5.c0
        have u1 := hS5.c1
        have uf := hS5.fz 1
        have HS5 := Lib.hid hS5
        clear hS5 x0 x1 xf x1'
        go_wp2_with fail
        have ha2n : a2 ≤ n := by omega
        have i1 : IntKind.i64.wrap ((a2 : Int) + 1) = (a2 : Int) + 1 := IntWalk.i64_in _ (by omega)
        have Ha2 := Lib.hid ha2
        clear ha2
        go_region
        clear i1
        go_wp2_with fail
        go_ret2
        have HD' : stopD (pIs c0.toNat) r2 = D := by rw [HD.out, Hq.out]
        rw [HD']
        refine ⟨?_, ?_, ?_⟩
        · rw [F3.out]
          rfl
        · have h5 := (HS5.out.set1 (n - (D.drop 1).length))
          have e : ((n - (D.drop 1).length : Nat) : Int) = min ((a2 : Int) + 1) n := by
            rw [Ha2.out, List.length_drop]
            omega
          rw [e] at h5
          exact h5
        · exact grown_tr (grown_tr Hg.out hg5) (grown_drewN (grown_set w4 s 1 _) 1)
    · have hdv : valueR r = (c0 :: r2, stopD pVal (c0 :: r2), stopD pVal (c0 :: r2)) := valueR_bare hd hc
      unfold ValOut
      rw [hdv]
      simp only
      have d34 : ((q : Int) == 34) = false := by
        rw [beq_eq_false_iff_ne]; intro e
        have : c0.toNat = 34 := by rw [← Hq.out]; omega
        exact hc (.inl (UInt8.toNat_inj.1 this))
      have d39 : ((q : Int) == 39) = false := by
        rw [beq_eq_false_iff_ne]; intro e
        have : c0.toNat = 39 := by rw [← Hq.out]; omega
        exact hc (.inr (UInt8.toNat_inj.1 this))
      obtain ⟨E, hE⟩ : ∃ E, E = stopD pVal (c0 :: r2) := ⟨_, rfl⟩
      rw [← hE, ← Ha1.out]
      have HE := Lib.hid hE
      clear hd hdv hE hc
      go_enter Tryd.func107, Tryd.ntmps107
      go_wp2_with fail
      refine Hbl.out.mono ?_
      clear Hbl
      rintro e w1 ⟨rfl, hS1, hg1⟩
      have y0 := hS1.c0
      have y1 := hS1.c1
      have HS1 := Lib.hid hS1
      have hb1 := hb.grown hg1 hB hsB
      obtain ⟨b, off, rfl, hbB, -⟩ := hb1.opn (by omega)
      have hcell := by_new hb1 a1 f1
      rw [F2.out] at hcell
      have Hb1 := Lib.hid hb1
      clear hS1 hb1
      go_wp2_with fail
      go_quiet (fail)
      have hS2 : ScanIs (w1.drewN nq) s (.slice (some ⟨b, off, none⟩) n c) (n - (c0 :: r2).length) out := by rw [← Ha1.out]; exact HS1.out.drewN nq
      have hb2 : By (w1.drewN nq) B (some ⟨b, off, none⟩) n l := hb.grown (grown_drewN hg1 nq) hB hsB
      have ht := till_rest 132 #[] (enters_of Tryd.func132 (by kernel_rfl) rfl) pVal _ predVal s (some ⟨b, off, none⟩) n c B out l (c0 :: r2) (w1.drewN nq) hS2 hr1 hb2 hB hn (fun _ _ => trivial)
      rw [← HE.out] at ht
      have Ht := Lib.hid ht
      clear ht hS2 hb2
      go_wp2_with fail
      refine Ht.out.mono ?_
      clear Ht
      rintro e w2 ⟨rfl, hS3, hg3⟩
      have z1 := hS3.c1
      have HS3 := Lib.hid hS3
      clear hS3
      go_wp2_with fail
      go_quiet (fail)
      go_wp2_with fail
      go_ret2
      exact ⟨rfl, HS3.out.drewN _, grown_tr (grown_drewN hg1 _) (grown_drewN hg3 _)⟩
end Go.Proofs.YtoolfhjlhhcbgaaDoor

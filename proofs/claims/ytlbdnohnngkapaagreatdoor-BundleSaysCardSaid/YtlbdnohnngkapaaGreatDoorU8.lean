import Derived.Test.YtlbdnohnngkapaaGreatDoorU7
import Derived.Maps.Own
import Derived.Maps.Views
import Derived.StringKeys
import Derived.Test.YtlbdnohnngkapaaGreatDoorU1
import Derived.Lib.ReplaceLaws
namespace Go.Proofs.YtlbdnohnngkapaaGreatDoor
open Go.RowKit

theorem suffix_drop {r l : List UInt8} (h : r <:+ l) : l.drop (l.length - r.length) = r := by
  obtain ⟨x, rfl⟩ := h
  have : (x ++ r).length - r.length = x.length := by simp
  rw [this, List.drop_left]
theorem grown_tr {a b c : World} {s : Nat} (h : a.grownBy b (some s)) (k : b.grownBy c (some s)) : a.grownBy c (some s) :=
  ⟨k.os.trans h.os, k.tape.trans h.tape, k.output.trans h.output, Nat.le_trans h.size k.size, fun j hj hne => (k.block j (Nat.lt_of_lt_of_le hj h.size) hne).trans (h.block j hj hne)⟩
theorem till_rest (g : Nat) (lb : Array Value) (eg : ∀ args w, (callFunc g args).run Tryz.prog w = .ok (.enter g args) w) (p : Nat → Bool) (ok : World → Prop) (hp : PredQ g lb p ok) (s : Nat) (A : Option Addr) (n c B : Nat) (out : Value) (l r : List UInt8) (w : World)
    (hs : ScanIs w s (.slice A n c) (n - r.length) out) (hr : r <:+ l) (hb : By w B A n l) (hB : B ≤ s) (hn : n ≤ 1000000) (hok : ∀ W, w.grownBy W (some s) → ok W) :
    Calls Tryz.prog 115 #[.pointer (some ⟨s, 0, none⟩), .func (.func g) #[] lb] w (TillOut s (.slice A n c) out (n - (stopD p r).length) w) := by
  have h := till_any g lb eg p ok hp s A n c B (n - r.length) out l w hs hb hB hn (Nat.sub_le _ _) hok
  rw [← hb.len, suffix_drop hr, hb.len] at h
  exact h
theorem blanks_any (s : Nat) (A : Option Addr) (n c B : Nat) (out : Value) (l r : List UInt8) (w : World)
    (hs : ScanIs w s (.slice A n c) (n - r.length) out) (hr : r <:+ l) (hb : By w B A n l) (hB : B ≤ s) (hn : n ≤ 1000000) :
    Calls Tryz.prog 201 #[.pointer (some ⟨s, 0, none⟩)] w (TillOut s (.slice A n c) out (n - (stopD pNotSp r).length) w) := by
  have h := till_rest 262 #[] (enters_of Tryz.func262 (by kernel_rfl) rfl) pNotSp _ predBlank s A n c B out l r w hs hr hb hB hn (fun _ _ => trivial)
  have H := Lib.hid h
  clear h hs
  go_enter Tryz.func201, Tryz.ntmps201
  go_wp2_with fail
  refine H.out.mono ?_
  rintro e w1 ⟨rfl, h1, h2⟩
  go_wp2_with fail
  go_end0
  exact ⟨rfl, h1, h2⟩
/-- Where one stands, and what stands there. -/
theorem By.rest {w : World} {B n : Nat} {A : Option Addr} {l : List UInt8} (h : By w B A n l) {c0 : UInt8} {r : List UInt8} (hr : c0 :: r <:+ l) :
    n - (c0 :: r).length < n ∧ nth l (n - (c0 :: r).length) = c0.toNat ∧ n - r.length = n - (c0 :: r).length + 1 := by
  have hl := h.len
  have hle := hr.length_le
  have hd := suffix_drop hr
  rw [hl] at hd hle
  simp only [List.length_cons] at hle ⊢
  refine ⟨by omega, ?_, by omega⟩
  have := nth_drop l (n - (r.length + 1)) 0
  simp only [Nat.add_zero] at this
  rw [← this]
  simp only [List.length_cons] at hd
  rw [hd]
  rfl
def ValOut (s : Nat) (v out : Value) (n : Nat) (r : List UInt8) (w : World) (e : Ending) (w' : World) : Prop :=
  e = .returned (.tuple #[.int .i64 ((n - (valueR r).1.length : Nat) : Int), .int .i64 ((n - (valueR r).2.1.length : Nat) : Int)]) ∧ ScanIs w' s v (n - (valueR r).2.2.length) out ∧ w.grownBy w' (some s)
theorem valueR_nil' {t : List UInt8} (h : stopD pNotSp t = []) : valueR t = ([], [], []) := by unfold valueR; rw [h]
theorem valueR_quo {r : List UInt8} {c : UInt8} {r2 : List UInt8} (h : stopD pNotSp r = c :: r2) (hc : c = 34 ∨ c = 39) : valueR r = (r2, stopD (pIs c.toNat) r2, (stopD (pIs c.toNat) r2).drop 1) := by
  show (match stopD pNotSp r with | [] => _ | c :: r2 => _) = _
  rw [h]
  exact if_pos hc
theorem valueR_bare {r : List UInt8} {c : UInt8} {r2 : List UInt8} (h : stopD pNotSp r = c :: r2) (hc : ¬ (c = 34 ∨ c = 39)) : valueR r = (c :: r2, stopD pVal (c :: r2), stopD pVal (c :: r2)) := by
  show (match stopD pNotSp r with | [] => _ | c :: r2 => _) = _
  rw [h]
  exact if_neg hc
theorem by_new {w : World} {b off n : Nat} {l : List UInt8} {B : Nat} (h : By w B (some ⟨b, off, none⟩) n l) (k : Nat) (hk : k < n) : w.cell? ⟨b, off + k, none⟩ = some (.int .u8 (nth l k)) := by
  obtain ⟨b', off', hA, _, hc⟩ := h.opn (by omega)
  injection hA with hA
  injection hA with h1 h2 _
  subst h1; subst h2
  exact hc k hk
set_option maxRecDepth 100000 in
set_option maxHeartbeats 2000000 in
theorem value_any (s : Nat) (A : Option Addr) (n c B : Nat) (out : Value) (l r : List UInt8) (w : World)
    (hs : ScanIs w s (.slice A n c) (n - r.length) out) (hr : r <:+ l) (hb : By w B A n l) (hB : B ≤ s) (hn : n ≤ 1000000) :
    Calls Tryz.prog 202 #[.pointer (some ⟨s, 0, none⟩)] w (ValOut s (.slice A n c) out n r w) := by
  have hbl := blanks_any s A n c B out l r w hs hr hb hB hn
  have hsB : B ≤ w.heap.size := by have := hs.lt; omega
  have Hbl := Lib.hid hbl
  clear hbl hs
  have hr1 : stopD pNotSp r <:+ l := (stopD_suffix pNotSp r).trans hr
  rcases hd : stopD pNotSp r with _ | ⟨c0, r2⟩
  · unfold ValOut
    rw [valueR_nil' hd]
    rw [hd] at Hbl
    simp only [List.length_nil, Nat.sub_zero] at Hbl ⊢
    have Hd := Lib.hid hd
    clear hd
    go_enter Tryz.func202, Tryz.ntmps202
    go_wp2_with fail
    refine Hbl.out.mono ?_
    clear Hbl
    rintro e w1 ⟨rfl, hS1, hg1⟩
    have y0 := hS1.c0
    have y1 := hS1.c1
    have HS1 := Lib.hid hS1
    clear hS1
    go_wp2_with fail
    go_quiet (fail)
    have hS2 : ScanIs (w1.drewN nq) s (.slice A n c) (n - ([] : List UInt8).length) out := HS1.out.drewN nq
    have y0' := hS2.c0
    have y1' := hS2.c1
    have hb2 : By (w1.drewN nq) B A n l := hb.grown (grown_drewN hg1 nq) hB hsB
    have ht := till_rest 264 #[] (enters_of Tryz.func264 (by kernel_rfl) rfl) pVal _ predVal s A n c B out l [] (w1.drewN nq) hS2 (List.nil_suffix) hb2 hB hn (fun _ _ => trivial)
    have Ht := Lib.hid ht
    clear ht hS2 hb2 y0 y1
    go_wp2_with fail
    refine Ht.out.mono ?_
    clear Ht
    rintro e w2 ⟨rfl, hS3, hg3⟩
    have z1 := hS3.c1
    have HS3 := Lib.hid hS3
    clear hS3
    go_wp2_with fail
    go_quiet (fail)
    go_wp2_with fail
    go_ret2
    exact ⟨rfl, HS3.out.drewN _, grown_tr (grown_drewN hg1 _) (grown_drewN hg3 _)⟩
  · rw [hd] at hr1 Hbl
    obtain ⟨f1, f2, f3⟩ := hb.rest hr1
    obtain ⟨a1, ha1⟩ : ∃ a1, a1 = n - (c0 :: r2).length := ⟨_, rfl⟩
    rw [← ha1] at f1 f2 f3 Hbl
    obtain ⟨q, hq⟩ : ∃ q, q = c0.toNat := ⟨_, rfl⟩
    rw [← hq] at f2
    have hq256 : q < 256 := by rw [hq]; exact c0.toNat_lt
    have Ha1 := Lib.hid ha1
    have F2 := Lib.hid f2
    have F3 := Lib.hid f3
    have Hq := Lib.hid hq
    clear ha1 f2 f3 hq
    by_cases hc : c0 = 34 ∨ c0 = 39
    · unfold ValOut
      rw [valueR_quo hd hc]
      have Hd := Lib.hid hd
      clear hd
      go_enter Tryz.func202, Tryz.ntmps202
      go_wp2_with fail
      refine Hbl.out.mono ?_
      clear Hbl
      rintro e w1 ⟨rfl, hS1, hg1⟩
      have y0 := hS1.c0
      have y1 := hS1.c1
      have HS1 := Lib.hid hS1
      have hb1 := hb.grown hg1 hB hsB
      obtain ⟨b, off, rfl, hbB, -⟩ := hb1.opn (by omega)
      have hcell := by_new hb1 a1 f1
      rw [F2.out] at hcell
      have Hb1 := Lib.hid hb1
      clear hS1 hb1
      go_wp2_with fail
      have dd : ((q : Int) == 34) = true ∨ (((q : Int) == 34) = false ∧ ((q : Int) == 39) = true) := by
        rcases hc with rfl | rfl
        · left; rw [Hq.out]; rfl
        · right; rw [Hq.out]; exact ⟨rfl, rfl⟩
      rcases dd with d34 | ⟨d34, d39⟩
      case' inl => go_quiet (fail)
      case' inr => go_quiet (fail)
      all_goals
        have hS2 : ScanIs (w1.drewN nq) s (.slice (some ⟨b, off, none⟩) n c) a1 out := HS1.out.drewN nq
        have y0' := hS2.c0
        have y1' := hS2.c1
        have hcell' : (w1.drewN nq).cell? ⟨b, off + a1, none⟩ = some (.int .u8 (q : Int)) := hcell
        have l1 : s < w1.heap.size := HS1.out.lt
        have l2 : b < w1.heap.size := by omega
        have hall := fun (p : Addr) (hp : p.block < w1.heap.size) => World.cell?_alloc_lt (w1.drewN (nq + 1)) (.cells #[.int .u8 0] 5) p hp
        have z0 := (hall ⟨s, 0, none⟩ l1).trans y0
        have z1 := (hall ⟨s, 1, none⟩ l1).trans y1
        have zb := (hall ⟨b, off + a1, none⟩ l2).trans hcell
        have hnew : ((w1.drewN (nq + 1)).alloc (.cells #[.int .u8 0] 5)).heap[w1.heap.size]? = some (.cells #[.int .u8 0] 5) := heap_alloc_new (w1.drewN (nq + 1)) _
        have zn : ((w1.drewN (nq + 1)).alloc (.cells #[.int .u8 0] 5)).cell? ⟨w1.heap.size, 0, none⟩ = some (.int .u8 0) := by rw [Go.Joins.cell_of_block hnew]; rfl
        have zf := Go.Joins.unfrozen_of_block hnew 0
        have hW2 : ∃ W2 : World, W2 = ((w1.drewN (nq + 1)).alloc (.cells #[.int .u8 0] 5)).setCell ⟨w1.heap.size, 0, none⟩ (.int .u8 (q : Int)) := ⟨_, rfl⟩
        obtain ⟨W2, hW2⟩ := hW2
        have hS3 : ScanIs W2 s (.slice (some ⟨b, off, none⟩) n c) a1 out := by
          rw [hW2]
          refine hS2.keep ?_
          rw [Below.heap_setCell _ _ _ s (by show s ≠ w1.heap.size; omega)]
          exact Lib.alloc_old _ _ _ l1
        have hg2 : w1.grownBy W2 (some s) := by
          rw [hW2]
          refine ⟨rfl, rfl, rfl, by simp, fun k hk _ => ?_⟩
          rw [Below.heap_setCell _ _ _ k (by show k ≠ w1.heap.size; omega)]
          exact Lib.alloc_old _ _ _ hk
        have hqc : W2.cell? ⟨w1.heap.size, 0, none⟩ = some (.int .u8 (q : Int)) := by
          rw [hW2]
          exact World.cell?_setCell_same _ _ _ zn
        have hqs : W2.heap.size = w1.heap.size + 1 := by rw [hW2]; simp
        clear hall hnew
        go_wp2_with fail
        go_region
        rw [← hW2]
        clear hW2 z0 z1 zb zn zf y0 y1 hcell y0' y1' hcell' hS2
        have hgW : w.grownBy W2 (some s) := grown_tr hg1 hg2
        obtain ⟨qb, hqb⟩ : ∃ qb, qb = w1.heap.size := ⟨_, rfl⟩
        rw [← hqb] at hqc hqs l1 ⊢
        have hS4 : ScanIs (W2.setCell ⟨s, 1, none⟩ (.int .i64 ((a1 : Int) + 1))) s (.slice (some ⟨b, off, none⟩) n c) (a1 + 1) out := hS3.set1 (a1 + 1)
        have hg4 := grown_set W2 s 1 (.int .i64 ((a1 : Int) + 1))
        have hgW4 := grown_tr hgW hg4
        have hb4 : By (W2.setCell ⟨s, 1, none⟩ (.int .i64 ((a1 : Int) + 1))) B (some ⟨b, off, none⟩) n l := hb.grown hgW4 hB hsB
        have hr2 : r2 <:+ l := (List.suffix_cons c0 r2).trans hr1
        have ht := till_rest 263 #[.pointer (some ⟨qb, 0, none⟩)] (enters_of Tryz.func263 (by kernel_rfl) rfl) (pIs q) _ (predQuote q qb) s (some ⟨b, off, none⟩) n c B out l r2 (W2.setCell ⟨s, 1, none⟩ (.int .i64 ((a1 : Int) + 1))) (by rw [F3.out]; exact hS4) hr2 hb4 hB hn
          (fun W hW => by
            rw [World.cell?_of_block (hW.block qb (by simp; omega) (by intro e; injection e with e; omega))]
            rw [World.cell?_of_block (Below.heap_setCell W2 ⟨s, 1, none⟩ _ qb (by show qb ≠ s; omega))]
            exact hqc)
        have x0 := hS3.c0
        have x1 := hS3.c1
        have xf := hS3.fz 1
        have x1' := hS4.c1
        have hd2 := stopD_len (pIs q) r2
        obtain ⟨D, hD⟩ : ∃ D, D = stopD (pIs q) r2 := ⟨_, rfl⟩
        rw [← hD] at ht hd2
        have hle2 : r2.length + 1 ≤ n := by have := hr1.length_le; rw [hb.len] at this; simpa using this
        obtain ⟨a2, ha2⟩ : ∃ a2, a2 = n - D.length := ⟨_, rfl⟩
        rw [← ha2] at ht
        have Ht := Lib.hid ht
        have HD := Lib.hid hD
        have Hg := Lib.hid hgW4
        clear hS3 hS4 hg2 hgW hgW4 hg4 hb4 ht hD hqb hg1 hqc
        go_wp2_with fail
        refine Ht.out.mono ?_
        clear Ht
        rintro e w4 ⟨rfl, hS5, hg5⟩
        have u0 := hS5.c0
        have u1 := hS5.c1
        have uf := hS5.fz 1
        have HS5 := Lib.hid hS5
        clear hS5 x0 x1 xf x1'
        go_wp2_with fail
        have ha2n : a2 ≤ n := by omega
        have i1 : IntKind.i64.wrap ((a2 : Int) + 1) = (a2 : Int) + 1 := IntWalk.i64_in _ (by omega)
        have Ha2 := Lib.hid ha2
        clear ha2
        go_region
        clear i1
        go_wp2_with fail
        go_ret2
        have HD' : stopD (pIs c0.toNat) r2 = D := by rw [HD.out, Hq.out]
        rw [HD']
        refine ⟨?_, ?_, ?_⟩
        · rw [F3.out]
          rfl
        · have h5 := (HS5.out.set1 (n - (D.drop 1).length))
          have e : ((n - (D.drop 1).length : Nat) : Int) = min ((a2 : Int) + 1) n := by
            rw [Ha2.out, List.length_drop]
            omega
          rw [e] at h5
          exact h5
        · exact grown_tr (grown_tr Hg.out hg5) (grown_drewN (grown_set w4 s 1 _) 1)
    · have hdv : valueR r = (c0 :: r2, stopD pVal (c0 :: r2), stopD pVal (c0 :: r2)) := valueR_bare hd hc
      unfold ValOut
      rw [hdv]
      simp only
      have d34 : ((q : Int) == 34) = false := by
        rw [beq_eq_false_iff_ne]; intro e
        have : c0.toNat = 34 := by rw [← Hq.out]; omega
        exact hc (.inl (UInt8.toNat_inj.1 this))
      have d39 : ((q : Int) == 39) = false := by
        rw [beq_eq_false_iff_ne]; intro e
        have : c0.toNat = 39 := by rw [← Hq.out]; omega
        exact hc (.inr (UInt8.toNat_inj.1 this))
      obtain ⟨E, hE⟩ : ∃ E, E = stopD pVal (c0 :: r2) := ⟨_, rfl⟩
      rw [← hE, ← Ha1.out]
      have HE := Lib.hid hE
      clear hd hdv hE hc
      go_enter Tryz.func202, Tryz.ntmps202
      go_wp2_with fail
      refine Hbl.out.mono ?_
      clear Hbl
      rintro e w1 ⟨rfl, hS1, hg1⟩
      have y0 := hS1.c0
      have y1 := hS1.c1
      have HS1 := Lib.hid hS1
      have hb1 := hb.grown hg1 hB hsB
      obtain ⟨b, off, rfl, hbB, -⟩ := hb1.opn (by omega)
      have hcell := by_new hb1 a1 f1
      rw [F2.out] at hcell
      have Hb1 := Lib.hid hb1
      clear hS1 hb1
      go_wp2_with fail
      go_quiet (fail)
      have hS2 : ScanIs (w1.drewN nq) s (.slice (some ⟨b, off, none⟩) n c) (n - (c0 :: r2).length) out := by rw [← Ha1.out]; exact HS1.out.drewN nq
      have hb2 : By (w1.drewN nq) B (some ⟨b, off, none⟩) n l := hb.grown (grown_drewN hg1 nq) hB hsB
      have ht := till_rest 264 #[] (enters_of Tryz.func264 (by kernel_rfl) rfl) pVal _ predVal s (some ⟨b, off, none⟩) n c B out l (c0 :: r2) (w1.drewN nq) hS2 hr1 hb2 hB hn (fun _ _ => trivial)
      rw [← HE.out] at ht
      have Ht := Lib.hid ht
      clear ht hS2 hb2
      go_wp2_with fail
      refine Ht.out.mono ?_
      clear Ht
      rintro e w2 ⟨rfl, hS3, hg3⟩
      have z1 := hS3.c1
      have HS3 := Lib.hid hS3
      clear hS3
      go_wp2_with fail
      go_quiet (fail)
      go_wp2_with fail
      go_ret2
      exact ⟨rfl, HS3.out.drewN _, grown_tr (grown_drewN hg1 _) (grown_drewN hg3 _)⟩
end Go.Proofs.YtlbdnohnngkapaaGreatDoor

namespace Go.Proofs.YtlbdnohnngkapaaGreatDoor
open Go.RowKit Go.Maps Go.WideMaps

theorem lawStr : Keyed Tryz.prog 9 := string_keyed Tryz.underlying9
theorem zeroBool (w : World) : (zeroValue 4).run Tryz.prog w = .ok (.bool false) w := by kernel_rfl
theorem plainElem_bool_inv {H : Type} {P : Program} {e : TypeId} (he : P.underlying e = some .bool) {v : Value} {z : DataW H × List MemPlace} (h : plainElem P e v = some z) : ∃ x, v = .bool x ∧ z = (.lit (.bool x), []) := by
  unfold plainElem at h
  rw [he] at h
  cases v <;> simp at h
  exact ⟨_, rfl, h.symm⟩
/-- A map of the call's own, in block b: which names have been there. -/
def SeenIs (w : World) (b : Nat) (seen : List (List UInt8)) : Prop :=
  ∃ (n : Nat) (D : DataW Unit), n ≤ seen.length ∧ w.ownsMap Tryz.prog 9 (plainElem Tryz.prog 4) b n D ∧ IsMap D ∧ ∀ k, D.atKey (.string k) (.lit (.bool false)) = .lit (.bool (seen.contains k))
theorem SeenIs.made (w : World) : SeenIs (w.alloc (.map #[] 0)) w.heap.size [] :=
  ⟨0, .map [], Nat.le_refl _, World.ownsMap_made w _ _ _, isMap_empty, fun _k => rfl⟩
section
variable {w w' : World} {b : Nat} {seen : List (List UInt8)}
theorem SeenIs.lt (h : SeenIs w b seen) : b < w.heap.size := by obtain ⟨n, D, _, h, _⟩ := h; exact h.lt
theorem SeenIs.kept {row : Option Nat} (h : SeenIs w b seen) (hg : w.grownBy w' row) (hne : some b ≠ row) : SeenIs w' b seen := by
  obtain ⟨n, D, h1, h2, h3⟩ := h
  exact ⟨n, D, h1, h2.kept hg hne, h3⟩
theorem SeenIs.below (h : SeenIs w b seen) (hb : Below w.heap.size w w') : SeenIs w' b seen :=
  h.kept (row := none) ⟨hb.os, hb.tape, hb.output, hb.size, fun k hk _ => hb.block k hk⟩ (by simp)
theorem SeenIs.drewN (h : SeenIs w b seen) (n : Nat) : SeenIs (w.drewN n) b seen := h
theorem SeenIs.look (h : SeenIs w b seen) (k : List UInt8) (hk : k.length ≤ maxLen) : (Instr.lookup 201 (.map (some b)) (str k) false).run Tryz.prog w = .ok (.bool (seen.contains k)) w := by
  obtain ⟨n, D, h1, h2, h3, h4⟩ := h
  obtain ⟨v, ps, hrun, hv⟩ := h2.lookup lawStr Tryz.underlying201 (zeroBool w) (plainElem_bool Tryz.underlying4 false) (keyOf_string_mk Tryz.underlying9 (s := ⟨k.toArray⟩) (by simpa [ByteArray.size] using hk))
  obtain ⟨x, rfl, hx⟩ := plainElem_bool_inv Tryz.underlying4 hv
  simp only [Prod.mk.injEq] at hx
  have := h4 k
  rw [this] at hx
  have e : seen.contains k = x := Lit.bool.inj (DataW.lit.inj hx.1)
  rw [e]
  exact hrun
theorem SeenIs.put (h : SeenIs w b seen) (k : List UInt8) (hk : k.length ≤ maxLen) (hs : seen.length < maxLen) :
    ∃ w', (Instr.mapUpdate 201 (.map (some b)) (str k) (.bool true)).run Tryz.prog w = .ok () w' ∧ SeenIs w' b (k :: seen) ∧ w.grownBy w' (some b) := by
  obtain ⟨n, D, h1, h2, h3, h4⟩ := h
  obtain ⟨w', hrun, hown, hg⟩ := h2.update lawStr Tryz.underlying201 (by omega) (keyOf_string_mk Tryz.underlying9 (s := ⟨k.toArray⟩) (by simpa [ByteArray.size] using hk)) (plainElem_bool Tryz.underlying4 true)
  refine ⟨w', hrun, ⟨n + 1, _, by simpa using h1, hown, h3.put _ _, fun k' => ?_⟩, hg⟩
  by_cases e : k' = k
  · subst e
    rw [show (⟨k'.toArray⟩ : ByteArray).data.toList = k' from rfl, atKey_put_same h3 (by trivial), List.contains_cons, beq_self_eq_true, Bool.true_or]
  · rw [show (⟨k.toArray⟩ : ByteArray).data.toList = k from rfl, atKey_put_other (by intro e2; injection e2 with e2; exact e e2), h4]
    have e2 : (k' == k) = false := by simpa using e
    rw [List.contains_cons, e2, Bool.false_or]
end
end Go.Proofs.YtlbdnohnngkapaaGreatDoor

namespace Go.Proofs.YtlbdnohnngkapaaGreatDoor

/-! ### A page in pieces: raw text, then values, raw text behind each -/
abbrev Pcs := List UInt8 × List (List UInt8 × List UInt8)
def weaveL : List (List UInt8 × List UInt8) → List (List UInt8) → List UInt8
  | x :: l, t :: ts => t ++ (x.2 ++ weaveL l ts)
  | _, _ => []
def weave (P : Pcs) (ts : List (List UInt8)) : List UInt8 := P.1 ++ weaveL P.2 ts
def prep (x : List UInt8) (P : Pcs) : Pcs := (x ++ P.1, P.2)
def vals (P : Pcs) : List (List UInt8) := P.2.map (·.1)
def substL : List (List UInt8 × List UInt8) → List (List UInt8) → List (List UInt8 × List UInt8)
  | x :: l, t :: ts => (t, x.2) :: substL l ts
  | _, _ => []
def subst (P : Pcs) (ts : List (List UInt8)) : Pcs := (P.1, substL P.2 ts)
/-- What may stand in the place of a value. -/
def goodT (t : List UInt8) : Prop := t ≠ [] ∧ ∀ b ∈ t, isSp b.toNat = false ∧ b ≠ 62 ∧ b ≠ 34 ∧ b ≠ 39
def okT (v t : List UInt8) : Prop := t = v ∨ goodT t
inductive OkTs : List (List UInt8 × List UInt8) → List (List UInt8) → Prop
  | nil : OkTs [] []
  | cons {x : List UInt8 × List UInt8} {l : List (List UInt8 × List UInt8)} {t : List UInt8} {ts : List (List UInt8)} : okT x.1 t → OkTs l ts → OkTs (x :: l) (t :: ts)
theorem OkTs.same : ∀ (l : List (List UInt8 × List UInt8)), OkTs l (l.map (·.1))
  | [] => .nil
  | _ :: l => .cons (.inl rfl) (OkTs.same l)
theorem OkTs.len {l : List (List UInt8 × List UInt8)} {ts : List (List UInt8)} (h : OkTs l ts) : ts.length = l.length := by
  induction h with
  | nil => rfl
  | cons _ _ ih => simp [ih]

/-- A value: raw text ahead, the value, raw text behind it, what is left. -/
def valP (r : List UInt8) : List UInt8 × List UInt8 × List UInt8 × List UInt8 :=
  match stopD pNotSp r with
  | [] => (r, [], [], [])
  | c :: r2 => if c = 34 ∨ c = 39 then (stopT pNotSp r ++ [c], stopT (pIs c.toNat) r2, (stopD (pIs c.toNat) r2).take 1, (stopD (pIs c.toNat) r2).drop 1) else (stopT pNotSp r, stopT pVal (c :: r2), [], stopD pVal (c :: r2))
def attrsP : Nat → List UInt8 → List (List UInt8) → Option (Pcs × List UInt8)
  | 0, _, _ => none
  | f + 1, r, seen =>
    match stopD pAttr r with
    | [] => none
    | c :: r2 =>
      if c = 62 then some ((stopT pAttr r ++ [62], []), r2)
      else if (stopD pNotSp (stopD pEq r2)).head? = some 61 then
        (attrsP f (valP (stopD pNotSp (stopD pEq r2)).tail).2.2.2 (lowL (c :: stopT pEq r2) :: seen)).map fun q =>
          (if leadsB (lowL (c :: stopT pEq r2)) && !seen.contains (lowL (c :: stopT pEq r2)) then
            (stopT pAttr r ++ (c :: stopT pEq r2) ++ stopT pNotSp (stopD pEq r2) ++ [61] ++ (valP (stopD pNotSp (stopD pEq r2)).tail).1,
              ((valP (stopD pNotSp (stopD pEq r2)).tail).2.1, (valP (stopD pNotSp (stopD pEq r2)).tail).2.2.1 ++ q.1.1) :: q.1.2)
          else prep (stopT pAttr r ++ (c :: stopT pEq r2) ++ stopT pNotSp (stopD pEq r2) ++ [61] ++ (valP (stopD pNotSp (stopD pEq r2)).tail).1 ++ (valP (stopD pNotSp (stopD pEq r2)).tail).2.1 ++ (valP (stopD pNotSp (stopD pEq r2)).tail).2.2.1) q.1, q.2)
      else (attrsP f (stopD pEq r2) (lowL (c :: stopT pEq r2) :: seen)).map fun q => (prep (stopT pAttr r ++ (c :: stopT pEq r2)) q.1, q.2)

theorem valP_app (r : List UInt8) : r = (valP r).1 ++ (valP r).2.1 ++ (valP r).2.2.1 ++ (valP r).2.2.2 := by
  unfold valP
  have h0 := stop_app pNotSp r
  split
  · simp
  · rename_i c r2 hc
    rw [hc] at h0
    split
    · have h1 := stop_app (pIs c.toNat) r2
      simp only [List.append_assoc, List.take_append_drop, List.cons_append, List.nil_append]
      rw [h1, h0]
    · have h1 := stop_app pVal (c :: r2)
      simp only [List.append_nil, List.append_assoc]
      rw [h1, h0]
theorem valP_nil {r : List UInt8} (h : stopD pNotSp r = []) : valP r = (r, [], [], []) := by unfold valP; rw [h]
theorem valP_cons {r : List UInt8} {c : UInt8} {r2 : List UInt8} (h : stopD pNotSp r = c :: r2) : valP r = if c = 34 ∨ c = 39 then (stopT pNotSp r ++ [c], stopT (pIs c.toNat) r2, (stopD (pIs c.toNat) r2).take 1, (stopD (pIs c.toNat) r2).drop 1) else (stopT pNotSp r, stopT pVal (c :: r2), [], stopD pVal (c :: r2)) := by
  show (match stopD pNotSp r with | [] => _ | c :: r2 => _) = _
  rw [h]
theorem isSp_not_eq : pNotSp 61 = true := by decide
/-- What a value's reading leans on: the new value in its place, behind it what begins alike. -/
theorem valP_new (r : List UInt8) (t W : List UInt8) (a0 : UInt8) (y W' : List UInt8) (hr : (valP r).2.2.2 = a0 :: y) (hW : W = a0 :: W') (ht : okT (valP r).2.1 t) :
    valP ((valP r).1 ++ (t ++ ((valP r).2.2.1 ++ W))) = ((valP r).1, t, (valP r).2.2.1, W) := by
  have hn := stopT_not pNotSp r
  rcases hc : stopD pNotSp r with _ | ⟨c, r2⟩
  · rw [valP_nil hc] at hr; cases hr
  · have hcs := stopD_head pNotSp r c r2 hc
    rw [valP_cons hc] at hr ht ⊢
    by_cases hq : c = 34 ∨ c = 39
    · simp only [if_pos hq] at hr ht ⊢
      have hS : ∃ y', stopD (pIs c.toNat) r2 = c :: y' := by
        cases hd : stopD (pIs c.toNat) r2 with
        | nil => rw [hd] at hr; cases hr
        | cons d y' =>
          have := stopD_head _ _ _ _ hd
          simp only [pIs, beq_iff_eq] at this
          exact ⟨y', by rw [show d = c from UInt8.toNat_inj.1 this]⟩
      obtain ⟨y', hS⟩ := hS
      have htn : ∀ b ∈ t, pIs c.toNat b.toNat = false := by
        intro b hb
        rcases ht with rfl | ht
        · exact stopT_not _ _ b hb
        · have := (ht.2 b hb).2.2
          simp only [pIs, beq_eq_false_iff_ne, ne_eq]
          intro e
          have e := UInt8.toNat_inj.1 e
          subst e
          rcases hq with rfl | rfl
          · exact this.1 rfl
          · exact this.2 rfl
      have e1 := stopD_pre pNotSp (stopT pNotSp r) (c :: (t ++ ((stopD (pIs c.toNat) r2).take 1 ++ W))) hn
      have e2 := stopD_at pNotSp c (t ++ ((stopD (pIs c.toNat) r2).take 1 ++ W)) hcs
      rw [e2.1, e2.2] at e1
      simp only [List.append_assoc, List.cons_append, List.nil_append, List.append_nil] at e1 ⊢
      rw [valP_cons e1.1, e1.2]
      simp only [if_pos hq]
      rw [hS]
      simp only [List.take_succ_cons, List.take_zero, List.cons_append, List.nil_append]
      have e3 := stopD_pre (pIs c.toNat) t (c :: W) htn
      have e4 := stopD_at (pIs c.toNat) c W (by simp [pIs])
      rw [e4.1, e4.2] at e3
      rw [e3.1, e3.2]
      simp
    · simp only [if_neg hq] at hr ht ⊢
      have ha0 := stopD_head _ _ _ _ hr
      have hhead : ∃ d x, t ++ W = d :: x ∧ pNotSp d.toNat = true ∧ ¬ (d = 34 ∨ d = 39) := by
        rcases ht with rfl | ht
        · rcases hv : stopT pVal (c :: r2) with _ | ⟨d, v'⟩
          · have := stop_app pVal (c :: r2)
            rw [hv, hr] at this
            simp only [List.nil_append, List.cons.injEq] at this
            obtain ⟨rfl, _⟩ := this
            exact ⟨a0, W', by rw [hW]; rfl, hcs, hq⟩
          · have := stop_app pVal (c :: r2)
            rw [hv] at this
            simp only [List.cons_append, List.cons.injEq] at this
            obtain ⟨rfl, _⟩ := this
            exact ⟨d, v' ++ W, rfl, hcs, hq⟩
        · cases t with
          | nil => exact absurd rfl ht.1
          | cons d t' =>
            have := ht.2 d (by simp)
            refine ⟨d, t' ++ W, rfl, by simp [pNotSp, this.1], ?_⟩
            rintro (h | h)
            · exact this.2.2.1 h
            · exact this.2.2.2 h
      have htn : ∀ b ∈ t, pVal b.toNat = false := by
        intro b hb
        rcases ht with rfl | ht
        · exact stopT_not _ _ b hb
        · have := ht.2 b hb
          simp only [pVal, this.1, Bool.false_or, beq_eq_false_iff_ne, ne_eq]
          intro e
          exact this.2.1 (UInt8.toNat_inj.1 e)
      obtain ⟨d, x, hd, hd1, hd2⟩ := hhead
      simp only [List.nil_append]
      rw [hd]
      have e1 := stopD_pre pNotSp (stopT pNotSp r) (d :: x) hn
      have e2 := stopD_at pNotSp d x hd1
      rw [e2.1, e2.2] at e1
      rw [List.append_nil] at e1
      rw [valP_cons e1.1, e1.2]
      simp only [if_neg hd2]
      rw [← hd]
      have e3 := stopD_pre pVal t W htn
      have e4 := stopD_at pVal a0 W' ha0
      rw [hW] at e3 ⊢
      rw [e4.1, e4.2] at e3
      rw [e3.1, e3.2]
      simp

/-- What begins alike. -/
theorem weave_head {P : Pcs} {a : UInt8} {p : List UInt8} (h : P.1 = a :: p) (ts : List (List UInt8)) (z : List UInt8) : weave P ts ++ z = a :: (p ++ weaveL P.2 ts ++ z) := by
  simp [weave, h]
theorem weave_prep (x : List UInt8) (P : Pcs) (ts : List (List UInt8)) : weave (prep x P) ts = x ++ weave P ts := by simp [weave, prep]
theorem vals_prep (x : List UInt8) (P : Pcs) : vals (prep x P) = vals P := rfl
theorem subst_prep (x : List UInt8) (P : Pcs) (ts : List (List UInt8)) : subst (prep x P) ts = prep x (subst P ts) := rfl

/-- The parts of a tag are what it is made of; it begins with what is no blank alone; where a link is, three bytes stand ahead. -/
theorem attrsP_app : ∀ (f : Nat) (r : List UInt8) (seen : List (List UInt8)) (P : Pcs) (r' : List UInt8), attrsP f r seen = some (P, r') →
    r = weave P (vals P) ++ r' ∧ stopD pNotSp P.1 ≠ [] ∧ (P.2 ≠ [] → 3 ≤ P.1.length) := by
  intro f
  induction f with
  | zero => intro r seen P r' h; cases h
  | succ f ih =>
    intro r seen P r' h
    unfold attrsP at h
    have h0 := stop_app pAttr r
    have hnon : ∀ (x y : List UInt8) (c : UInt8), pAttr c.toNat = true → stopD pNotSp (x ++ c :: y) ≠ [] := by
      intro x y c hc e
      have h1 : pNotSp c.toNat = true := by
        simp only [pNotSp, pAttr, Bool.and_eq_true] at hc ⊢
        exact hc.1
      have h2 := stop_app pNotSp (x ++ c :: y)
      rw [e, List.append_nil] at h2
      have h3 := stopT_not pNotSp (x ++ c :: y) c (by rw [h2]; simp)
      rw [h1] at h3
      cases h3
    split at h
    · cases h
    · rename_i c r2 hc
      rw [hc] at h0
      have hcA := stopD_head pAttr r c r2 hc
      have h1 := stop_app pEq r2
      split at h
      · rename_i h62
        injection h with h
        injection h with h2 h3
        subst h2 h3 h62
        refine ⟨h0.symm.trans (by simp [weave, weaveL]), hnon _ _ _ hcA, fun h => absurd rfl h⟩
      · split at h
        · rename_i h61
          obtain ⟨q, hq, h⟩ := Option.map_eq_some_iff.1 h
          obtain ⟨Q, z⟩ := q
          injection h with h2 h3
          obtain ⟨ih1, ih2, ih3⟩ := ih _ _ Q z hq
          simp only at h2 h3
          subst h3
          have h4 := stop_app pNotSp (stopD pEq r2)
          have h5 : stopD pNotSp (stopD pEq r2) = 61 :: (stopD pNotSp (stopD pEq r2)).tail := by
            cases hd : stopD pNotSp (stopD pEq r2) with
            | nil => rw [hd] at h61; cases h61
            | cons d x => rw [hd] at h61; simp at h61; rw [h61]; rfl
          rw [h5] at h4
          have h6 := valP_app (stopD pNotSp (stopD pEq r2)).tail
          rw [ih1] at h6
          have hwhole : r = stopT pAttr r ++ (c :: stopT pEq r2) ++ stopT pNotSp (stopD pEq r2) ++ [61] ++ (valP (stopD pNotSp (stopD pEq r2)).tail).1 ++ (valP (stopD pNotSp (stopD pEq r2)).tail).2.1 ++ (valP (stopD pNotSp (stopD pEq r2)).tail).2.2.1 ++ (weave Q (vals Q) ++ z) := by
            simp only [List.append_assoc, List.cons_append, List.nil_append] at h6 ⊢
            rw [← h6, h4, h1, h0]
          split at h2
          · rename_i hl
            subst h2
            refine ⟨?_, ?_, fun _ => ?_⟩
            · refine hwhole.trans ?_
              simp [weave, weaveL, vals, List.append_assoc]
            · simp only [List.append_assoc, List.cons_append]
              exact hnon _ _ _ hcA
            · simp only [Bool.and_eq_true] at hl
              have hn := hl.1
              have : 3 ≤ (lowL (c :: stopT pEq r2)).length := by
                unfold leadsB at hn
                simp only [Bool.or_eq_true, beq_iff_eq] at hn
                rcases hn with e | e <;> rw [e] <;> decide
              unfold lowL at this
              rw [List.length_map] at this
              simp only [List.length_append, List.length_cons] at this ⊢
              omega
          · subst h2
            refine ⟨?_, ?_, fun h => ?_⟩
            · refine hwhole.trans ?_
              rw [weave_prep, vals_prep]
              simp only [List.append_assoc]
            · unfold prep
              simp only [List.append_assoc, List.cons_append]
              exact hnon _ _ _ hcA
            · have := ih3 h
              unfold prep
              simp only [List.length_append]
              omega
        · obtain ⟨q, hq, h⟩ := Option.map_eq_some_iff.1 h
          obtain ⟨Q, z⟩ := q
          injection h with h2 h3
          obtain ⟨ih1, ih2, ih3⟩ := ih _ _ Q z hq
          simp only at h2 h3
          subst h2 h3
          refine ⟨?_, ?_, fun h => ?_⟩
          · rw [weave_prep, vals_prep, List.append_assoc, ← ih1, List.append_assoc, List.cons_append, h1, h0]
          · unfold prep
            simp only [List.append_assoc, List.cons_append]
            exact hnon _ _ _ hcA
          · have := ih3 h
            unfold prep
            simp only [List.length_append]
            omega
theorem nonnil_of_stop {p : Nat → Bool} {l : List UInt8} (h : stopD p l ≠ []) : ∃ a x, l = a :: x := by
  cases l with
  | nil => exact absurd rfl h
  | cons a x => exact ⟨a, x, rfl⟩
theorem stopD_mid (p : Nat → Bool) : ∀ (x y : List UInt8), stopD p x ≠ [] → stopD p (x ++ y) = stopD p x ++ y ∧ stopT p (x ++ y) = stopT p x
  | [], _, h => absurd rfl h
  | a :: x, y, h => by
    unfold stopD at h
    unfold stopD stopT
    rw [List.cons_append, List.dropWhile_cons, List.takeWhile_cons, List.dropWhile_cons, List.takeWhile_cons]
    rw [List.dropWhile_cons] at h
    split
    · rename_i hp
      rw [if_pos hp] at h
      have := stopD_mid p x y h
      unfold stopD stopT at this
      rw [this.1, this.2]
      exact ⟨rfl, rfl⟩
    · exact ⟨rfl, rfl⟩

/-- A tag with other values is read as it was, with these. -/
theorem attrsP_new : ∀ (f : Nat) (r : List UInt8) (seen : List (List UInt8)) (P : Pcs) (r' : List UInt8), attrsP f r seen = some (P, r') →
    ∀ ts, OkTs P.2 ts → ∀ z, attrsP f (weave P ts ++ z) seen = some (subst P ts, z) := by
  intro f
  induction f with
  | zero => intro r seen P r' h; cases h
  | succ f ih =>
    intro r seen P r' h ts hts z
    unfold attrsP at h
    have hxn := stopT_not pAttr r
    split at h
    · cases h
    · rename_i c r2 hc
      have hcA := stopD_head pAttr r c r2 hc
      have hnn := stopT_not pEq r2
      have pre := fun (y : List UInt8) => stopD_pre pAttr (stopT pAttr r) (c :: y) hxn
      have at0 := fun (y : List UInt8) => stopD_at pAttr c y hcA
      split at h
      · rename_i h62
        injection h with h
        injection h with h2 h3
        subst h2 h3 h62
        cases hts
        have e := pre z
        rw [(at0 z).1, (at0 z).2] at e
        unfold attrsP
        simp only [weave, weaveL, List.append_nil, List.append_assoc, List.cons_append, List.nil_append]
        simp only [List.append_nil] at e
        rw [e.1, e.2]
        rfl
      · rename_i h62
        split at h
        · rename_i h61
          obtain ⟨q, hq, h⟩ := Option.map_eq_some_iff.1 h
          obtain ⟨Q, z0⟩ := q
          injection h with h2 h3
          simp only at h2 h3
          subst h3
          obtain ⟨ia, ib, ic⟩ := attrsP_app _ _ _ Q z0 hq
          obtain ⟨a0, q0, hq0⟩ := nonnil_of_stop ib
          have hr0 : (valP (stopD pNotSp (stopD pEq r2)).tail).2.2.2 = a0 :: (q0 ++ weaveL Q.2 (vals Q) ++ z0) := by rw [ia]; exact weave_head hq0 _ _
          have hbl : ∀ b ∈ stopT pNotSp (stopD pEq r2), pNotSp b.toNat = false := stopT_not _ _
          have h1 := stop_app pNotSp (stopD pEq r2)
          have h5 : stopD pNotSp (stopD pEq r2) = 61 :: (stopD pNotSp (stopD pEq r2)).tail := by
            cases hd : stopD pNotSp (stopD pEq r2) with
            | nil => rw [hd] at h61; cases h61
            | cons d x => rw [hd] at h61; simp at h61; rw [h61]; rfl
          rw [h5] at h1
          generalize hV : (stopD pNotSp (stopD pEq r2)).tail = V at *
          generalize hB : stopT pNotSp (stopD pEq r2) = Bk at *
          generalize hN : stopT pEq r2 = nm at *
          generalize hX : stopT pAttr r = X at *
          -- the head of what stands behind the name
          have hstop : ∀ y, stopD pEq (Bk ++ 61 :: y) = Bk ++ 61 :: y ∧ stopT pEq (Bk ++ 61 :: y) = [] := by
            intro y
            cases Bk with
            | nil => exact stopD_at pEq 61 y (by decide)
            | cons d bk =>
              rw [List.cons_append] at h1
              have := stopD_head pEq r2 d _ h1.symm
              exact stopD_at pEq d _ this
          have hname : ∀ y, stopD pEq (nm ++ (Bk ++ 61 :: y)) = Bk ++ 61 :: y ∧ stopT pEq (nm ++ (Bk ++ 61 :: y)) = nm := by
            intro y
            have e := stopD_pre pEq nm (Bk ++ 61 :: y) hnn
            rw [(hstop y).1, (hstop y).2, List.append_nil] at e
            exact e
          have hblank : ∀ y, stopD pNotSp (Bk ++ 61 :: y) = 61 :: y ∧ stopT pNotSp (Bk ++ 61 :: y) = Bk := by
            intro y
            have e := stopD_pre pNotSp Bk (61 :: y) hbl
            have e2 := stopD_at pNotSp 61 y (by decide)
            rw [e2.1, e2.2, List.append_nil] at e
            exact e
          have hall : ∀ (t y : List UInt8), okT (valP V).2.1 t → ∀ ts', OkTs Q.2 ts' →
              attrsP (f + 1) (X ++ (c :: nm) ++ Bk ++ [61] ++ (valP V).1 ++ (t ++ ((valP V).2.2.1 ++ (weave Q ts' ++ y)))) seen =
                some (if leadsB (lowL (c :: nm)) && !seen.contains (lowL (c :: nm)) then (X ++ (c :: nm) ++ Bk ++ [61] ++ (valP V).1, (t, (valP V).2.2.1 ++ Q.1) :: (subst Q ts').2) else prep (X ++ (c :: nm) ++ Bk ++ [61] ++ (valP V).1 ++ t ++ (valP V).2.2.1) (subst Q ts'), y) := by
            intro t y ht ts' hts'
            have hv := valP_new V t (weave Q ts' ++ y) a0 _ _ hr0 (weave_head hq0 ts' y) ht
            generalize hWW : (valP V).1 ++ (t ++ ((valP V).2.2.1 ++ (weave Q ts' ++ y))) = WW at *
            have etext : X ++ (c :: nm) ++ Bk ++ [61] ++ (valP V).1 ++ (t ++ ((valP V).2.2.1 ++ (weave Q ts' ++ y))) = X ++ c :: (nm ++ (Bk ++ 61 :: WW)) := by
              rw [← hWW]; simp
            rw [etext]
            have e := pre (nm ++ (Bk ++ 61 :: WW))
            rw [(at0 _).1, (at0 _).2, List.append_nil] at e
            unfold attrsP
            rw [e.1]
            simp only [if_neg h62, e.2, (hname WW).1, (hname WW).2, (hblank WW).1, (hblank WW).2, List.head?_cons, if_true, List.tail_cons, hv]
            have hq' := ih _ _ Q z0 hq ts' hts' y
            rw [hq']
            simp [subst]
          split at h2
          · rename_i hl
            subst h2
            cases hts with
            | cons ht hts' =>
              rename_i t ts'
              have := hall t z ht ts' hts'
              rw [if_pos hl] at this
              simp only [weave, weaveL, subst, substL, List.append_assoc] at this ⊢
              exact this
          · rename_i hl
            subst h2
            have := hall _ z (.inl rfl) ts hts
            rw [if_neg hl] at this
            rw [weave_prep, subst_prep]
            simp only [List.append_assoc] at this ⊢
            exact this
        · rename_i h61
          obtain ⟨q, hq, h⟩ := Option.map_eq_some_iff.1 h
          obtain ⟨Q, z0⟩ := q
          injection h with h2 h3
          simp only at h2 h3
          subst h2 h3
          obtain ⟨ia, ib, ic⟩ := attrsP_app _ _ _ Q z0 hq
          obtain ⟨a0, q0, hq0⟩ := nonnil_of_stop ib
          have hts' : OkTs Q.2 ts := hts
          have hW := weave_head hq0 ts z
          have hold : stopD pEq r2 = a0 :: (q0 ++ weaveL Q.2 (vals Q) ++ z0) := by rw [ia]; exact weave_head hq0 _ _
          have ha0 := stopD_head pEq r2 a0 _ hold
          have hname : stopD pEq (stopT pEq r2 ++ (weave Q ts ++ z)) = weave Q ts ++ z ∧ stopT pEq (stopT pEq r2 ++ (weave Q ts ++ z)) = stopT pEq r2 := by
            have e := stopD_pre pEq (stopT pEq r2) (weave Q ts ++ z) hnn
            have e2 := stopD_at pEq a0 (q0 ++ weaveL Q.2 ts ++ z) ha0
            rw [← hW] at e2
            rw [e2.1, e2.2, List.append_nil] at e
            exact e
          have h61' : ¬ (stopD pNotSp (weave Q ts ++ z)).head? = some 61 := by
            rw [ia] at h61
            unfold weave at h61 ⊢
            rw [List.append_assoc, (stopD_mid pNotSp Q.1 _ ib).1] at h61 ⊢
            cases hd : stopD pNotSp Q.1 with
            | nil => exact absurd hd ib
            | cons d x => rw [hd] at h61; simpa using h61
          have e := pre (stopT pEq r2 ++ (weave Q ts ++ z))
          rw [(at0 _).1, (at0 _).2, List.append_nil] at e
          rw [weave_prep, subst_prep]
          have etext : stopT pAttr r ++ (c :: stopT pEq r2) ++ weave Q ts ++ z = stopT pAttr r ++ c :: (stopT pEq r2 ++ (weave Q ts ++ z)) := by simp
          rw [etext]
          unfold attrsP
          rw [e.1]
          simp only [if_neg h62, e.2, hname.1, hname.2, if_neg h61']
          rw [ih _ _ Q z0 hq ts hts' z]
          rfl
end Go.Proofs.YtlbdnohnngkapaaGreatDoor

namespace Go.Proofs.YtlbdnohnngkapaaGreatDoor

/-- Enough rounds are as good as more. -/
theorem stopD_drop1 (p : Nat → Bool) (l : List UInt8) : ((stopD p l).drop 1).length ≤ l.length := by
  have := stopD_len p l; simp; omega
theorem valP_len (r : List UInt8) : (valP r).2.2.2.length ≤ r.length := by
  have := congrArg List.length (valP_app r)
  simp only [List.length_append] at this
  omega
theorem attrsP_some : ∀ (f : Nat) (r : List UInt8) (seen : List (List UInt8)) (x : Pcs × List UInt8), attrsP f r seen = some x → ∀ f', r.length < f' → attrsP f' r seen = some x := by
  intro f
  induction f with
  | zero => intro r seen x h; cases h
  | succ f ih =>
    intro r seen x h f' hf
    obtain ⟨g, rfl⟩ : ∃ g, f' = g + 1 := ⟨f' - 1, by omega⟩
    unfold attrsP at h ⊢
    have hl := stopD_len pAttr r
    rcases hc : stopD pAttr r with _ | ⟨c, r2⟩
    · rw [hc] at h; cases h
    · rw [hc] at h hl
      simp only at h ⊢
      simp only [List.length_cons] at hl
      have h1 := stopD_len pEq r2
      split at h
      · rename_i h62; rw [if_pos h62]; exact h
      · rename_i h62
        rw [if_neg h62]
        split at h
        · rename_i h61
          rw [if_pos h61]
          obtain ⟨q, hq, h⟩ := Option.map_eq_some_iff.1 h
          have h2 := stopD_len pNotSp (stopD pEq r2)
          have h3 := valP_len (stopD pNotSp (stopD pEq r2)).tail
          rw [List.length_tail] at h3
          rw [ih _ _ q hq g (by omega)]
          rw [← h]; rfl
        · rename_i h61
          rw [if_neg h61]
          obtain ⟨q, hq, h⟩ := Option.map_eq_some_iff.1 h
          rw [ih _ _ q hq g (by omega)]
          rw [← h]; rfl

/-! ### Pages in pieces -/
def catL : List UInt8 → List (List UInt8 × List UInt8) → Pcs → Pcs
  | p, [], Q => prep p Q
  | p, x :: l, Q => (p, (x.1, (catL x.2 l Q).1) :: (catL x.2 l Q).2)
def catP (P Q : Pcs) : Pcs := catL P.1 P.2 Q
def raw (x : List UInt8) : Pcs := (x, [])
theorem catP_raw (x : List UInt8) (Q : Pcs) : catP (raw x) Q = prep x Q := rfl
theorem catL_weave : ∀ (l : List (List UInt8 × List UInt8)) (p : List UInt8) (Q : Pcs) (ts us : List (List UInt8)), ts.length = l.length → weave (catL p l Q) (ts ++ us) = p ++ weaveL l ts ++ weave Q us
  | [], p, Q, [], us, _ => by simp [catL, weave, prep, weaveL]
  | [], _, _, t :: ts, _, h => by simp at h
  | x :: l, _, _, [], _, h => by simp at h
  | x :: l, p, Q, t :: ts, us, h => by
    have := catL_weave l x.2 Q ts us (by simpa using h)
    simp only [catL, List.cons_append]
    unfold weave at this ⊢
    simp only [weaveL, List.append_assoc] at this ⊢
    rw [this]
theorem catP_weave (P Q : Pcs) (ts us : List (List UInt8)) (h : ts.length = P.2.length) : weave (catP P Q) (ts ++ us) = weave P ts ++ weave Q us := catL_weave P.2 P.1 Q ts us h
theorem catL_subst : ∀ (l : List (List UInt8 × List UInt8)) (p : List UInt8) (Q : Pcs) (ts us : List (List UInt8)), ts.length = l.length → subst (catL p l Q) (ts ++ us) = catL p (substL l ts) (subst Q us)
  | [], p, Q, [], us, _ => rfl
  | [], _, _, t :: ts, _, h => by simp at h
  | x :: l, _, _, [], _, h => by simp at h
  | x :: l, p, Q, t :: ts, us, h => by
    have := catL_subst l x.2 Q ts us (by simpa using h)
    unfold subst at this ⊢
    simp only [catL, List.cons_append, substL]
    rw [← this]
theorem catP_subst (P Q : Pcs) (ts us : List (List UInt8)) (h : ts.length = P.2.length) : subst (catP P Q) (ts ++ us) = catP (subst P ts) (subst Q us) := catL_subst P.2 P.1 Q ts us h
theorem catL_2 : ∀ (l : List (List UInt8 × List UInt8)) (p : List UInt8) (Q : Pcs), (catL p l Q).2.map (·.1) = l.map (·.1) ++ Q.2.map (·.1)
  | [], _, _ => rfl
  | x :: l, _, Q => by simp [catL, catL_2 l x.2 Q]
theorem catP_vals (P Q : Pcs) : vals (catP P Q) = vals P ++ vals Q := catL_2 P.2 P.1 Q
theorem OkTs.split : ∀ (l : List (List UInt8 × List UInt8)) (p : List UInt8) (Q : Pcs) (ts : List (List UInt8)), OkTs (catL p l Q).2 ts → ∃ t1 t2, ts = t1 ++ t2 ∧ OkTs l t1 ∧ OkTs Q.2 t2
  | [], _, _, ts, h => ⟨[], ts, rfl, .nil, h⟩
  | x :: l, _, Q, _, h => by
    cases h with
    | cons ht h =>
      rename_i t ts
      obtain ⟨t1, t2, rfl, h1, h2⟩ := OkTs.split l x.2 Q ts h
      exact ⟨t :: t1, t2, rfl, .cons ht h1, h2⟩
theorem catL_first (p : List UInt8) (l : List (List UInt8 × List UInt8)) (Q : Pcs) : ∃ y, (catL p l Q).1 = p ++ y := by
  cases l with
  | nil => exact ⟨Q.1, rfl⟩
  | cons x l => exact ⟨[], by simp [catL]⟩

def tagP (r : List UInt8) (shut : Bool) : Pcs × List UInt8 :=
  match attrsP ((stopD pName r).length + 1) (stopD pName r) [] with
  | none => (raw r, [])
  | some (P, r') => if shut then (raw (stopT pName r ++ weave P (vals P)), r') else (prep (stopT pName r) P, r')
def pastP (t r : List UInt8) : List UInt8 := r.take (r.length - (pastL t r).length)
def stepP (r : List UInt8) : Pcs × List UInt8 :=
  if Lib.hasPrefix r [60, 33, 45, 45] then (raw (r.take 4 ++ pastP [45, 45, 62] (r.drop 4)), pastL [45, 45, 62] (r.drop 4))
  else if Lib.hasPrefix r [60, 33] || Lib.hasPrefix r [60, 63] then (raw (pastP [62] r), pastL [62] r)
  else if decide (1 < r.length) && isLet (nth r 1) then (prep (r.take 1) (tagP (r.drop 1) false).1, (tagP (r.drop 1) false).2)
  else if decide (2 < r.length) && nth r 1 == 47 && isLet (nth r 2) then (prep (r.take 2) (tagP (r.drop 2) true).1, (tagP (r.drop 2) true).2)
  else (raw (r.take 1), r.drop 1)
def findP : Nat → List UInt8 → Option Pcs
  | 0, r => if r = [] then some (raw []) else none
  | f + 1, r => if r = [] then some (raw []) else (findP f (stepP (stopD (pIs 60) r)).2).map fun Q => prep (stopT (pIs 60) r) (catP (stepP (stopD (pIs 60) r)).1 Q)

theorem pastL_suffix (t r : List UInt8) : pastL t r <:+ r := by
  unfold pastL
  split
  · exact List.nil_suffix
  · exact List.drop_suffix _ _
theorem pastP_app (t r : List UInt8) : pastP t r ++ pastL t r = r := by
  obtain ⟨x, hx⟩ := pastL_suffix t r
  unfold pastP
  have : r.length - (pastL t r).length = x.length := by have := congrArg List.length hx; simp at this; omega
  rw [this]
  conv => lhs; arg 1; rw [← hx]
  rw [List.take_left]
  exact hx
theorem tagP_app (r : List UInt8) (shut : Bool) : r = weave (tagP r shut).1 (vals (tagP r shut).1) ++ (tagP r shut).2 := by
  unfold tagP
  rcases h : attrsP ((stopD pName r).length + 1) (stopD pName r) [] with _ | ⟨P, r'⟩
  · simp [raw, weave, weaveL, vals]
  · obtain ⟨h1, _, _⟩ := attrsP_app _ _ _ P r' h
    have h0 := stop_app pName r
    simp only
    rcases shut with _ | _
    · show r = weave (prep _ P) (vals (prep _ P)) ++ r'
      rw [weave_prep, vals_prep, List.append_assoc, ← h1, h0]
    · show r = weave (raw _) (vals (raw _)) ++ r'
      simp only [raw, weave, weaveL, vals, List.map_nil, List.append_nil, List.append_assoc]
      have h1' : stopD pName r = P.1 ++ (weaveL P.2 (P.2.map (·.1)) ++ r') := by rw [h1]; simp [weave, vals]
      rw [← h1', h0]
theorem stepP_app (r : List UInt8) : r = weave (stepP r).1 (vals (stepP r).1) ++ (stepP r).2 := by
  unfold stepP
  split
  · simp only [raw, weave, weaveL, vals, List.map_nil, List.append_nil, List.append_assoc, pastP_app, List.take_append_drop]
  · split
    · simp only [raw, weave, weaveL, vals, List.map_nil, List.append_nil, pastP_app]
    · split
      · have := tagP_app (r.drop 1) false
        simp only [weave_prep, vals_prep, List.append_assoc]
        rw [← this, List.take_append_drop]
      · split
        · have := tagP_app (r.drop 2) true
          simp only [weave_prep, vals_prep, List.append_assoc]
          rw [← this, List.take_append_drop]
        · simp only [raw, weave, weaveL, vals, List.map_nil, List.append_nil, List.take_append_drop]
theorem findP_app : ∀ (f : Nat) (r : List UInt8) (P : Pcs), findP f r = some P → r = weave P (vals P) := by
  intro f
  induction f with
  | zero =>
    intro r P h
    unfold findP at h
    split at h
    · rename_i e; injection h with h; subst h e; rfl
    · cases h
  | succ f ih =>
    intro r P h
    unfold findP at h
    split at h
    · rename_i e; injection h with h; subst h e; rfl
    · obtain ⟨Q, hQ, rfl⟩ := Option.map_eq_some_iff.1 h
      have h1 := stepP_app (stopD (pIs 60) r)
      have h2 := ih _ Q hQ
      have h0 := stop_app (pIs 60) r
      rw [weave_prep, vals_prep, catP_vals, catP_weave _ _ _ _ (by simp [vals]), ← h2, ← h1, h0]
end Go.Proofs.YtlbdnohnngkapaaGreatDoor

namespace Go.Proofs.YtlbdnohnngkapaaGreatDoor

theorem prefix_take : ∀ (s l : List UInt8) (k : Nat), s.length ≤ k → s.isPrefixOf (l.take k) = s.isPrefixOf l
  | [], l, k, _ => rfl
  | a :: s, [], k, _ => by simp
  | a :: s, b :: l, k + 1, h => by
    simp only [List.take_succ_cons, List.isPrefixOf]
    rw [prefix_take s l k (by simpa using h)]
  | a :: s, b :: l, 0, h => by simp at h
theorem take4 {r s : List UInt8} (h : r.take 4 = s.take 4) : (∀ p : List UInt8, p.length ≤ 4 → Lib.hasPrefix r p = Lib.hasPrefix s p) ∧ (∀ j, j < 4 → nth r j = nth s j) ∧ (∀ j, j < 4 → decide (j < r.length) = decide (j < s.length)) := by
  refine ⟨fun p hp => ?_, fun j hj => ?_, fun j hj => ?_⟩
  · unfold Lib.hasPrefix
    rw [← prefix_take p r 4 hp, ← prefix_take p s 4 hp, h]
  · unfold nth
    have e : ∀ l : List UInt8, l.getD j 0 = (l.take 4).getD j 0 := by
      intro l
      simp [List.getD, hj]
    rw [e r, e s, h]
  · have e : ∀ l : List UInt8, decide (j < l.length) = decide (j < (l.take 4).length) := by
      intro l
      rw [List.length_take]
      congr 1
      exact propext (by omega)
    rw [e r, e s, h]

theorem index_keep (t r W : List UInt8) (k : Nat) (h : Lib.index r t = k) (ht : t ≠ []) : Lib.index (r.take (k + t.length) ++ W) t = k ∧ k + t.length ≤ r.length := by
  have hocc : Lib.occAt r t k = true ∧ (∀ j, j < k → Lib.occAt r t j = false) ∧ k + t.length ≤ r.length := by
    have hk := Lib.index_le r t
    rw [h] at hk
    by_cases ho : ∃ j, j ≤ r.length ∧ Lib.occAt r t j = true
    · obtain ⟨j0, hj0, ho0⟩ := ho
      -- the first one
      have hfirst : ∃ j, j ≤ r.length ∧ Lib.occAt r t j = true ∧ ∀ i, i < j → Lib.occAt r t i = false := by
        induction j0 using Nat.strongRecOn with
        | _ j0 ih =>
          by_cases he : ∃ i, i < j0 ∧ Lib.occAt r t i = true
          · obtain ⟨i, hi, hoi⟩ := he
            exact ih i hi (by omega) hoi
          · refine ⟨j0, hj0, ho0, fun i hi => ?_⟩
            cases hb : Lib.occAt r t i with
            | false => rfl
            | true => exact absurd ⟨i, hi, hb⟩ he
      obtain ⟨j, hj, hoj, hno⟩ := hfirst
      have := Lib.index_first hj hoj hno
      rw [h] at this
      have hjk : j = k := by omega
      subst hjk
      refine ⟨hoj, hno, ?_⟩
      rcases Lib.occAt_room hoj with h' | h'
      · exact h'
      · exact absurd h' ht
    · have := Lib.index_none (s := r) (sub := t) (fun j hj => by
        cases hb : Lib.occAt r t j with
        | false => rfl
        | true => exact absurd ⟨j, hj, hb⟩ ho)
      rw [h] at this
      omega
  obtain ⟨h1, h2, h3⟩ := hocc
  refine ⟨?_, h3⟩
  have e : ∀ j, j ≤ k → Lib.occAt (r.take (k + t.length) ++ W) t j = Lib.occAt r t j := by
    intro j hj
    rw [Lib.occAt_iff_take r t j (by omega), Lib.occAt_iff_take _ t j (by simp; omega)]
    congr 1
    rw [List.drop_append_of_le_length (by simp; omega), List.take_append_of_le_length (by simp; omega), List.drop_take, List.take_take, Nat.min_eq_left (by omega)]
  exact Lib.index_first (by simp; omega) (by rw [e k (Nat.le_refl _)]; exact h1) (fun j hj => by rw [e j (by omega)]; exact h2 j hj)

theorem past_new (t r W : List UInt8) (ht : t ≠ []) (hW : Lib.index r t < 0 → W = []) : pastL t (pastP t r ++ W) = W ∧ pastP t (pastP t r ++ W) = pastP t r := by
  have h1 : pastL t (pastP t r ++ W) = W := by
    by_cases h0 : Lib.index r t < 0
    · rw [hW h0, List.append_nil]
      have : pastL t r = [] := by unfold pastL; rw [if_pos h0]
      have h2 := pastP_app t r
      rw [this, List.append_nil] at h2
      rw [h2, this]
    · obtain ⟨k, hk⟩ := Int.eq_ofNat_of_zero_le (show 0 ≤ Lib.index r t by omega)
      obtain ⟨h2, h3⟩ := index_keep t r W k hk ht
      have hp : pastP t r = r.take (k + t.length) := by
        unfold pastP pastL
        rw [if_neg h0, hk, Int.toNat_natCast, List.length_drop]
        congr 1
        omega
      rw [hp]
      unfold pastL
      rw [h2, if_neg (by omega), Int.toNat_natCast, List.drop_append, List.drop_of_length_le (by simp; omega)]
      have : k + t.length - (r.take (k + t.length)).length = 0 := by simp; omega
      rw [this]; rfl
  refine ⟨h1, ?_⟩
  show (pastP t r ++ W).take ((pastP t r ++ W).length - (pastL t (pastP t r ++ W)).length) = _
  rw [h1, List.length_append, Nat.add_sub_cancel, List.take_left]

/-- What holds no > is told ahead of it. -/
theorem prefix_gt : ∀ (s c y y' : List UInt8), (∀ b ∈ s, b ≠ 62) → s.isPrefixOf (c ++ 62 :: y) = s.isPrefixOf (c ++ 62 :: y')
  | [], _, _, _, _ => rfl
  | a :: s, [], y, y', h => by
    have : (a == 62) = false := by simpa using h a (by simp)
    simp [List.isPrefixOf, this]
  | a :: s, b :: c, y, y', h => by
    simp only [List.cons_append, List.isPrefixOf]
    rw [prefix_gt s c y y' (fun b hb => h b (by simp [hb]))]

theorem tagP_none {r : List UInt8} (shut : Bool) (h : attrsP ((stopD pName r).length + 1) (stopD pName r) [] = none) : tagP r shut = (raw r, []) := by unfold tagP; rw [h]
theorem tagP_open {r : List UInt8} {P : Pcs} {r' : List UInt8} (h : attrsP ((stopD pName r).length + 1) (stopD pName r) [] = some (P, r')) : tagP r false = (prep (stopT pName r) P, r') := by
  unfold tagP; rw [h]; rfl
theorem tagP_shut {r : List UInt8} {P : Pcs} {r' : List UInt8} (h : attrsP ((stopD pName r).length + 1) (stopD pName r) [] = some (P, r')) : tagP r true = (raw (stopT pName r ++ weave P (vals P)), r') := by
  unfold tagP; rw [h]; rfl
theorem subst_same (P : Pcs) : subst P (vals P) = P := by
  have e : ∀ l : List (List UInt8 × List UInt8), substL l (l.map (·.1)) = l := by
    intro l
    induction l with
    | nil => rfl
    | cons a l ih => simp [substL, ih]
  unfold subst vals; rw [e]
theorem tagP_new (c : UInt8) (r : List UInt8) (shut : Bool) (hc : pName c.toNat = false) (ts : List (List UInt8)) (hts : OkTs (tagP (c :: r) shut).1.2 ts) (W : List UInt8) (hW : (tagP (c :: r) shut).2 = [] → W = []) :
    tagP (weave (tagP (c :: r) shut).1 ts ++ W) shut = (subst (tagP (c :: r) shut).1 ts, W) ∧ ∃ y, weave (tagP (c :: r) shut).1 ts ++ W = c :: y := by
  have hx : ∃ x, stopT pName (c :: r) = c :: x := by
    unfold stopT; rw [List.takeWhile_cons]; simp [hc]
  obtain ⟨x, hx⟩ := hx
  have hn := stopT_not pName (c :: r)
  rcases h : attrsP ((stopD pName (c :: r)).length + 1) (stopD pName (c :: r)) [] with _ | ⟨P, r'⟩
  · rw [tagP_none shut h] at hts hW ⊢
    simp only [raw] at hts hW ⊢
    cases hts
    obtain rfl := hW trivial
    have e : weave (c :: r, []) [] ++ [] = c :: r := by simp [weave, weaveL]
    rw [e]
    exact ⟨by rw [tagP_none shut h]; rfl, r, rfl⟩
  · obtain ⟨h1, h2, _⟩ := attrsP_app _ _ _ P r' h
    obtain ⟨a0, p0, hp0⟩ := nonnil_of_stop h2
    have ha0 : pName a0.toNat = true := by
      have := weave_head hp0 (vals P) r'
      rw [← h1] at this
      exact stopD_head _ _ _ _ this
    have key : ∀ us, OkTs P.2 us → ∀ z, stopD pName (stopT pName (c :: r) ++ (weave P us ++ z)) = weave P us ++ z ∧ stopT pName (stopT pName (c :: r) ++ (weave P us ++ z)) = stopT pName (c :: r) ∧
        attrsP ((weave P us ++ z).length + 1) (weave P us ++ z) [] = some (subst P us, z) := by
      intro us hus z
      have e1 := stopD_pre pName (stopT pName (c :: r)) (weave P us ++ z) hn
      have e2 := stopD_at pName a0 (p0 ++ weaveL P.2 us ++ z) ha0
      rw [← weave_head hp0 us z] at e2
      rw [e2.1, e2.2, List.append_nil] at e1
      exact ⟨e1.1, e1.2, attrsP_some _ _ _ _ (attrsP_new _ _ _ P r' h us hus z) _ (by omega)⟩
    cases shut with
    | false =>
      rw [tagP_open h] at hts hW ⊢
      simp only at hts hW ⊢
      obtain ⟨k1, k2, k3⟩ := key ts hts W
      have et : weave (prep (stopT pName (c :: r)) P) ts ++ W = stopT pName (c :: r) ++ (weave P ts ++ W) := by rw [weave_prep, List.append_assoc]
      rw [et]
      refine ⟨?_, x ++ (weave P ts ++ W), by rw [hx]; rfl⟩
      rw [tagP_open (P := subst P ts) (r' := W) (by rw [k1]; exact k3), k2]
      rfl
    | true =>
      rw [tagP_shut h] at hts hW ⊢
      simp only [raw] at hts hW ⊢
      cases hts
      obtain ⟨k1, k2, k3⟩ := key (vals P) (OkTs.same P.2) W
      have et : weave (stopT pName (c :: r) ++ weave P (vals P), []) [] ++ W = stopT pName (c :: r) ++ (weave P (vals P) ++ W) := by simp [weave, weaveL]
      rw [et]
      refine ⟨?_, x ++ (weave P (vals P) ++ W), by rw [hx]; rfl⟩
      rw [tagP_shut (P := subst P (vals P)) (r' := W) (by rw [k1]; exact k3), k2, subst_same]
      rfl
theorem isLet_not : ∀ x : Fin 256, isLet x.val = true → pName x.val = false ∧ x.val ≠ 33 ∧ x.val ≠ 63 ∧ x.val ≠ 47 := by decide +kernel
theorem let_not (c : UInt8) (h : isLet c.toNat = true) : pName c.toNat = false ∧ c ≠ 33 ∧ c ≠ 63 ∧ c ≠ 47 := by
  have := isLet_not ⟨c.toNat, c.toNat_lt⟩ h
  refine ⟨this.1, ?_, ?_, ?_⟩
  · rintro rfl; exact this.2.1 rfl
  · rintro rfl; exact this.2.2.1 rfl
  · rintro rfl; exact this.2.2.2 rfl

theorem stepP_new (r : List UInt8) (ts : List (List UInt8)) (hts : OkTs (stepP (60 :: r)).1.2 ts) (W : List UInt8) (hW : W.take 3 = (stepP (60 :: r)).2.take 3) :
    stepP (weave (stepP (60 :: r)).1 ts ++ W) = (subst (stepP (60 :: r)).1 ts, W) ∧ ∃ y, weave (stepP (60 :: r)).1 ts ++ W = 60 :: y := by
  have hW0 : (stepP (60 :: r)).2 = [] → W = [] := by
    intro h
    rw [h] at hW
    cases W with
    | nil => rfl
    | cons a w => simp at hW
  unfold stepP at hts hW hW0
  by_cases h1 : Lib.hasPrefix (60 :: r) [60, 33, 45, 45] = true
  · rw [if_pos h1] at hts hW hW0
    have hS : stepP (60 :: r) = (raw ((60 :: r).take 4 ++ pastP [45, 45, 62] ((60 :: r).drop 4)), pastL [45, 45, 62] ((60 :: r).drop 4)) := by unfold stepP; rw [if_pos h1]
    rw [hS]
    simp only at hts hW hW0 ⊢
    cases hts
    obtain ⟨y, hy⟩ : ∃ y, 60 :: r = 60 :: 33 :: 45 :: 45 :: y := by
      obtain ⟨y, hy⟩ := List.isPrefixOf_iff_prefix.1 h1
      exact ⟨y, hy.symm⟩
    rw [hy] at hW0 ⊢
    have hp := past_new [45, 45, 62] y W (by simp) (fun h => hW0 (by show pastL _ y = []; unfold pastL; rw [if_pos h]))
    have et : weave (raw ((60 :: 33 :: 45 :: 45 :: y).take 4 ++ pastP [45, 45, 62] ((60 :: 33 :: 45 :: 45 :: y).drop 4))) [] ++ W = 60 :: 33 :: 45 :: 45 :: (pastP [45, 45, 62] y ++ W) := by simp [raw, weave, weaveL]
    rw [et]
    refine ⟨?_, _, rfl⟩
    have hq : Lib.hasPrefix (60 :: 33 :: 45 :: 45 :: (pastP [45, 45, 62] y ++ W)) [60, 33, 45, 45] = true := rfl
    unfold stepP
    rw [if_pos hq]
    show (raw ([60, 33, 45, 45] ++ pastP [45, 45, 62] (pastP [45, 45, 62] y ++ W)), pastL [45, 45, 62] (pastP [45, 45, 62] y ++ W)) = _
    rw [hp.1, hp.2]
    rfl
  · rw [if_neg h1] at hts hW hW0
    by_cases h2 : (Lib.hasPrefix (60 :: r) [60, 33] || Lib.hasPrefix (60 :: r) [60, 63]) = true
    · rw [if_pos h2] at hts hW hW0
      have hS : stepP (60 :: r) = (raw (pastP [62] (60 :: r)), pastL [62] (60 :: r)) := by unfold stepP; rw [if_neg h1, if_pos h2]
      rw [hS]
      simp only at hts hW hW0 ⊢
      cases hts
      have et : weave (raw (pastP [62] (60 :: r))) [] ++ W = pastP [62] (60 :: r) ++ W := by simp [raw, weave, weaveL]
      rw [et]
      by_cases h0 : Lib.index (60 :: r) [62] < 0
      · have e : pastL [62] (60 :: r) = [] := by unfold pastL; rw [if_pos h0]
        obtain rfl := hW0 e
        have e2 := pastP_app [62] (60 :: r)
        rw [e, List.append_nil] at e2
        rw [List.append_nil, e2]
        refine ⟨?_, r, rfl⟩
        rw [hS, e, e2]
        rfl
      · obtain ⟨k, hk⟩ := Int.eq_ofNat_of_zero_le (show 0 ≤ Lib.index (60 :: r) [62] by omega)
        have hp := past_new [62] (60 :: r) W (by simp) (fun h => absurd h h0)
        have hk' := hk
        rw [Lib.index_one] at hk'
        have hk2 := (Lib.indexByte_some hk').1
        have hlen := (index_keep [62] (60 :: r) W k hk (by simp)).2
        simp only [List.length_singleton] at hlen
        have hPP : pastP [62] (60 :: r) = (60 :: r).take k ++ [62] := by
          unfold pastP pastL
          rw [if_neg h0, hk, Int.toNat_natCast, List.length_drop]
          have e : (60 :: r).length - ((60 :: r).length - (k + ([62] : List UInt8).length)) = k + 1 := by simp only [List.length_singleton]; omega
          rw [e, List.take_add_one, hk2]
          rfl
        have hold : 60 :: r = (60 :: r).take k ++ 62 :: (60 :: r).drop (k + 1) := by
          have := pastP_app [62] (60 :: r)
          rw [hPP] at this
          have e : pastL [62] (60 :: r) = (60 :: r).drop (k + 1) := by unfold pastL; rw [if_neg h0, hk, Int.toNat_natCast]; rfl
          rw [e, List.append_assoc] at this
          exact this.symm
        have hnew : pastP [62] (60 :: r) ++ W = (60 :: r).take k ++ 62 :: W := by rw [hPP, List.append_assoc]; rfl
        have hpre : ∀ s : List UInt8, (∀ b ∈ s, b ≠ 62) → Lib.hasPrefix (pastP [62] (60 :: r) ++ W) s = Lib.hasPrefix (60 :: r) s := by
          intro s hs
          unfold Lib.hasPrefix
          rw [hnew]
          conv => rhs; rw [hold]
          exact prefix_gt s _ _ _ hs
        have n1 : ¬ Lib.hasPrefix (pastP [62] (60 :: r) ++ W) [60, 33, 45, 45] = true := by rw [hpre _ (by decide)]; exact h1
        have n2 : (Lib.hasPrefix (pastP [62] (60 :: r) ++ W) [60, 33] || Lib.hasPrefix (pastP [62] (60 :: r) ++ W) [60, 63]) = true := by rw [hpre _ (by decide), hpre _ (by decide)]; exact h2
        refine ⟨?_, ?_⟩
        · rw [show stepP (pastP [62] (60 :: r) ++ W) = (raw (pastP [62] (pastP [62] (60 :: r) ++ W)), pastL [62] (pastP [62] (60 :: r) ++ W)) by unfold stepP; rw [if_neg n1, if_pos n2], hp.1, hp.2]
          rfl
        · rw [hnew]
          cases k with
          | zero => simp at hk2
          | succ k => exact ⟨_, by rw [List.take_succ_cons]; rfl⟩
    · rw [if_neg h2] at hts hW hW0
      by_cases h3 : (decide (1 < (60 :: r).length) && isLet (nth (60 :: r) 1)) = true
      · rw [if_pos h3] at hts hW hW0
        have hS : stepP (60 :: r) = (prep ((60 :: r).take 1) (tagP ((60 :: r).drop 1) false).1, (tagP ((60 :: r).drop 1) false).2) := by unfold stepP; rw [if_neg h1, if_neg h2, if_pos h3]
        rw [hS]
        simp only [Bool.and_eq_true, decide_eq_true_eq] at h3
        match r, h3 with
        | [], h3 => simp at h3
        | c :: r2, h3 =>
          have hl : isLet c.toNat = true := h3.2
          obtain ⟨l1, l2, l3, l4⟩ := let_not c hl
          obtain ⟨t1, y, t2⟩ := tagP_new c r2 false l1 ts hts W hW0
          have et : weave (prep ((60 :: c :: r2).take 1) (tagP ((60 :: c :: r2).drop 1) false).1) ts ++ W = 60 :: (weave (tagP (c :: r2) false).1 ts ++ W) := by rw [weave_prep]; rfl
          rw [et]
          refine ⟨?_, _, rfl⟩
          rw [t2]
          have n1 : ¬ Lib.hasPrefix (60 :: c :: y) [60, 33, 45, 45] = true := by simp [Lib.hasPrefix, List.isPrefixOf, Ne.symm l2]
          have n2 : ¬ (Lib.hasPrefix (60 :: c :: y) [60, 33] || Lib.hasPrefix (60 :: c :: y) [60, 63]) = true := by simp [Lib.hasPrefix, List.isPrefixOf, Ne.symm l2, Ne.symm l3]
          have n3 : (decide (1 < (60 :: c :: y).length) && isLet (nth (60 :: c :: y) 1)) = true := by simp [nth, hl]
          rw [show stepP (60 :: c :: y) = (prep ((60 :: c :: y).take 1) (tagP ((60 :: c :: y).drop 1) false).1, (tagP ((60 :: c :: y).drop 1) false).2) by unfold stepP; rw [if_neg n1, if_neg n2, if_pos n3]]
          show (prep [60] (tagP (c :: y) false).1, (tagP (c :: y) false).2) = _
          rw [← t2, t1]
          rfl
      · rw [if_neg h3] at hts hW hW0
        by_cases h4 : (decide (2 < (60 :: r).length) && nth (60 :: r) 1 == 47 && isLet (nth (60 :: r) 2)) = true
        · rw [if_pos h4] at hts hW hW0
          have hS : stepP (60 :: r) = (prep ((60 :: r).take 2) (tagP ((60 :: r).drop 2) true).1, (tagP ((60 :: r).drop 2) true).2) := by unfold stepP; rw [if_neg h1, if_neg h2, if_neg h3, if_pos h4]
          rw [hS]
          simp only [Bool.and_eq_true, decide_eq_true_eq] at h4
          match r, h4 with
          | [], h4 => simp at h4
          | [a], h4 => simp at h4
          | a :: c :: r2, h4 =>
            have hl : isLet c.toNat = true := h4.2
            have ha : a = 47 := by
              have : a.toNat = 47 := by simpa [nth] using h4.1.2
              exact UInt8.toNat_inj.1 this
            subst ha
            obtain ⟨l1, l2, l3, l4⟩ := let_not c hl
            obtain ⟨t1, y, t2⟩ := tagP_new c r2 true l1 ts hts W hW0
            have et : weave (prep ((60 :: 47 :: c :: r2).take 2) (tagP ((60 :: 47 :: c :: r2).drop 2) true).1) ts ++ W = 60 :: 47 :: (weave (tagP (c :: r2) true).1 ts ++ W) := by rw [weave_prep]; rfl
            rw [et]
            refine ⟨?_, _, rfl⟩
            rw [t2]
            have n1 : ¬ Lib.hasPrefix (60 :: 47 :: c :: y) [60, 33, 45, 45] = true := by simp [Lib.hasPrefix, List.isPrefixOf]
            have n2 : ¬ (Lib.hasPrefix (60 :: 47 :: c :: y) [60, 33] || Lib.hasPrefix (60 :: 47 :: c :: y) [60, 63]) = true := by simp [Lib.hasPrefix, List.isPrefixOf]
            have n3 : ¬ (decide (1 < (60 :: 47 :: c :: y).length) && isLet (nth (60 :: 47 :: c :: y) 1)) = true := by simp [nth]; decide
            have n4 : (decide (2 < (60 :: 47 :: c :: y).length) && nth (60 :: 47 :: c :: y) 1 == 47 && isLet (nth (60 :: 47 :: c :: y) 2)) = true := by simp [nth, hl]
            rw [show stepP (60 :: 47 :: c :: y) = (prep ((60 :: 47 :: c :: y).take 2) (tagP ((60 :: 47 :: c :: y).drop 2) true).1, (tagP ((60 :: 47 :: c :: y).drop 2) true).2) by unfold stepP; rw [if_neg n1, if_neg n2, if_neg n3, if_pos n4]]
            show (prep [60, 47] (tagP (c :: y) true).1, (tagP (c :: y) true).2) = _
            rw [← t2, t1]
            rfl
        · rw [if_neg h4] at hts hW hW0
          have hS : stepP (60 :: r) = (raw ((60 :: r).take 1), (60 :: r).drop 1) := by unfold stepP; rw [if_neg h1, if_neg h2, if_neg h3, if_neg h4]
          rw [hS]
          simp only at hts hW hW0 ⊢
          cases hts
          have h44 : (60 :: W).take 4 = (60 :: r).take 4 := by simpa using hW
          obtain ⟨q1, q2, q3⟩ := take4 h44
          refine ⟨?_, W, by simp [raw, weave, weaveL]⟩
          have et : weave (raw ((60 :: r).take 1)) [] ++ W = 60 :: W := by simp [raw, weave, weaveL]
          rw [et]
          have n1 : ¬ Lib.hasPrefix (60 :: W) [60, 33, 45, 45] = true := by rw [q1 _ (by decide)]; exact h1
          have n2 : ¬ (Lib.hasPrefix (60 :: W) [60, 33] || Lib.hasPrefix (60 :: W) [60, 63]) = true := by rw [q1 _ (by decide), q1 _ (by decide)]; exact h2
          have n3 : ¬ (decide (1 < (60 :: W).length) && isLet (nth (60 :: W) 1)) = true := by rw [q2 1 (by omega), q3 1 (by omega)]; exact h3
          have n4 : ¬ (decide (2 < (60 :: W).length) && nth (60 :: W) 1 == 47 && isLet (nth (60 :: W) 2)) = true := by rw [q2 1 (by omega), q2 2 (by omega), q3 2 (by omega)]; exact h4
          rw [show stepP (60 :: W) = (raw ((60 :: W).take 1), (60 :: W).drop 1) by unfold stepP; rw [if_neg n1, if_neg n2, if_neg n3, if_neg n4]]
          rfl
end Go.Proofs.YtlbdnohnngkapaaGreatDoor

namespace Go.Proofs.YtlbdnohnngkapaaGreatDoor
open Go.RowKit

theorem cut_u8 (w : World) (A : Option Addr) (n c : Nat) (ki : IntKind) (k : Int) (h0 : 0 ≤ k) (h1 : k ≤ n) :
    (Instr.slice 22 (.slice A n c) (some (.int ki k)) none none).run Tryz.prog w = .ok (.slice (cutA A c k.toNat 1) (n - k.toNat) (c - k.toNat)) w :=
  run_cut w 22 5 1 Tryz.underlying22 (Tryz.sizeOf5 w) A n c ki k h0 h1
theorem mid_u8 (w : World) (A : Option Addr) (n c : Nat) (ki kj : IntKind) (i j : Int) (h0 : 0 ≤ i) (h1 : i ≤ j) (h2 : j ≤ n) (hc : n ≤ c) :
    (Instr.slice 22 (.slice A n c) (some (.int ki i)) (some (.int kj j)) none).run Tryz.prog w = .ok (.slice (cutA A c i.toNat 1) (j.toNat - i.toNat) (c - i.toNat)) w :=
  run_mid w 22 5 1 Tryz.underlying22 (Tryz.sizeOf5 w) A n c ki kj i j h0 h1 h2 hc
attribute [local go_sem high] cut_u8 mid_u8
theorem countB_le (l t : List UInt8) (h : 1 ≤ t.length) : Lib.countB ⟨l.toArray⟩ ⟨t.toArray⟩ ≤ l.length := by
  have h1 := Lib.countB_mul_le ⟨t.toArray⟩ (by simpa [ByteArray.size] using h) l.length ⟨l.toArray⟩ (by simp [ByteArray.size])
  have h2 : (⟨l.toArray⟩ : ByteArray).size = l.length := by simp [ByteArray.size]
  have h3 : (⟨t.toArray⟩ : ByteArray).size = t.length := by simp [ByteArray.size]
  rw [h2, h3] at h1
  exact Nat.le_trans (Nat.le_mul_of_pos_right _ h) h1
theorem unamp_any (v : List UInt8) (w : World) (hM : MaxLenOk w) (hl : v.length ≤ 1000000) :
    Calls Tryz.prog 204 #[str v, .string ⟨#[38, 97, 109, 112, 59]⟩, .string ⟨#[38]⟩] w fun e w' => e = .returned (str (unamp v)) ∧ Below w.heap.size w w' := by
  obtain ⟨m, hm⟩ := hM
  have h2 : (⟨v.toArray⟩ : ByteArray).size = v.length := by simp [ByteArray.size]
  refine Go.Proofs.Tryz.strings_ReplaceAll ⟨v.toArray⟩ ⟨#[38, 97, 109, 112, 59]⟩ ⟨#[38]⟩ m w (by rw [h2]; omega) hm (by decide) ?_
  have := countB_le v [38, 97, 109, 112, 59] (by decide)
  rw [h2]
  show v.length + Lib.countB ⟨v.toArray⟩ ⟨#[38, 97, 109, 112, 59]⟩ * 1 ≤ _
  omega
/-- A page's bytes, cut. -/
theorem By.cutR {w : World} {B n c : Nat} {A : Option Addr} {l r : List UInt8} (h : By w B A n l) (hr : r <:+ l) (hc : n ≤ c) : By w B (cutA A c (n - r.length) 1) (n - (n - r.length)) r := by
  have := h.cut (k := n - r.length) (Nat.sub_le _ _) hc
  rw [← h.len, suffix_drop hr, h.len] at this
  exact this
theorem By.midR {w : World} {B n c : Nat} {A : Option Addr} {l r x y : List UInt8} (h : By w B A n l) (hr : r <:+ l) (hc : n ≤ c) (hx : r = x ++ y) : By w B (cutA A c (n - r.length) 1) (n - y.length - (n - r.length)) x := by
  have h1 := h.cutR hr hc
  have hl := h.len
  have hle := hr.length_le
  have hlen : r.length = x.length + y.length := by rw [hx]; simp
  have h2 := h1.upto (k := n - y.length - (n - r.length)) (by omega)
  have e : n - y.length - (n - r.length) = x.length := by omega
  rw [e] at h2 ⊢
  rw [hx, List.take_left] at h2
  rw [hx]
  exact h2
set_option maxRecDepth 100000 in
set_option maxHeartbeats 1000000 in
theorem past_any (t : List UInt8) (s : Nat) (A : Option Addr) (n c B : Nat) (out : Value) (l r : List UInt8) (w : World) (hM : MaxLenOk w) (ht : t.length ≤ 100)
    (hs : ScanIs w s (.slice A n c) (n - r.length) out) (hr : r <:+ l) (hb : By w B A n l) (_hB : B ≤ s) (hn : n ≤ 1000000) (hc : n ≤ c) :
    Calls Tryz.prog 117 #[.pointer (some ⟨s, 0, none⟩), .string ⟨t.toArray⟩] w (TillOut s (.slice A n c) out (n - (pastL t r).length) w) := by
  have hl := hb.len
  have hle := hr.length_le
  have hcut := hb.cutR hr hc
  obtain ⟨a1, ha1⟩ : ∃ a1, a1 = n - r.length := ⟨_, rfl⟩
  rw [← ha1] at hs hcut
  have hts := fun k => run_toStr (P := Tryz.prog) (w.drewN k) 22 9 5 _ (cutA A c a1 1) (n - a1) (c - a1) r hcut Tryz.underlying22 Tryz.underlying5 Tryz.underlying9
  have hix := fun k => Index_any r t (w.drewN k) (hM.drewN k) (by omega)
  have hige := Lib.index_ge r t
  have hile := Lib.index_le r t
  have ha1n : a1 ≤ n := by omega
  have y0 := hs.c0
  have y1 := hs.c1
  have yf := hs.fz 1
  have Hs := Lib.hid hs
  have Ha1 := Lib.hid ha1
  by_cases h0 : Lib.index r t < 0
  · have hp : pastL t r = [] := by unfold pastL; rw [if_pos h0]
    rw [hp]
    have hneg : Lib.index r t = -1 := by omega
    rw [hneg] at hix
    have Hix := Lib.hid hix
    clear hp h0 hix hige hile hneg hs ha1 hl
    go_enter Tryz.func117, Tryz.ntmps117
    go_wp2_with fail
    go_quiet ((go_at_call 135; exact Calls.quiet_of_same (Hix.out _)))
    have y0' := (Hs.out.drewN nq).c0
    have y1' := (Hs.out.drewN nq).c1
    have yf' := (Hs.out.drewN nq).fz 1
    go_wp2_with fail
    go_end0
    exact ⟨rfl, by simpa using (Hs.out.drewN nq).set1 n, grown_tr (grown_drewN (World.grownBy.refl w _) nq) (grown_set _ s 1 _)⟩
  · obtain ⟨k, hk⟩ := Int.eq_ofNat_of_zero_le (show 0 ≤ Lib.index r t by omega)
    have hp : pastL t r = r.drop (k + t.length) := by unfold pastL; rw [if_neg h0, hk]; rfl
    rw [hk] at hix hile
    have hroom : t ≠ [] → k + t.length ≤ r.length := fun h => (index_keep t r [] k hk h).2
    have hkt : k + t.length ≤ r.length := by
      rcases Nat.eq_zero_or_pos t.length with h | h
      · omega
      · exact hroom (by intro e; rw [e] at h; simp at h)
    have hp2 : n - (pastL t r).length = a1 + (k + t.length) := by rw [hp, List.length_drop]; omega
    rw [hp2]
    have hbd : a1 + (k + t.length) ≤ n := by omega
    have Hix := Lib.hid hix
    clear hp hp2 h0 hix hige hile hk hroom hs ha1 hl
    go_enter Tryz.func117, Tryz.ntmps117
    go_wp2_with fail
    go_quiet ((go_at_call 135; exact Calls.quiet_of_same (Hix.out _)))
    have y0' := (Hs.out.drewN nq).c0
    have y1' := (Hs.out.drewN nq).c1
    have yf' := (Hs.out.drewN nq).fz 1
    go_wp2_with fail
    go_end0
    have h := (Hs.out.drewN nq).set1 (a1 + (k + t.length))
    exact ⟨rfl, by simpa using h, grown_tr (grown_drewN (World.grownBy.refl w _) nq) (grown_set _ s 1 _)⟩
end Go.Proofs.YtlbdnohnngkapaaGreatDoor

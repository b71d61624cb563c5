import Derived.Test.YtlbdnohnngkapaaGreatDoorU6
import Derived.Test.YtlbdnohnngkapaaGreatDoorU7
import Derived.Test.YtlbdnohnngkapaaGreatDoorU1
import Derived.WalkSpells
import Derived.Test.YtlbdnohnngkapaaGreatDoorU2
import Derived.Deep.RegionWith
namespace Go.Proofs.YtlbdnohnngkapaaGreatDoor
open Go.RowKit

/-- Where one address leads from another; nothing, where it can't be told. -/
def ledB (f t : List UInt8) : List UInt8 :=
  if (readU f).2 ≠ 0 then [] else if (readU t).2 ≠ 0 then [] else if (leadU (readU f).1 (readU t).1).2 ≠ 0 then [] else (printU (leadU (readU f).1 (readU t).1).1).1
theorem PrintV (u : UrlD) (w : World) : Calls Tryz.prog 113 #[u.val] w fun e w' => e = .returned (.tuple #[str (printU u).1, .int .i64 ((printU u).2 : Nat)]) ∧ Below w.heap.size w w' :=
  Print_any u.scheme u.host u.path u.query u.frag u.hasHost u.hasQuery u.hasFrag w
/-- A block with two addresses. -/
def AB (w : World) (b : Nat) (u v : UrlD) : Prop := w.heap[b]? = some (.cells #[str u.scheme, .bool u.hasHost, str u.host, str u.path, .bool u.hasQuery, str u.query, .bool u.hasFrag, str u.frag, str v.scheme, .bool v.hasHost, str v.host, str v.path, .bool v.hasQuery, str v.query, .bool v.hasFrag, str v.frag] 133 (0, 0))
section
variable {w w' : World} {b : Nat} {u v : UrlD}
theorem AB.lt (h : AB w b u v) : b < w.heap.size := by
  rcases Nat.lt_or_ge b w.heap.size with h' | h'
  · exact h'
  · unfold AB at h; rw [Array.getElem?_eq_none h'] at h; cases h
theorem AB.box (h : AB w b u v) : Box8 w b (str u.scheme) (.bool u.hasHost) (str u.host) (str u.path) (.bool u.hasQuery) (str u.query) (.bool u.hasFrag) (str u.frag) := by
  unfold AB at h
  refine ⟨?_, ?_, ?_, ?_, ?_, ?_, ?_, ?_⟩ <;> (unfold World.cell?; rw [h]; rfl)
theorem AB.box2 (h : AB w b u v) : w.cell? ⟨b, 8, none⟩ = some (str v.scheme) ∧ w.cell? ⟨b, 9, none⟩ = some (.bool v.hasHost) ∧ w.cell? ⟨b, 10, none⟩ = some (str v.host) ∧ w.cell? ⟨b, 11, none⟩ = some (str v.path) ∧ w.cell? ⟨b, 12, none⟩ = some (.bool v.hasQuery) ∧ w.cell? ⟨b, 13, none⟩ = some (str v.query) ∧ w.cell? ⟨b, 14, none⟩ = some (.bool v.hasFrag) ∧ w.cell? ⟨b, 15, none⟩ = some (str v.frag) := by
  unfold AB at h
  refine ⟨?_, ?_, ?_, ?_, ?_, ?_, ?_, ?_⟩ <;> (unfold World.cell?; rw [h]; rfl)
theorem AB.fz (h : AB w b u v) : ∀ i, w.frozen? ⟨b, i, none⟩ = false := by
  intro i
  unfold AB at h
  unfold World.frozen?
  rw [h]
  simp
theorem AB.below (h : AB w b u v) (hb : Below w.heap.size w w') : AB w' b u v := (hb.block b h.lt).trans h
theorem AB.new (w : World) (u v : UrlD) : AB (w.alloc (.cells #[str u.scheme, .bool u.hasHost, str u.host, str u.path, .bool u.hasQuery, str u.query, .bool u.hasFrag, str u.frag, str v.scheme, .bool v.hasHost, str v.host, str v.path, .bool v.hasQuery, str v.query, .bool v.hasFrag, str v.frag] 133)) w.heap.size u v := heap_alloc_new w _
theorem AB.put (h : AB w b u v) (k : Nat) (x : Value) : (w.setCell ⟨b, k, none⟩ x).heap[b]? = some (.cells ((#[str u.scheme, .bool u.hasHost, str u.host, str u.path, .bool u.hasQuery, str u.query, .bool u.hasFrag, str u.frag, str v.scheme, .bool v.hasHost, str v.host, str v.path, .bool v.hasQuery, str v.query, .bool v.hasFrag, str v.frag] : Array Value).setIfInBounds k x) 133 (0, 0)) := by
  unfold AB at h
  simp only [World.setCell, Array.getElem?_modify, if_pos, h, Option.map_some]
  rfl
theorem AB.s0 (h : AB w b u v) (x : List UInt8) : AB (w.setCell ⟨b, 0, none⟩ (str x)) b { u with scheme := x } v := h.put 0 _
theorem AB.s1 (h : AB w b u v) (x : Bool) : AB (w.setCell ⟨b, 1, none⟩ (.bool x)) b { u with hasHost := x } v := h.put 1 _
theorem AB.s2 (h : AB w b u v) (x : List UInt8) : AB (w.setCell ⟨b, 2, none⟩ (str x)) b { u with host := x } v := h.put 2 _
theorem AB.s3 (h : AB w b u v) (x : List UInt8) : AB (w.setCell ⟨b, 3, none⟩ (str x)) b { u with path := x } v := h.put 3 _
theorem AB.s4 (h : AB w b u v) (x : Bool) : AB (w.setCell ⟨b, 4, none⟩ (.bool x)) b { u with hasQuery := x } v := h.put 4 _
theorem AB.s5 (h : AB w b u v) (x : List UInt8) : AB (w.setCell ⟨b, 5, none⟩ (str x)) b { u with query := x } v := h.put 5 _
theorem AB.s6 (h : AB w b u v) (x : Bool) : AB (w.setCell ⟨b, 6, none⟩ (.bool x)) b { u with hasFrag := x } v := h.put 6 _
theorem AB.s7 (h : AB w b u v) (x : List UInt8) : AB (w.setCell ⟨b, 7, none⟩ (str x)) b { u with frag := x } v := h.put 7 _
theorem AB.fill1 (h : AB w b u v) (x : UrlD) : AB ((((((((w.setCell ⟨b, 0, none⟩ (str x.scheme)).setCell ⟨b, 1, none⟩ (.bool x.hasHost)).setCell ⟨b, 2, none⟩ (str x.host)).setCell ⟨b, 3, none⟩ (str x.path)).setCell ⟨b, 4, none⟩ (.bool x.hasQuery)).setCell ⟨b, 5, none⟩ (str x.query)).setCell ⟨b, 6, none⟩ (.bool x.hasFrag)).setCell ⟨b, 7, none⟩ (str x.frag)) b x v := ((((((((h.s0 x.scheme).s1 x.hasHost).s2 x.host).s3 x.path).s4 x.hasQuery).s5 x.query).s6 x.hasFrag).s7 x.frag)
theorem AB.t0 (h : AB w b u v) (x : List UInt8) : AB (w.setCell ⟨b, 8, none⟩ (str x)) b u { v with scheme := x } := h.put 8 _
theorem AB.t1 (h : AB w b u v) (x : Bool) : AB (w.setCell ⟨b, 9, none⟩ (.bool x)) b u { v with hasHost := x } := h.put 9 _
theorem AB.t2 (h : AB w b u v) (x : List UInt8) : AB (w.setCell ⟨b, 10, none⟩ (str x)) b u { v with host := x } := h.put 10 _
theorem AB.t3 (h : AB w b u v) (x : List UInt8) : AB (w.setCell ⟨b, 11, none⟩ (str x)) b u { v with path := x } := h.put 11 _
theorem AB.t4 (h : AB w b u v) (x : Bool) : AB (w.setCell ⟨b, 12, none⟩ (.bool x)) b u { v with hasQuery := x } := h.put 12 _
theorem AB.t5 (h : AB w b u v) (x : List UInt8) : AB (w.setCell ⟨b, 13, none⟩ (str x)) b u { v with query := x } := h.put 13 _
theorem AB.t6 (h : AB w b u v) (x : Bool) : AB (w.setCell ⟨b, 14, none⟩ (.bool x)) b u { v with hasFrag := x } := h.put 14 _
theorem AB.t7 (h : AB w b u v) (x : List UInt8) : AB (w.setCell ⟨b, 15, none⟩ (str x)) b u { v with frag := x } := h.put 15 _
theorem AB.fill2 (h : AB w b u v) (x : UrlD) : AB ((((((((w.setCell ⟨b, 8, none⟩ (str x.scheme)).setCell ⟨b, 9, none⟩ (.bool x.hasHost)).setCell ⟨b, 10, none⟩ (str x.host)).setCell ⟨b, 11, none⟩ (str x.path)).setCell ⟨b, 12, none⟩ (.bool x.hasQuery)).setCell ⟨b, 13, none⟩ (str x.query)).setCell ⟨b, 14, none⟩ (.bool x.hasFrag)).setCell ⟨b, 15, none⟩ (str x.frag)) b u x := ((((((((h.t0 x.scheme).t1 x.hasHost).t2 x.host).t3 x.path).t4 x.hasQuery).t5 x.query).t6 x.hasFrag).t7 x.frag)
theorem AB.other (h : AB w b u v) {c k : Nat} (hne : c ≠ b) (x : Value) : AB (w.setCell ⟨c, k, none⟩ x) b u v := by
  unfold AB at h ⊢
  rw [← h]
  simp only [World.setCell, Array.getElem?_modify]
  rw [if_neg hne]
end
theorem below_fill1 {C : Nat} {w0 w : World} {b : Nat} (h : Below C w0 w) (hC : C ≤ b) (v0 v1 v2 v3 v4 v5 v6 v7 : Value) (k0 k1 k2 k3 k4 k5 k6 k7 : Nat) : Below C w0 ((((((((w.setCell ⟨b, k0, none⟩ v0).setCell ⟨b, k1, none⟩ v1).setCell ⟨b, k2, none⟩ v2).setCell ⟨b, k3, none⟩ v3).setCell ⟨b, k4, none⟩ v4).setCell ⟨b, k5, none⟩ v5).setCell ⟨b, k6, none⟩ v6).setCell ⟨b, k7, none⟩ v7) :=
  (((((((h.setCell hC _).setCell hC _).setCell hC _).setCell hC _).setCell hC _).setCell hC _).setCell hC _).setCell hC _
def LedRes (r : List UInt8) (w : World) (e : Ending) (w' : World) : Prop := e = .returned (str r) ∧ Below w.heap.size w w'
set_option maxRecDepth 100000 in
set_option maxHeartbeats 4000000 in
theorem Led_any (f t : List UInt8) (w : World) (hM : MaxLenOk w) (hf : f.length ≤ maxLen) (ht : t.length ≤ maxLen) :
    Calls Tryz.prog 42 #[str f, str t] w (LedRes (ledB f t) w) := by
  obtain ⟨W, hW⟩ : ∃ W, W = w.alloc (.cells #[.string ⟨#[]⟩, .bool false, .string ⟨#[]⟩, .string ⟨#[]⟩, .bool false, .string ⟨#[]⟩, .bool false, .string ⟨#[]⟩, .string ⟨#[]⟩, .bool false, .string ⟨#[]⟩, .string ⟨#[]⟩, .bool false, .string ⟨#[]⟩, .bool false, .string ⟨#[]⟩] 133) := ⟨_, rfl⟩
  have hB : AB W w.heap.size zeroU zeroU := by rw [hW]; exact AB.new w zeroU zeroU
  have hbW : Below w.heap.size w W := by rw [hW]; exact (Below.refl _ _).alloc (Nat.le_refl _) _
  obtain ⟨rr, hrr⟩ : ∃ rr, rr = ledB f t := ⟨_, rfl⟩
  rw [← hrr]
  have HRR := Lib.hid hrr
  clear hrr
  have ix0 : ∀ X : World, (Instr.index 134 (.agg #[str f, str t]) (.int .i64 0)).run Tryz.prog X = .ok (str f) X := fun _ => by kernel_rfl
  have ix1 : ∀ X : World, (Instr.index 134 (.agg #[str f, str t]) (.int .i64 1)).run Tryz.prog X = .ok (str t) X := fun _ => by kernel_rfl
  have KF := Lib.hid (fun X => Parse_any f X hf)
  have KT := Lib.hid (fun X => Parse_any t X ht)
  have KL := Lib.hid (fun X (h : MaxLenOk X) => Lead_parts (readU f).1 (readU t).1 X h)
  have KP := Lib.hid (fun X => PrintV (leadU (readU f).1 (readU t).1).1 X)
  have HM := Lib.hid hM
  unfold ledB at HRR
  generalize readU f = F at *
  generalize readU t = T at *
  obtain ⟨fu, fe⟩ := F
  obtain ⟨tu, te⟩ := T
  simp only at HRR KL KP KF KT
  generalize leadU fu tu = L at *
  obtain ⟨lu, le⟩ := L
  simp only at HRR KL KP
  generalize printU lu = PP at *
  obtain ⟨pp, pe⟩ := PP
  simp only at HRR KP
  clear hM hf ht
  simp only [UrlD.val] at KF KT KL KP
  go_enter Tryz.func42, Tryz.ntmps42
  go_wp2_with fail
  rw [← hW]
  clear hW
  go_loopw [4, 17] (fun sv iv wr => sv = .string ⟨#[]⟩ ∧ ∃ i : Nat, i ≤ 2 ∧ iv = .int .i64 i ∧ Below w.heap.size w wr ∧ (∃ x y, AB wr w.heap.size x y ∧ Hid (1 ≤ i → x = fu ∧ fe = 0) ∧ Hid (2 ≤ i → y = tu ∧ te = 0))) (fun _ iv _ => 2 - (intOf iv).toNat)
  case atStart => exact ⟨rfl, 0, by omega, rfl, hbW, zeroU, zeroU, hB, fun h => absurd h (by omega), fun h => absurd h (by omega)⟩
  case round =>
    obtain ⟨rfl, i, hi, rfl, hbel, x, y, hAB, hk1, hk2⟩ := hrel
    rcases (by omega : i = 0 ∨ i = 1 ∨ i = 2) with rfl | rfl | rfl
    · go_wp2_with fail
      refine (KF.out _).mono ?_
      rintro e w1 ⟨rfl, hb1⟩
      have hAB1 := hAB.below hb1
      have hbel1 := hbel.trans (hb1.mono hbel.size)
      clear hAB hb1 hbel
      by_cases hc : fe = 0
      · have hcc := Lib.hid hc
        have ez : ((fe : Int) != 0) = false := by rw [hc]; rfl
        rw [hc]
        clear hc ez
        go_upto_region 6 with fail
        obtain ⟨W1, hW1⟩ : ∃ W1, W1 = w1.alloc (.cells #[str fu.scheme, .bool fu.hasHost, str fu.host, str fu.path, .bool fu.hasQuery, str fu.query, .bool fu.hasFrag, str fu.frag] 66) := ⟨_, rfl⟩
        have hbA : Below w1.heap.size w1 W1 := by rw [hW1]; exact (Below.refl _ _).alloc (Nat.le_refl _) _
        have hUB : UB W1 w1.heap.size fu := by rw [hW1]; exact UB.new w1 fu
        rw [← hW1]
        clear hW1
        have ⟨c0, c1, c2, c3, c4, c5, c6, c7⟩ := hUB.box
        have hAB2 := hAB1.below hbA
        have hbel2 := hbel1.trans (hbA.mono hbel1.size)
        have ⟨y0, y1, y2, y3, y4, y5, y6, y7⟩ := hAB2.box
        have hfz := hAB2.fz
        have f0 := hfz 0
        have f1 := hfz 1
        have f2 := hfz 2
        have f3 := hfz 3
        have f4 := hfz 4
        have f5 := hfz 5
        have f6 := hfz 6
        have f7 := hfz 7
        have HFB := Lib.hid (And.intro (below_fill1 hbel2 (Nat.le_refl _) (str fu.scheme) (.bool fu.hasHost) (str fu.host) (str fu.path) (.bool fu.hasQuery) (str fu.query) (.bool fu.hasFrag) (str fu.frag) 0 1 2 3 4 5 6 7) (hAB2.fill1 fu))
        clear hAB2 hbA hbel2 hAB1 hUB hfz
        go_upto_region 9 with fail
        clear f0 f1 f2 f3 f4 f5 f6 f7 c0 c1 c2 c3 c4 c5 c6 c7 y0 y1 y2 y3 y4 y5 y6 y7
        generalize World.setCell _ _ _ = wz at HFB ⊢
        go_wp2_with fail
        exact ⟨⟨rfl, 1, by omega, rfl, HFB.out.1, _, _, HFB.out.2, fun _ => ⟨rfl, hcc.out⟩, fun h => absurd h (by omega)⟩, by simp [intOf]⟩
      · have ekk : ((fe : Int) != 0) = true := by simp; omega
        have hrr := HRR.out
        rw [if_pos hc] at hrr
        have HRR2 := Lib.hid hrr
        clear hrr HRR
        go_wp2_with fail
        go_ret
        have hrr := HRR2.out
        subst hrr
        exact ⟨rfl, hbel1.alloc hbel1.size _⟩
    · go_wp2_with fail
      refine (KT.out _).mono ?_
      rintro e w1 ⟨rfl, hb1⟩
      have hAB1 := hAB.below hb1
      have hbel1 := hbel.trans (hb1.mono hbel.size)
      clear hAB hb1 hbel
      by_cases hc : te = 0
      · have hcc := Lib.hid hc
        have ez : ((te : Int) != 0) = false := by rw [hc]; rfl
        rw [hc]
        clear hc ez
        go_upto_region 6 with fail
        obtain ⟨W1, hW1⟩ : ∃ W1, W1 = w1.alloc (.cells #[str tu.scheme, .bool tu.hasHost, str tu.host, str tu.path, .bool tu.hasQuery, str tu.query, .bool tu.hasFrag, str tu.frag] 66) := ⟨_, rfl⟩
        have hbA : Below w1.heap.size w1 W1 := by rw [hW1]; exact (Below.refl _ _).alloc (Nat.le_refl _) _
        have hUB : UB W1 w1.heap.size tu := by rw [hW1]; exact UB.new w1 tu
        rw [← hW1]
        clear hW1
        have ⟨c0, c1, c2, c3, c4, c5, c6, c7⟩ := hUB.box
        have hAB2 := hAB1.below hbA
        have hbel2 := hbel1.trans (hbA.mono hbel1.size)
        have ⟨y0, y1, y2, y3, y4, y5, y6, y7⟩ := hAB2.box2
        have hfz := hAB2.fz
        have f0 := hfz 8
        have f1 := hfz 9
        have f2 := hfz 10
        have f3 := hfz 11
        have f4 := hfz 12
        have f5 := hfz 13
        have f6 := hfz 14
        have f7 := hfz 15
        have HFB := Lib.hid (And.intro (below_fill1 hbel2 (Nat.le_refl _) (str tu.scheme) (.bool tu.hasHost) (str tu.host) (str tu.path) (.bool tu.hasQuery) (str tu.query) (.bool tu.hasFrag) (str tu.frag) 8 9 10 11 12 13 14 15) (hAB2.fill2 tu))
        clear hAB2 hbA hbel2 hAB1 hUB hfz
        go_upto_region 9 with fail
        clear f0 f1 f2 f3 f4 f5 f6 f7 c0 c1 c2 c3 c4 c5 c6 c7 y0 y1 y2 y3 y4 y5 y6 y7
        generalize World.setCell _ _ _ = wz at HFB ⊢
        go_wp2_with fail
        exact ⟨⟨rfl, 2, by omega, rfl, HFB.out.1, _, _, HFB.out.2, fun _ => hk1 (by omega), fun _ => ⟨rfl, hcc.out⟩⟩, by simp [intOf]⟩
      · have ekk : ((te : Int) != 0) = true := by simp; omega
        have hrr := HRR.out
        rw [if_neg (by simp [(hk1 (by omega)).2]), if_pos hc] at hrr
        have HRR2 := Lib.hid hrr
        clear hrr HRR
        go_wp2_with fail
        go_ret
        have hrr := HRR2.out
        subst hrr
        exact ⟨rfl, hbel1.alloc hbel1.size _⟩
    · obtain ⟨rfl, rfl⟩ := hk1 (by omega)
      obtain ⟨rfl, rfl⟩ := hk2 (by omega)
      have hrr := HRR.out
      simp only [ne_eq, not_true_eq_false, if_false] at hrr
      have ⟨c0, c1, c2, c3, c4, c5, c6, c7⟩ := hAB.box
      have ⟨d0, d1, d2, d3, d4, d5, d6, d7⟩ := hAB.box2
      clear HRR
      have HRR := Lib.hid hrr
      clear hrr
      go_wp2_with fail
      refine (KL.out _ (HM.out.below hbel)).mono ?_
      rintro e w1 ⟨rfl, hb1⟩
      have hbel1 := hbel.trans (hb1.mono hbel.size)
      clear c0 c1 c2 c3 c4 c5 c6 c7 d0 d1 d2 d3 d4 d5 d6 d7 hb1
      by_cases hc : le = 0
      · have hcc := Lib.hid hc
        subst hc
        have hrr := HRR.out
        simp only [not_true_eq_false, if_false] at hrr
        have hbA := (Below.refl w1.heap.size w1).alloc (Nat.le_refl _) (.cells #[str lu.scheme, .bool lu.hasHost, str lu.host, str lu.path, .bool lu.hasQuery, str lu.query, .bool lu.hasFrag, str lu.frag] 66)
        have hbel2 := hbel1.trans (hbA.mono hbel1.size)
        have HRR2 := Lib.hid hrr
        clear hrr HRR
        go_wp2_with fail
        refine (KP.out _).mono ?_
        rintro e w2 ⟨rfl, hb2⟩
        have hbel3 := hbel2.trans (hb2.mono hbel2.size)
        go_wp2_with fail
        go_ret
        have hrr := HRR2.out
        subst hrr
        exact ⟨rfl, hbel3⟩
      · have ekk : ((le : Int) != 0) = true := by simp; omega
        have hrr := HRR.out
        rw [if_pos hc] at hrr
        have HRR2 := Lib.hid hrr
        clear hrr HRR
        go_wp2_with fail
        go_ret
        have hrr := HRR2.out
        subst hrr
        exact ⟨rfl, hbel1.alloc hbel1.size _⟩
end Go.Proofs.YtlbdnohnngkapaaGreatDoor

namespace Go.Proofs.YtlbdnohnngkapaaGreatDoor
open Go.RowKit

theorem cloInfoPart : (Tryz.prog.info? 25).map (fun i => (i.zero, i.size, i.bytes)) = some (some (Value.agg #[.string ⟨#[]⟩, .string ⟨#[]⟩, .string ⟨#[]⟩, .string ⟨#[]⟩, .int .i64 0, .slice none 0 0, .slice none 0 0]), 7, 120) := by kernel_rfl
def CloResPart (xs : List Value) (n : Nat) (w : World) (e : Ending) (w' : World) : Prop := ∃ S c, e = .returned (.slice S n c) ∧ w'.ownsRow w.heap.size 25 7 (.slice S n c) n xs ∧ Below w.heap.size w w'
set_option maxRecDepth 100000 in
set_option maxHeartbeats 1000000 in
theorem Clone_Part (A : Option Addr) (n c B : Nat) (xs : List Value) (w : World) (hx : Sl w B 7 A n xs) (hB : B ≤ w.heap.size) (h1x : ∀ u ∈ xs, u.oneCell' = true) (hn : n ≤ 1000000000) :
    Calls Tryz.prog 139 #[.slice A n c] w (CloResPart xs n w) := by
  obtain ⟨i0, hi, hz0, hz1, hz2⟩ := info_parts cloInfoPart
  have hnil : ∀ (w : World) (a : Option Addr) (n c n' c' : Nat), (binOp .eql 23 (.slice a n c) (.slice none n' c')).run Tryz.prog w = .ok (.bool a.isNone) w := fun w a n c n' c' => Lib.run_eql_slice_nil w _ _ a n c n' c' Tryz.underlying23
  cases A with
  | none =>
    have hn0 : n = 0 := by
      rcases Nat.eq_zero_or_pos n with h | h
      · exact h
      · obtain ⟨_, _, h', _⟩ := hx.2 h; cases h'
    subst hn0
    have hx0 : xs = [] := List.eq_nil_of_length_eq_zero (by simpa using hx.1)
    subst hx0
    clear hx h1x
    go_enter Tryz.func139, Tryz.ntmps139
    go_wp2_with fail
    go_ret
    exact ⟨none, 0, rfl, World.ownsRow_nil _ _ _ _, Below.refl _ _⟩
  | some a =>
    have hW : Below w.heap.size w (w.alloc (.cells #[] 25)) := (Below.refl _ w).alloc (Nat.le_refl _) _
    have hxW := hx.belowN hW hB
    have hown := World.ownsRow_made (base := w.heap.size) (e := 25) (size := 7) w #[] 0 (Nat.le_refl _) (Nat.zero_le _) rfl
    have H1 := Lib.hid h1x
    have h63 : 0 + n ≤ maxLen := by unfold maxLen; omega
    have h47 : (0 + n) * 120 ≤ 140737488355328 := by omega
    clear hx h1x
    go_enter Tryz.func139, Tryz.ntmps139
    go_wp2_with (at_builtin; refine wpList_app rfl _ _ 23 rfl w.heap.size 25 i0 (Value.agg #[.string ⟨#[]⟩, .string ⟨#[]⟩, .string ⟨#[]⟩, .string ⟨#[]⟩, .int .i64 0, .slice none 0 0, .slice none 0 0]) 7 120 Tryz.underlying23 hi hz0 hz1 hz2 rfl (by decide) _ 0 0 [] rfl hown _ (some a) n c xs rfl hxW H1.out h63 h47 hW.size ?_)
    intro S' c' w4 hown4 hb4 _
    go_wp2_with fail
    go_ret
    refine ⟨S', c', by simp, ?_, hW.trans hb4⟩
    simpa using hown4
end Go.Proofs.YtlbdnohnngkapaaGreatDoor

namespace Go.Proofs.YtlbdnohnngkapaaGreatDoor
open Go.RowKit

theorem cloInfobyte : (Tryz.prog.info? 5).map (fun i => (i.zero, i.size, i.bytes)) = some (some (Value.int .u8 0), 1, 1) := by kernel_rfl
def CloResbyte (xs : List Value) (n : Nat) (w : World) (e : Ending) (w' : World) : Prop := ∃ S c, e = .returned (.slice S n c) ∧ w'.ownsRow w.heap.size 5 1 (.slice S n c) n xs ∧ Below w.heap.size w w'
set_option maxRecDepth 100000 in
set_option maxHeartbeats 1000000 in
theorem Clone_byte (A : Option Addr) (n c B : Nat) (xs : List Value) (w : World) (hx : Sl w B 1 A n xs) (hB : B ≤ w.heap.size) (h1x : ∀ u ∈ xs, u.oneCell' = true) (hn : n ≤ 1000000000) :
    Calls Tryz.prog 67 #[.slice A n c] w (CloResbyte xs n w) := by
  obtain ⟨i0, hi, hz0, hz1, hz2⟩ := info_parts cloInfobyte
  have hnil : ∀ (w : World) (a : Option Addr) (n c n' c' : Nat), (binOp .eql 22 (.slice a n c) (.slice none n' c')).run Tryz.prog w = .ok (.bool a.isNone) w := fun w a n c n' c' => Lib.run_eql_slice_nil w _ _ a n c n' c' Tryz.underlying22
  cases A with
  | none =>
    have hn0 : n = 0 := by
      rcases Nat.eq_zero_or_pos n with h | h
      · exact h
      · obtain ⟨_, _, h', _⟩ := hx.2 h; cases h'
    subst hn0
    have hx0 : xs = [] := List.eq_nil_of_length_eq_zero (by simpa using hx.1)
    subst hx0
    clear hx h1x
    go_enter Tryz.func67, Tryz.ntmps67
    go_wp2_with fail
    go_ret
    exact ⟨none, 0, rfl, World.ownsRow_nil _ _ _ _, Below.refl _ _⟩
  | some a =>
    have hW : Below w.heap.size w (w.alloc (.cells #[] 5)) := (Below.refl _ w).alloc (Nat.le_refl _) _
    have hxW := hx.belowN hW hB
    have hown := World.ownsRow_made (base := w.heap.size) (e := 5) (size := 1) w #[] 0 (Nat.le_refl _) (Nat.zero_le _) rfl
    have H1 := Lib.hid h1x
    have h63 : 0 + n ≤ maxLen := by unfold maxLen; omega
    have h47 : (0 + n) * 1 ≤ 140737488355328 := by omega
    clear hx h1x
    go_enter Tryz.func67, Tryz.ntmps67
    go_wp2_with (at_builtin; refine wpList_app rfl _ _ 22 rfl w.heap.size 5 i0 (Value.int .u8 0) 1 1 Tryz.underlying22 hi hz0 hz1 hz2 rfl (by decide) _ 0 0 [] rfl hown _ (some a) n c xs rfl hxW H1.out h63 h47 hW.size ?_)
    intro S' c' w4 hown4 hb4 _
    go_wp2_with fail
    go_ret
    refine ⟨S', c', by simp, ?_, hW.trans hb4⟩
    simpa using hown4
end Go.Proofs.YtlbdnohnngkapaaGreatDoor

namespace Go.Proofs.YtlbdnohnngkapaaGreatDoor
open Go.RowKit

def CopyRes (p : PartD) (w : World) (e : Ending) (w' : World) : Prop :=
  ∃ v : List Value, e = .returned (.agg v.toArray) ∧ PartAt (fun b => w.heap.size ≤ b ∧ b < w'.heap.size) w' p v ∧ Below w.heap.size w w'
/-- Memory that the copy made: behind its two boxes, but for the row of its parts. -/
def NewS (B : Nat) (row : Option Nat) (w : World) (b : Nat) : Prop := B ≤ b ∧ b < w.heap.size ∧ row ≠ some b
def CopyRel (p : PartD) (rows : List (List Value)) (n2 h : Nat) (S1 S2 : Option Addr) (d1 d2 : Nat) (w0 : World) (iv : Value) (wr : World) : Prop :=
  ∃ i done, iv = .int .i64 (i : Nat) ∧ i ≤ n2 ∧ done.length = i ∧ wr.ownsRow (h + 2) 25 7 (.slice S2 n2 d2) n2 (done ++ rows.drop i).flatten ∧
    PartsAt (NewS (h + 2) (Value.ownBlock (.slice S2 n2 d2)) wr) wr (p.parts.take i) done ∧ SlS (NewS (h + 2) (Value.ownBlock (.slice S2 n2 d2)) wr) wr 1 S1 p.body.length (Lib.byteCells p.body) ∧
    BoxF wr h (str p.type) (str p.cs) (str p.id) (str p.loc) (.int .i64 p.how) (.slice S1 p.body.length d1) (.slice S2 n2 d2) ∧
    (∃ v0 v1 v2 v3 v4 v5 v6, BoxF wr (h + 1) v0 v1 v2 v3 v4 v5 v6) ∧ Below h w0 wr ∧ h + 2 ≤ wr.heap.size
set_option maxRecDepth 100000 in
set_option maxHeartbeats 4000000 in
theorem Copy_any (k : Nat) : ∀ (p : PartD) (v : List Value) (w : World), (flatD p).length ≤ k → k ≤ 1000 → (∀ q ∈ flatD p, q.body.length ≤ 4000) → PartAt (· < w.heap.size) w p v →
    Calls Tryz.prog 69 #[.agg v.toArray] w (CopyRes p w) := by
  induction k with
  | zero => intro p v w h; rw [flatD_eq] at h; simp at h
  | succ k ih =>
    intro p v w hk hk1 hbod hp
    obtain ⟨A, c, A2, c2, rfl, hbds, hby, hnc, hcm, hP, hc2, hcm2⟩ := hp.open
    obtain ⟨W, hW⟩ : ∃ W, W = (w.alloc (.cells #[str p.type, str p.cs, str p.id, str p.loc, .int .i64 p.how, .slice A p.body.length c, .slice A2 p.parts.length c2] 25)).alloc (.cells #[.string ⟨#[]⟩, .string ⟨#[]⟩, .string ⟨#[]⟩, .string ⟨#[]⟩, .int .i64 0, .slice none 0 0, .slice none 0 0] 25) := ⟨_, rfl⟩
    have hbW : Below w.heap.size w W := by rw [hW]; exact ((Below.refl _ w).alloc (Nat.le_refl _) _).alloc (by simp) _
    have hsW : W.heap.size = w.heap.size + 2 := by rw [hW]; simp
    have hx1 : BoxF W w.heap.size (str p.type) (str p.cs) (str p.id) (str p.loc) (.int .i64 p.how) (.slice A p.body.length c) (.slice A2 p.parts.length c2) := by
      refine BoxF.of_block (t := 25) ?_
      rw [hW, Lib.alloc_old _ _ _ (by simp)]
      exact heap_alloc_new w _
    have hx2 : BoxF W (w.heap.size + 1) (.string ⟨#[]⟩) (.string ⟨#[]⟩) (.string ⟨#[]⟩) (.string ⟨#[]⟩) (.int .i64 0) (.slice none 0 0) (.slice none 0 0) := by
      refine BoxF.of_block (t := 25) ?_
      rw [hW]
      have := heap_alloc_new (w.alloc (.cells #[str p.type, str p.cs, str p.id, str p.loc, .int .i64 p.how, .slice A p.body.length c, .slice A2 p.parts.length c2] 25)) (.cells #[.string ⟨#[]⟩, .string ⟨#[]⟩, .string ⟨#[]⟩, .string ⟨#[]⟩, .int .i64 0, .slice none 0 0, .slice none 0 0] 25)
      simpa using this
    have hnb : p.body.length ≤ 1000000000 := by have := hbod p (by rw [flatD_eq]; simp); omega
    have hfl : (flatsD p.parts).length ≤ k := by rw [flatD_eq, List.length_cons] at hk; omega
    have hnp : p.parts.length ≤ 1000000000 := by have := flatsD_len p.parts; omega
    obtain ⟨rows, hrs, hrp⟩ := hP
    have hc1 : ∀ W', Below w.heap.size w W' → Calls Tryz.prog 67 #[.slice A p.body.length c] W' (CloResbyte (Lib.byteCells p.body) p.body.length W') :=
      fun W' hb => Clone_byte A _ c w.heap.size _ W' (Sl.below hby hb) hb.size (oneCell_byteCells _) hnb
    have hc2 : ∀ W', Below w.heap.size w W' → Calls Tryz.prog 139 #[.slice A2 p.parts.length c2] W' (CloResPart rows.flatten p.parts.length W') :=
      fun W' hb => Clone_Part A2 _ c2 w.heap.size _ W' (Sl.below hrs hb) hb.size (PartsAt.one _ _ hrp) hnp
    have Hc1 := Lib.hid hc1
    have Hc2 := Lib.hid hc2
    have Hx1 := Lib.hid (show BoxF W.drew _ _ _ _ _ _ _ _ from hx1)
    have Hx2 := Lib.hid (show BoxF W.drew _ _ _ _ _ _ _ _ from hx2)
    have HsW := Lib.hid hsW
    have hszW : w.heap.size + 2 ≤ W.drew.heap.size := by show _ ≤ W.heap.size; omega
    have Hby := Lib.hid hby
    have Hrs := Lib.hid hrs
    have Hrp := Lib.hid hrp
    have Hih := Lib.hid ih
    have Hbod := Lib.hid hbod
    clear hc1 hc2 hsW hx2 hby hrs hrp ih hbod hp
    obtain ⟨⟨x0, x1, x2, x3, x4, x5, x6⟩, hf⟩ := hx1
    go_enter Tryz.func69, Tryz.ntmps69
    go_wp2_with fail
    rw [← hW]
    clear hW
    go_region_with (first
      | (go_at_call 67; refine (Hc1.out _ hbW.drew).mono ?_; rintro e w1 ⟨S1, d1, rfl, hown1, hb1⟩; have hbel1 := hbW.drew.trans (hb1.mono hbW.drew.size); have hB1 := hb1.mono hszW; obtain ⟨⟨y0, y1, y2, y3, y4, y5, y6⟩, yf⟩ := Hx1.out.below hB1 (by omega))
      | (go_at_call 139; refine (Hc2.out _ hbel1).mono ?_; rintro e w2 ⟨S2, d2, rfl, hown2, hb2⟩; have hbel2 := hbel1.trans (hb2.mono hbel1.size); have hB2 := hB1.trans (hb2.mono (Nat.le_trans hszW hb1.size)); obtain ⟨⟨z0, z1, z2, z3, z4, z5, z6⟩, zf⟩ := Hx1.out.below hB2 (by omega)))
    all_goals
      generalize hW3 : (w2.setCell ⟨w.heap.size, 5, none⟩ (Value.slice S1 p.body.length d1)).setCell ⟨w.heap.size, 6, none⟩ (Value.slice S2 p.parts.length d2) = w3
      have hrel0 : CopyRel p rows p.parts.length w.heap.size S1 S2 d1 d2 w (.int .i64 0) w3 := by
        have hne : Value.ownBlock (.slice S2 p.parts.length d2) ≠ some w.heap.size := fun e => by have := (hown2.lt _ e).1; have := hb1.size; omega
        have hsz3 : w3.heap.size = w2.heap.size := by rw [← hW3]; simp
        have hz1 := hb1.size
        have hz2 := hb2.size
        refine ⟨0, [], rfl, Nat.zero_le _, rfl, ?_, rfl, ?_, ?_, ?_, ?_, by omega⟩
        · rw [← hW3]
          exact own_setFar (own_setFar (own_base hown2 (by omega)) hne _) hne _
        · refine SlS.change (own_sls hown1) (fun b hb => ⟨Nat.le_trans hszW hb.1, by have := hb.2; omega, fun e => ?_⟩) (fun a ha => ?_)
          · have := (hown2.lt _ e).1
            have := hb.2
            omega
          · rw [← hW3]
            have h1 := ha.1
            rw [World.cell?_setCell_other _ _ _ _ (by rintro rfl; have h1' : w.heap.size + 2 ≤ w.heap.size := Nat.le_trans hszW h1; omega), World.cell?_setCell_other _ _ _ _ (by rintro rfl; have h1' : w.heap.size + 2 ≤ w.heap.size := Nat.le_trans hszW h1; omega)]
            exact hb2.cell ha.2
        · rw [← hW3]
          exact BoxF.set56 (Hx1.out.below hB2 (by omega)) _ _
        · rw [← hW3]
          exact ⟨_, _, _, _, _, _, _, ((Hx2.out.below hB2 (by omega)).setFar (by simp) _).setFar (by simp) _⟩
        · rw [← hW3]
          exact (hbel2.setCell (Nat.le_refl _) _).setCell (Nat.le_refl _) _
      have hdd : p.body.length ≤ d1 ∧ d1 ≤ maxLen ∧ p.parts.length ≤ d2 ∧ d2 ≤ maxLen := ⟨own_cap hown1, own_capmax hown1, own_cap hown2, own_capmax hown2⟩
      have Hdd := Lib.hid hdd
      have Hrel0 := Lib.hid hrel0
      have hx6 : w3.cell? ⟨w.heap.size, 6, none⟩ = some (.slice S2 p.parts.length d2) := by
        obtain ⟨i, done, _, _, _, _, _, _, hbx, _⟩ := hrel0
        exact hbx.1.2.2.2.2.2.2
      clear hW3 hrel0 hdd hown1 hown2 y0 y1 y2 y3 y4 y5 y6 yf z0 z1 z2 z3 z4 z5 z6 zf x0 x1 x2 x3 x4 x5 x6 hf
      clear hb1 hb2 hbel1 hbel2 hB1 hB2
      go_wp2_with fail
      go_loopw [16] (CopyRel p rows p.parts.length w.heap.size S1 S2 d1 d2 w) (fun iv _ => p.parts.length - (intOf iv).toNat)
      case atStart => exact Hrel0.out
      case round =>
        obtain ⟨i, done, rfl, hi, hdl, hown, hpd, hs1, hbx, hb1x, hbel, hsz⟩ := hrel
        by_cases hin : i < p.parts.length
        · obtain ⟨g, cap, hv, hgb, hgl⟩ := hown.form (by omega)
          injection hv with hS2 _ hcap
          subst hS2
          subst hcap
          obtain ⟨r, hr, hpr⟩ := PartsAt.get _ _ Hrp.out i hin
          have hri : i < rows.length := by rw [PartsAt.len _ _ Hrp.out]; exact hin
          have hrd : rows.drop i = r :: rows.drop (i + 1) := by
            rw [List.drop_eq_getElem_cons hri]
            rw [List.getElem?_eq_getElem hri] at hr
            injection hr with hr
            rw [hr]
          have hpd7 := PartsAt.rows _ _ hpd
          have hrw7 : ∀ x ∈ done ++ rows.drop i, x.length = 7 := by
            intro x hx
            rcases List.mem_append.1 hx with hx | hx
            · exact hpd7 x hx
            · exact PartsAt.rows _ _ Hrp.out x (List.mem_of_mem_drop hx)
          have hcell : ∀ k u, k < 7 → r[k]? = some u → wr.cell? ⟨g, i * 7 + k, none⟩ = some u := by
            intro k u hk hu
            rw [hown.cellAt _ (by omega), flat7_at _ hrw7 i k r ?_ hk]
            · exact hu
            · rw [List.getElem?_append_right (by omega), hdl, Nat.sub_self, hrd]; rfl
          generalize hq : p.parts[i] = q at hpr
          obtain ⟨A', c', A2', c2', rfl, _⟩ := hpr.open
          have q0 := hcell 0 _ (by omega) rfl
          have q1 := hcell 1 _ (by omega) rfl
          have q2 := hcell 2 _ (by omega) rfl
          have q3 := hcell 3 _ (by omega) rfl
          have q4 := hcell 4 _ (by omega) rfl
          have q5 := hcell 5 _ (by omega) rfl
          have q6 := hcell 6 _ (by omega) rfl
          simp only [Nat.add_zero] at q0
          obtain ⟨W5, hW5⟩ : ∃ W5, W5 = wr.alloc (.cells #[str q.type, str q.cs, str q.id, str q.loc, .int .i64 q.how, .slice A' q.body.length c', .slice A2' q.parts.length c2'] 25) := ⟨_, rfl⟩
          have hbA : Below wr.heap.size wr W5 := by rw [hW5]; exact (Below.refl _ wr).alloc (Nat.le_refl _) _
          have hbel5 : Below w.heap.size w W5 := hbel.trans (hbA.mono hbel.size)
          have hbx5 : BoxF W5 w.heap.size _ _ _ _ _ _ _ := hbx.below hbA (by omega)
          have hk5 : BoxF W5 wr.heap.size (str q.type) (str q.cs) (str q.id) (str q.loc) (.int .i64 q.how) (.slice A' q.body.length c') (.slice A2' q.parts.length c2') := by
            refine BoxF.of_block (t := 25) ?_
            rw [hW5]; exact heap_alloc_new wr _
          have hs5 : W5.heap.size = wr.heap.size + 1 := by rw [hW5]; simp
          have hr5 : Row7 W5.drew g (i * 7) (str q.type) (str q.cs) (str q.id) (str q.loc) (.int .i64 q.how) (.slice A' q.body.length c') (.slice A2' q.parts.length c2') := Row7.below (w := wr) ⟨q0, q1, q2, q3, q4, q5, q6⟩ hbA.drew hgl
          have Hr5 := Lib.hid hr5
          have hgl5 : g < W5.drew.heap.size := by show g < W5.heap.size; omega
          have Hbx5 := Lib.hid (show BoxF W5.drew _ _ _ _ _ _ _ _ from hbx5)
          have hh5 : w.heap.size < W5.drew.heap.size := by show w.heap.size < W5.heap.size; omega
          obtain ⟨⟨_, _, _, _, _, _, x6⟩, _⟩ := hbx5
          obtain ⟨⟨k0, k1, k2, k3, k4, k5, k6⟩, _⟩ := hk5
          have hflq : (flatD q).length ≤ k ∧ ∀ x ∈ flatD q, x.body.length ≤ 4000 := by
            have h1 := flatsD_get p.parts i hin
            rw [hq] at h1
            exact ⟨by omega, fun x hx => Hbod.out x (by rw [flatD_eq]; exact List.mem_cons_of_mem _ (h1.2 x hx))⟩
          have hcl := Hih.out q _ W5.drew hflq.1 (by omega) hflq.2 ((hpr.belowN (w' := W5.drew) hbel5.drew (Nat.le_refl _)).more hbel5.size)
          have hown5 := own_below hown hbA
          have Hcl := Lib.hid hcl
          have Hown := Lib.hid hown5
          have Hq := Lib.hid hq
          have Hpd := Lib.hid hpd
          have Hs1 := Lib.hid hs1
          have Hbx := Lib.hid hbx
          have Hb1x := Lib.hid hb1x
          have Hdl := Lib.hid hdl
          have Hs5 := Lib.hid hs5
          have Hrd := Lib.hid hrd
          have Hpd7 := Lib.hid hpd7
          have hin1 : (i : Int) < p.parts.length := by omega
          have hin0 : 0 ≤ (i : Int) := by omega
          clear hr5 hcl hown5 hown hq hpd hs1 hbx hb1x hdl hs5 hrd hrw7 hpd7 hcell hr hri hpr hflq
          go_wp2_with fail
          rw [← hW5]
          clear hW5 q0 q1 q2 q3 q4 q5 q6
          go_region_with (first
            | (go_at_call 69; refine Hcl.out.mono ?_; rintro e w6 ⟨v6, rfl, hpv, hb6⟩; obtain ⟨A6, d6, A7, d7, rfl, _⟩ := hpv.open; have hown6 := own_below (show World.ownsRow W5.drew _ _ _ _ _ _ from Hown.out) hb6; have f6 : ∀ j, w6.frozen? ⟨g, j, none⟩ = false := fun j => hown6.frozenAt j; obtain ⟨c0, c1, c2, c3, c4, c5, c6⟩ := Hr5.out.below hb6 hgl5; obtain ⟨⟨_, _, _, _, _, _, y6⟩, _⟩ := Hbx5.out.below hb6 hh5; have Hown6 := Lib.hid hown6; have Hpv := Lib.hid hpv; clear hown6 hpv))
          all_goals
            generalize hW7 : (((((((w6.setCell ⟨g, i * 7, none⟩ (str q.type)).setCell ⟨g, i * 7 + 1, none⟩ (str q.cs)).setCell ⟨g, i * 7 + 2, none⟩ (str q.id)).setCell ⟨g, i * 7 + 3, none⟩ (str q.loc)).setCell ⟨g, i * 7 + 4, none⟩ (.int .i64 q.how)).setCell ⟨g, i * 7 + 5, none⟩ (.slice A6 q.body.length d6)).setCell ⟨g, i * 7 + 6, none⟩ (.slice A7 q.parts.length d7)) = w7
            have HW7 := Lib.hid hW7
            clear hW7
            go_wp2_with fail
            refine ⟨?_, by simp [intOf]; omega⟩
            have hs5 := Hs5.out
            have hb65 : Below W5.heap.size W5 w6 := ⟨hb6.os, hb6.tape, hb6.output, hb6.size, hb6.block⟩
            have hgb6 : W5.heap.size ≤ w6.heap.size := hb65.size
            have hbr6 : Below wr.heap.size wr w6 := hbA.trans (hb65.mono hbA.size)
            have hd7 := Hpd7.out
            have hown7 := own_set7 (g := g) (i := i) (done := done) (rest := rows.drop (i + 1)) (by have := Hown6.out; rw [Hrd.out] at this; exact this) hd7 Hdl.out (str q.type) (str q.cs) (str q.id) (str q.loc) (.int .i64 q.how) (.slice A6 q.body.length d6) (.slice A7 q.parts.length d7)
            rw [HW7.out] at hown7
            have hsz7 : w7.heap.size = w6.heap.size := by rw [← HW7.out]; simp
            have far7 : ∀ a : Addr, a.block ≠ g → w7.cell? a = w6.cell? a := fun a ha => by rw [← HW7.out]; exact set7_far _ _ _ _ _ _ _ ha
            have old7 : ∀ a : Addr, NewS (w.heap.size + 2) (Value.ownBlock (.slice (some ⟨g, 0, none⟩) p.parts.length d2)) wr a.block → w7.cell? a = wr.cell? a := fun a ha => by
              rw [far7 a (fun e => ha.2.2 (by rw [e]; rfl))]; exact hbr6.cell ha.2.1
            have in7 : ∀ b, NewS (w.heap.size + 2) (Value.ownBlock (.slice (some ⟨g, 0, none⟩) p.parts.length d2)) wr b → NewS (w.heap.size + 2) (Value.ownBlock (.slice (some ⟨g, 0, none⟩) p.parts.length d2)) w7 b := fun b hb => ⟨hb.1, by have := hb.2.1; omega, hb.2.2⟩
            refine ⟨i + 1, done ++ [[str q.type, str q.cs, str q.id, str q.loc, .int .i64 q.how, .slice A6 q.body.length d6, .slice A7 q.parts.length d7]], by go_num, by omega, by simp [Hdl.out], by rw [List.append_assoc]; exact hown7, ?_, ?_, ?_, ?_, ?_, by omega⟩
            · have ht : p.parts.take (i + 1) = p.parts.take i ++ [q] := by rw [List.take_succ_eq_append_getElem hin, Hq.out]
              rw [ht]
              refine PartsAt.app _ _ _ _ (PartsAt.change in7 old7 _ _ Hpd.out) ⟨_, _, rfl, PartAt.change ?_ ?_ _ _ Hpv.out, rfl⟩
              · intro b hb
                have h1 : W5.heap.size ≤ b := hb.1
                have h2 := hb.2
                refine ⟨by omega, by omega, fun e => ?_⟩
                have : g = b := Option.some.inj e
                omega
              · intro a ha
                have h1 : W5.heap.size ≤ a.block := ha.1
                exact far7 a (by omega)
            · exact SlS.change Hs1.out in7 old7
            · have h1 := Hbx5.out.below hb6 hh5
              rw [← HW7.out]
              exact ((((((h1.setFar (by simp; omega) _).setFar (by simp; omega) _).setFar (by simp; omega) _).setFar (by simp; omega) _).setFar (by simp; omega) _).setFar (by simp; omega) _).setFar (by simp; omega) _
            · obtain ⟨v0, v1, v2, v3, v4, v5, v6, hbr⟩ := Hb1x.out
              have h1 := hbr.below hbr6 (by omega)
              rw [← HW7.out]
              exact ⟨_, _, _, _, _, _, _, ((((((h1.setFar (by simp; omega) _).setFar (by simp; omega) _).setFar (by simp; omega) _).setFar (by simp; omega) _).setFar (by simp; omega) _).setFar (by simp; omega) _).setFar (by simp; omega) _⟩
            · rw [← HW7.out]
              exact set7_below (hbel5.trans (hb65.mono hbel5.size)) (by omega) _ _ _ _ _ _ _
        · obtain rfl : i = p.parts.length := by omega
          obtain ⟨⟨x0, x1, x2, x3, x4, x5, x6⟩, _⟩ := id hbx
          obtain ⟨r0, r1, r2, r3, r4, r5, r6, ⟨y0, y1, y2, y3, y4, y5, y6⟩, yf⟩ := hb1x
          have hdr : rows.drop p.parts.length = [] := List.drop_of_length_le (by rw [PartsAt.len _ _ Hrp.out]; exact Nat.le_refl _)
          rw [hdr, List.append_nil] at hown
          rw [List.take_length] at hpd
          have Hown := Lib.hid hown
          have Hpd := Lib.hid hpd
          have Hs1 := Lib.hid hs1
          have Hdl := Lib.hid hdl
          clear hown hpd hs1 hdl hdr
          go_wp2_with fail
          have hbx9 := BoxF.set7 (w := wr) (b := w.heap.size + 1) ⟨⟨y0, y1, y2, y3, y4, y5, y6⟩, yf⟩ (str p.type) (str p.cs) (str p.id) (str p.loc) (.int .i64 p.how) (.slice S1 p.body.length d1) (.slice S2 p.parts.length d2)
          have far9 : ∀ a : Addr, a.block ≠ w.heap.size + 1 → (((((((wr.setCell ⟨w.heap.size + 1, 0, none⟩ (str p.type)).setCell ⟨w.heap.size + 1, 1, none⟩ (str p.cs)).setCell ⟨w.heap.size + 1, 2, none⟩ (str p.id)).setCell ⟨w.heap.size + 1, 3, none⟩ (str p.loc)).setCell ⟨w.heap.size + 1, 4, none⟩ (.int .i64 p.how)).setCell ⟨w.heap.size + 1, 5, none⟩ (.slice S1 p.body.length d1)).setCell ⟨w.heap.size + 1, 6, none⟩ (.slice S2 p.parts.length d2)).cell? a = wr.cell? a := by
            intro a ha
            have h : ∀ (w' : World) k u, (w'.setCell ⟨w.heap.size + 1, k, none⟩ u).cell? a = w'.cell? a := fun w' k u => World.cell?_setCell_other _ _ _ _ (by rintro rfl; exact ha rfl)
            rw [h, h, h, h, h, h, h]
          have hbel9 : Below w.heap.size w (((((((wr.setCell ⟨w.heap.size + 1, 0, none⟩ (str p.type)).setCell ⟨w.heap.size + 1, 1, none⟩ (str p.cs)).setCell ⟨w.heap.size + 1, 2, none⟩ (str p.id)).setCell ⟨w.heap.size + 1, 3, none⟩ (str p.loc)).setCell ⟨w.heap.size + 1, 4, none⟩ (.int .i64 p.how)).setCell ⟨w.heap.size + 1, 5, none⟩ (.slice S1 p.body.length d1)).setCell ⟨w.heap.size + 1, 6, none⟩ (.slice S2 p.parts.length d2)) :=
            ((((((hbel.setCell (Nat.le_succ _) _).setCell (Nat.le_succ _) _).setCell (Nat.le_succ _) _).setCell (Nat.le_succ _) _).setCell (Nat.le_succ _) _).setCell (Nat.le_succ _) _).setCell (Nat.le_succ _) _
          have hsz9 : (((((((wr.setCell ⟨w.heap.size + 1, 0, none⟩ (str p.type)).setCell ⟨w.heap.size + 1, 1, none⟩ (str p.cs)).setCell ⟨w.heap.size + 1, 2, none⟩ (str p.id)).setCell ⟨w.heap.size + 1, 3, none⟩ (str p.loc)).setCell ⟨w.heap.size + 1, 4, none⟩ (.int .i64 p.how)).setCell ⟨w.heap.size + 1, 5, none⟩ (.slice S1 p.body.length d1)).setCell ⟨w.heap.size + 1, 6, none⟩ (.slice S2 p.parts.length d2)).heap.size = wr.heap.size := by simp
          generalize (((((((wr.setCell ⟨w.heap.size + 1, 0, none⟩ (str p.type)).setCell ⟨w.heap.size + 1, 1, none⟩ (str p.cs)).setCell ⟨w.heap.size + 1, 2, none⟩ (str p.id)).setCell ⟨w.heap.size + 1, 3, none⟩ (str p.loc)).setCell ⟨w.heap.size + 1, 4, none⟩ (.int .i64 p.how)).setCell ⟨w.heap.size + 1, 5, none⟩ (.slice S1 p.body.length d1)).setCell ⟨w.heap.size + 1, 6, none⟩ (.slice S2 p.parts.length d2)) = w9 at hbx9 far9 hbel9 hsz9 ⊢
          obtain ⟨c0, c1, c2, c3, c4, c5, c6⟩ := hbx9
          refine bodyPost_ret (v := .agg #[str p.type, str p.cs, str p.id, str p.loc, .int .i64 p.how, .slice S1 p.body.length d1, .slice S2 p.parts.length d2]) (by simp [results, Tryz.results69, go_sem, c0, c1, c2, c3, c4, c5, c6]) rfl ?_
          have inN : ∀ b, NewS (w.heap.size + 2) (Value.ownBlock (.slice S2 p.parts.length d2)) wr b → w.heap.size ≤ b ∧ b < w9.heap.size := fun b hb => ⟨by have := hb.1; omega, by have := hb.2.1; omega⟩
          have oldN : ∀ a : Addr, NewS (w.heap.size + 2) (Value.ownBlock (.slice S2 p.parts.length d2)) wr a.block → w9.cell? a = wr.cell? a := fun a ha => far9 a (by have := ha.1; omega)
          have hrw := SlS.change (own_sls Hown.out) (S' := fun b => w.heap.size ≤ b ∧ b < w9.heap.size) (w' := w9) (fun b hb => ⟨by have := hb.1; omega, by have := hb.2; omega⟩) (fun a ha => far9 a (by have := ha.1; omega))
          have hpp := PartsAt.change inN oldN _ _ Hpd.out
          have hss := SlS.change Hs1.out inN oldN
          obtain ⟨hb1, hb2, hb3, hb4, hb5, hb6⟩ := hbds
          have hbnd : p.body.length ≤ d1 ∧ d1 ≤ maxLen ∧ p.parts.length ≤ d2 ∧ d2 ≤ maxLen := Hdd.out
          refine ⟨_, rfl, ?_, hbel9⟩
          obtain ⟨t, cs, id, loc, how, body, parts⟩ := p
          exact ⟨S1, _, d1, S2, _, d2, done, rfl, ⟨hb1, hb2, hb3, hb4, hb5, hb6⟩, hss, hbnd.1, hbnd.2.1, hrw, hbnd.2.2.1, hbnd.2.2.2, hpp⟩
end Go.Proofs.YtlbdnohnngkapaaGreatDoor

namespace Go.Proofs.YtlbdnohnngkapaaGreatDoor
open Go.RowKit

/-- What is checked is small. -/
theorem chk_body (q : PartD) (h : chkD q = 0) : q.body.length ≤ 4000 := by
  unfold chkD chkB at h
  split at h
  · cases h
  · split at h
    · cases h
    · split at h
      · cases h
      · rename_i h1; simp at h1; omega
theorem firstErr_all : ∀ (L : List PartD), firstErr L = 0 → ∀ q ∈ L, chkD q = 0
  | [], _ => by simp
  | x :: L, h => by
    unfold firstErr at h
    split at h
    · rename_i h0
      intro q hq
      rcases List.mem_cons.1 hq with rfl | hq
      · exact h0
      · exact firstErr_all L h q hq
    · rename_i h0; exact absurd h h0
theorem checkD_ok (p : PartD) (h : checkD p = 0) : (flatD p).length ≤ 12 ∧ (∀ q ∈ flatD p, chkD q = 0) := by
  cases hc : cntD 3 p with
  | none => rw [checkD_none p hc] at h; cases h
  | some c =>
    rw [checkD_some p c hc] at h
    have := cntD_flat 3 p c hc
    have := cntD_le 3 p c hc
    exact ⟨by omega, firstErr_all _ h⟩
def bareD (q : PartD) : PartD := { q with parts := [] }
theorem bare_at {S : Nat → Prop} {w : World} {q : PartD} {v0 v1 v2 v3 v4 v5 v6 : Value} (h : PartAt S w q [v0, v1, v2, v3, v4, v5, v6]) : PartAt S w (bareD q) [v0, v1, v2, v3, v4, v5, .slice none 0 0] := by
  obtain ⟨t, cs, id, loc, how, body, parts⟩ := q
  obtain ⟨A, n, c, A2, n2, c2, rows, hv, h1, h2, h3, h4, _⟩ := h
  simp only [List.cons.injEq, and_true] at hv
  obtain ⟨rfl, rfl, rfl, rfl, rfl, rfl, _⟩ := hv
  exact ⟨A, n, c, none, 0, 0, [], rfl, h1, h2, h3, h4, ⟨rfl, fun h => absurd h (by omega)⟩, Nat.le_refl _, Nat.zero_le _, rfl⟩

theorem flat7_set6 (done : List (List Value)) (hd : ∀ r ∈ done, r.length = 7) (r0 r1 r2 r3 r4 r5 r6 u6 : Value) (rest : List (List Value)) :
    (done ++ [r0, r1, r2, r3, r4, r5, r6] :: rest).flatten.set (done.length * 7 + 6) u6 = (done ++ [[r0, r1, r2, r3, r4, r5, u6]] ++ rest).flatten := by
  have hl := flat7_len done hd
  rw [← hl, List.append_assoc]
  simp only [List.flatten_append, List.flatten_cons]
  generalize done.flatten = D
  rw [List.set_append_right _ _ (by omega), Nat.add_sub_cancel_left]
  rfl
/-- What part.All leaves. -/
def AllOut (p : PartD) (w : World) (e : Ending) (w' : World) : Prop :=
  ∃ S c, e = .returned (.tuple #[.slice S (if checkD p = 0 then (flatD p).length else 0) c, .int .i64 (checkD p : Nat)]) ∧ SlP (· < w'.heap.size) w' S (if checkD p = 0 then (flatD p).length else 0) (if checkD p = 0 then (flatD p).map bareD else []) ∧
    (if checkD p = 0 then (flatD p).length else 0) ≤ c ∧ c ≤ maxLen ∧ Below w.heap.size w w'
def AllRel2 (L : List PartD) (B n : Nat) (S : Option Addr) (c : Nat) (w1 : World) (iv : Value) (wr : World) : Prop :=
  ∃ i done rest, iv = .int .i64 (i : Nat) ∧ i ≤ n ∧ done.length = i ∧ wr.ownsRow w1.heap.size 25 7 (.slice S n c) n (done ++ rest).flatten ∧ PartsAt (· < B) wr ((L.take i).map bareD) done ∧ PartsAt (· < B) wr (L.drop i) rest ∧ Below w1.heap.size w1 wr
set_option maxRecDepth 100000 in
set_option maxHeartbeats 2000000 in
theorem All_any (p : PartD) (v : List Value) (w : World) (hp : PartAt (· < w.heap.size) w p v) :
    Calls Tryz.prog 39 #[.agg v.toArray] w (AllOut p w) := by
  have hok := checkD_ok p
  have hck := PCheck_any p v
  obtain ⟨A, c, A2, c2, rfl, _⟩ := hp.open
  obtain ⟨W, hW⟩ : ∃ W, W = w.alloc (.cells #[str p.type, str p.cs, str p.id, str p.loc, .int .i64 p.how, .slice A p.body.length c, .slice A2 p.parts.length c2] 25) := ⟨_, rfl⟩
  have hbW : Below w.heap.size w W := by rw [hW]; exact (Below.refl _ w).alloc (Nat.le_refl _) _
  have hbx : Box7 W w.heap.size (str p.type) (str p.cs) (str p.id) (str p.loc) (.int .i64 p.how) (.slice A p.body.length c) (.slice A2 p.parts.length c2) := by rw [hW]; exact Box7.new w _ _ _ _ _ _ _ _
  have hpW := hp.below hbW
  have hcW := hck W (hpW.more hbW.size)
  unfold AllOut
  generalize checkD p = R at hcW hok ⊢
  obtain ⟨n2, hn2⟩ : ∃ n2, n2 = p.parts.length := ⟨_, rfl⟩
  obtain ⟨n1, hn1⟩ : ∃ n1, n1 = p.body.length := ⟨_, rfl⟩
  have HcW := Lib.hid hcW
  have Hp := Lib.hid hp
  clear hck hcW hpW hp
  by_cases hR : R = 0
  · subst hR
    obtain ⟨hl12, hch⟩ := hok rfl
    have Hch := Lib.hid hch
    simp only [if_true]
    clear hok hch
    go_enter Tryz.func39, Tryz.ntmps39
    go_wp2_with fail
    rw [← hW]
    clear hW
    refine HcW.out.mono ?_
    clear HcW
    rintro e w1 ⟨rfl, hb1⟩
    have hbel1 := hbW.trans (hb1.mono hbW.size)
    have hbx1 := hbx.below hb1
    have ⟨x0, x1, x2, x3, x4, x5, x6⟩ := hbx1
    have hcp := Copy_any 12 p _ w1 hl12 (by omega) (fun q hq => chk_body q (Hch.out q hq)) ((Hp.out.below hbel1).more hbel1.size)
    have Hcp := Lib.hid hcp
    clear hbx hbx1 hcp hb1 hbW
    go_wp2_with fail
    refine Hcp.out.mono ?_
    clear Hcp x0 x1 x2 x3 x4 x5 x6
    rintro e w2 ⟨v2, rfl, hpv, hb2⟩
    have hbel2 := hbel1.trans (hb2.mono hbel1.size)
    have hpv2 : PartAt (· < w2.heap.size) w2 p v2 := PartAt.change (fun b hb => hb.2) (fun _ _ => rfl) _ _ hpv
    have hal := all_any 12 p v2 w2.heap.size w2 hl12 (by omega) (Nat.le_refl _) hpv2
    have Hal := Lib.hid hal
    clear hal hpv hpv2
    go_wp2_with fail
    refine Hal.out.mono ?_
    clear Hal
    generalize hL : flatD p = L
    rintro e w3 ⟨S, c3, rows, rfl, hown, hrows, hb3⟩
    have hbel3 := hbel2.trans (hb3.mono hbel2.size)
    have hn12 : L.length ≤ 12 := by rw [← hL]; exact hl12
    have hc3 := own_cap hown
    have hcm3 := own_capmax hown
    obtain ⟨n, hn⟩ : ∃ n, n = L.length := ⟨_, rfl⟩
    rw [← hn] at hown hn12 hc3 ⊢
    have Hn := Lib.hid hn
    have Hown := Lib.hid hown
    have Hrows := Lib.hid hrows
    have Hcm3 := Lib.hid hcm3
    have HL := Lib.hid hL
    clear hown hrows hL hn hb2 hbel1 hcm3
    go_wp2_with fail
    go_loopw [17] (AllRel2 L w2.heap.size n S c3 w2) (fun iv _ => n - (intOf iv).toNat)
    case atStart => exact ⟨0, [], rows, rfl, Nat.zero_le _, rfl, Hown.out, rfl, Hrows.out, hb3⟩
    case round =>
      obtain ⟨i, done, rest, rfl, hi, hdl, hown, hpd, hpr, hbel⟩ := hrel
      by_cases hin : i < n
      · obtain ⟨g, cap, hv, hgb, hgl⟩ := hown.form (by omega)
        injection hv with hS2 _ hcap
        subst hS2
        subst hcap
        have hiL : i < L.length := by rw [← Hn.out]; exact hin
        rw [List.drop_eq_getElem_cons hiL] at hpr
        obtain ⟨r, rs, rfl, hpq, hprs⟩ := hpr
        have hpd7 := PartsAt.rows _ _ hpd
        have ht : (L.take (i + 1)).map bareD = (L.take i).map bareD ++ [bareD L[i]] := by rw [List.take_succ_eq_append_getElem hiL, List.map_append]; rfl
        generalize L[i] = q at hpq ht
        obtain ⟨A', c', A2', c2', rfl, _⟩ := hpq.open
        have hrw7 : ∀ x ∈ done ++ [str q.type, str q.cs, str q.id, str q.loc, .int .i64 q.how, .slice A' q.body.length c', .slice A2' q.parts.length c2'] :: rs, x.length = 7 := by
          intro x hx
          rcases List.mem_append.1 hx with hx | hx
          · exact hpd7 x hx
          · rcases List.mem_cons.1 hx with rfl | hx
            · rfl
            · exact PartsAt.rows _ _ hprs x hx
        have q6 : wr.cell? ⟨g, i * 7 + 6, none⟩ = some (.slice A2' q.parts.length c2') := by
          rw [hown.cellAt _ (by omega), flat7_at _ hrw7 i 6 _ (by rw [List.getElem?_append_right (by omega), hdl, Nat.sub_self]; rfl) (by omega)]
          rfl
        have f6 : wr.frozen? ⟨g, i * 7 + 6, none⟩ = false := hown.frozenAt _
        have hown7 := (hown.stored (i * 7 + 6) (.slice none 0 0)).1
        have hfs := flat7_set6 done hpd7 (str q.type) (str q.cs) (str q.id) (str q.loc) (.int .i64 q.how) (.slice A' q.body.length c') (.slice A2' q.parts.length c2') (.slice none 0 0) rs
        rw [hdl] at hfs
        rw [hfs] at hown7
        have hbel7 := hbel.setCell (p := ⟨g, i * 7 + 6, none⟩) hgb (.slice none 0 0)
        have far : ∀ a : Addr, a.block < w2.heap.size → (wr.setCell ⟨g, i * 7 + 6, none⟩ (.slice none 0 0)).cell? a = wr.cell? a := fun a ha => World.cell?_setCell_other _ _ _ _ (by rintro rfl; simp at ha; omega)
        have h1 := PartsAt.change (fun _ h => h) far _ _ hpd
        have h2 := PartsAt.change (fun _ h => h) far _ _ hprs
        have h3 := PartAt.change (fun _ h => h) far _ _ (bare_at hpq)
        have Ht := Lib.hid ht
        have Hown7 := Lib.hid hown7
        have Hdl := Lib.hid hdl
        clear hfs hown hpd hpq hprs ht hown7 hdl hrw7
        go_wp2_with fail
        refine ⟨⟨i + 1, done ++ [[str q.type, str q.cs, str q.id, str q.loc, .int .i64 q.how, .slice A' q.body.length c', .slice none 0 0]], rs, by go_num, by omega, by simp [Hdl.out], Hown7.out, ?_, h2, hbel7⟩, by simp [intOf]; omega⟩
        rw [Ht.out]
        exact PartsAt.app _ _ _ _ h1 ⟨_, _, rfl, h3, rfl⟩
      · obtain rfl : i = n := by omega
        have Hown2 := Lib.hid hown
        have Hpd2 := Lib.hid hpd
        have Hpr2 := Lib.hid hpr
        clear hown hpd hpr
        go_wp2_with fail
        go_ret2
        have hn := Hn.out
        subst hn
        have hpr := Hpr2.out
        rw [List.drop_length] at hpr
        obtain rfl : rest = [] := hpr
        have hpd := Hpd2.out
        rw [List.take_length] at hpd
        have hown := Hown2.out
        rw [List.append_nil] at hown
        have hL := HL.out
        subst hL
        exact ⟨S, c3, rfl, ⟨done, Sl.of_own hown, PartsAt.change (fun b hb => Nat.lt_of_lt_of_le hb hbel.size) (fun _ _ => rfl) _ _ hpd⟩, hc3, Hcm3.out, hbel2.trans (hbel.mono hbel2.size)⟩
  · have hR1 : ((R : Int) != 0) = true := by simp; omega
    simp only [if_neg hR]
    clear hok
    go_enter Tryz.func39, Tryz.ntmps39
    go_wp2_with fail
    rw [← hW]
    clear hW
    refine HcW.out.mono ?_
    clear HcW hR
    rintro e w1 ⟨rfl, hb1⟩
    go_wp2_with fail
    go_ret2
    exact ⟨none, 0, rfl, SlP.nil_ _ _ _, Nat.le_refl _, Nat.zero_le _, hbW.trans (hb1.mono hbW.size)⟩
end Go.Proofs.YtlbdnohnngkapaaGreatDoor

namespace Go.Proofs.YtlbdnohnngkapaaGreatDoor

mutual
/-- part.Within, where n numbers stand already: of a part that is in number inn. -/
def wthD : PartD → Nat → Int → List Int
  | ⟨_, _, _, _, _, _, parts⟩, n, inn => inn :: wthsD parts (n + 1) n
def wthsD : List PartD → Nat → Nat → List Int
  | [], _, _ => []
  | p :: ps, n, me => wthD p n (me : Int) ++ wthsD ps (n + (flatD p).length) me
end
mutual
theorem wthD_len : ∀ (p : PartD) (n : Nat) (inn : Int), (wthD p n inn).length = (flatD p).length
  | ⟨t, cs, id, loc, how, body, parts⟩, n, inn => by rw [wthD, flatD, List.length_cons, List.length_cons, wthsD_len parts]
theorem wthsD_len : ∀ (ps : List PartD) (n me : Nat), (wthsD ps n me).length = (flatsD ps).length
  | [], _, _ => by rw [wthsD, flatsD]; rfl
  | p :: ps, n, me => by rw [wthsD, flatsD, List.length_append, List.length_append, wthD_len p, wthsD_len ps]
end
theorem wthD_eq (p : PartD) (n : Nat) (inn : Int) : wthD p n inn = inn :: wthsD p.parts (n + 1) n := by cases p; rw [wthD]

/-- What the numbers say: of a forest whose parts lie from n on, all in number me. -/
theorem wths_facts : ∀ (ps : List PartD) (n me : Nat), me < n →
    (∀ (j : Nat) (x : Int), (wthsD ps n me)[j]? = some x → x = (me : Int) ∨ ((n : Int) ≤ x ∧ x < (n : Int) + j ∧ ∃ q, (flatsD ps)[(x - n).toNat]? = some q ∧ q.parts ≠ [])) ∧
    (∀ (j : Nat) q, (flatsD ps)[j]? = some q → q.parts ≠ [] → ((n + j : Nat) : Int) ∈ wthsD ps n me) ∧ (ps ≠ [] → (me : Int) ∈ wthsD ps n me) := by
  have key : ∀ (k : Nat) (ps : List PartD), (flatsD ps).length ≤ k → ∀ (n me : Nat), me < n →
      (∀ (j : Nat) (x : Int), (wthsD ps n me)[j]? = some x → x = (me : Int) ∨ ((n : Int) ≤ x ∧ x < (n : Int) + j ∧ ∃ q, (flatsD ps)[(x - n).toNat]? = some q ∧ q.parts ≠ [])) ∧
      (∀ (j : Nat) q, (flatsD ps)[j]? = some q → q.parts ≠ [] → ((n + j : Nat) : Int) ∈ wthsD ps n me) ∧ (ps ≠ [] → (me : Int) ∈ wthsD ps n me) := by
    intro k
    induction k with
    | zero =>
      intro ps hk n me hm
      cases ps with
      | nil => simp [wthsD, flatsD]
      | cons p ps => rw [flatsD, flatD_eq] at hk; simp at hk
    | succ k ih =>
      intro ps hk n me hm
      cases ps with
      | nil => simp [wthsD, flatsD]
      | cons p ps =>
        have hfl : (flatsD (p :: ps)).length = 1 + (flatsD p.parts).length + (flatsD ps).length := by
          rw [flatsD, flatD_eq, List.length_append, List.length_cons]; omega
        obtain ⟨a1, a2, a3⟩ := ih p.parts (by omega) (n + 1) n (by omega)
        obtain ⟨b1, b2, b3⟩ := ih ps (by omega) (n + (flatD p).length) me (by omega)
        have hlp : (flatD p).length = 1 + (flatsD p.parts).length := by rw [flatD_eq, List.length_cons]; omega
        have hwl := wthsD_len p.parts (n + 1) n
        have e : wthsD (p :: ps) n me = (me : Int) :: (wthsD p.parts (n + 1) n ++ wthsD ps (n + (flatD p).length) me) := by rw [wthsD, wthD_eq]; rfl
        have f : flatsD (p :: ps) = p :: (flatsD p.parts ++ flatsD ps) := by rw [flatsD, flatD_eq]; rfl
        rw [e, f]
        refine ⟨?_, ?_, fun _ => by simp⟩
        · intro j x hx
          cases j with
          | zero => left; simpa using hx.symm
          | succ j =>
            rw [List.getElem?_cons_succ] at hx
            rcases Nat.lt_or_ge j (wthsD p.parts (n + 1) n).length with h | h
            · rw [List.getElem?_append_left h] at hx
              rcases a1 j x hx with rfl | ⟨h1, h2, q, hq, hqp⟩
              · right
                refine ⟨by omega, by omega, p, by simp, ?_⟩
                intro hp
                rw [hp] at h
                simp [wthsD] at h
              · right
                refine ⟨by omega, by omega, q, ?_, hqp⟩
                have e2 : (x - (n : Int)).toNat = (x - ((n + 1 : Nat) : Int)).toNat + 1 := by omega
                rw [e2, List.getElem?_cons_succ, List.getElem?_append_left]
                · exact hq
                · exact (List.getElem?_eq_some_iff.1 hq).1
            · rw [List.getElem?_append_right h] at hx
              rcases b1 _ x hx with rfl | ⟨h1, h2, q, hq, hqp⟩
              · exact .inl rfl
              · right
                refine ⟨by omega, by omega, q, ?_, hqp⟩
                have e2 : (x - (n : Int)).toNat = (x - ((n + (flatD p).length : Nat) : Int)).toNat + (flatsD p.parts).length + 1 := by omega
                rw [e2, List.getElem?_cons_succ, List.getElem?_append_right (by omega), Nat.add_sub_cancel]
                exact hq
        · intro j q hq hqp
          cases j with
          | zero =>
            simp at hq
            subst hq
            have := a3 hqp
            simp only [Nat.add_zero]
            exact List.mem_cons_of_mem _ (List.mem_append.2 (.inl this))
          | succ j =>
            rw [List.getElem?_cons_succ] at hq
            rcases Nat.lt_or_ge j (flatsD p.parts).length with h | h
            · rw [List.getElem?_append_left h] at hq
              have := a2 j q hq hqp
              rw [show n + (j + 1) = n + 1 + j from by omega]
              exact List.mem_cons_of_mem _ (List.mem_append.2 (.inl this))
            · rw [List.getElem?_append_right h] at hq
              have := b2 _ q hq hqp
              rw [show n + (j + 1) = n + (flatD p).length + (j - (flatsD p.parts).length) from by omega]
              exact List.mem_cons_of_mem _ (List.mem_append.2 (.inr this))
  intro ps n me hm
  exact key _ ps (Nat.le_refl _) n me hm
/-- .. of one part with all in it, the first. -/
theorem wth_facts (p : PartD) :
    (wthD p 0 (-1))[0]? = some (-1) ∧
    (∀ (j : Nat) (x : Int), (wthD p 0 (-1))[j + 1]? = some x → 0 ≤ x ∧ x ≤ j ∧ ∃ q, (flatD p)[x.toNat]? = some q ∧ q.parts ≠ []) ∧
    (∀ (j : Nat) q, (flatD p)[j]? = some q → q.parts ≠ [] → ((j : Nat) : Int) ∈ wthD p 0 (-1)) := by
  obtain ⟨a1, a2, a3⟩ := wths_facts p.parts 1 0 (by omega)
  rw [wthD_eq, flatD_eq]
  refine ⟨rfl, ?_, ?_⟩
  · intro j x hx
    rw [List.getElem?_cons_succ] at hx
    rcases a1 j x hx with rfl | ⟨h1, h2, q, hq, hqp⟩
    · refine ⟨by omega, by omega, p, by simp, ?_⟩
      intro hp
      rw [hp] at hx
      simp [wthsD] at hx
    · refine ⟨by omega, by omega, q, ?_, hqp⟩
      have e2 : x.toNat = (x - ((1 : Nat) : Int)).toNat + 1 := by omega
      rw [e2, List.getElem?_cons_succ]
      exact hq
  · intro j q hq hqp
    cases j with
    | zero => simp at hq; subst hq; exact List.mem_cons_of_mem _ (a3 hqp)
    | succ j =>
      rw [List.getElem?_cons_succ] at hq
      have := a2 j q hq hqp
      rw [show ((j + 1 : Nat) : Int) = ((1 + j : Nat) : Int) from by omega]
      exact List.mem_cons_of_mem _ this
end Go.Proofs.YtlbdnohnngkapaaGreatDoor

namespace Go.Proofs.YtlbdnohnngkapaaGreatDoor
open Go.RowKit

/-- The cells of a list of ints. -/
def iCells (l : List Int) : List Value := l.map fun x => Value.int .i64 x
theorem infoInt2 : (Tryz.prog.info? 3).map (fun i => (i.zero, i.size, i.bytes)) = some (some (.int .i64 0), 1, 8) := by kernel_rfl
theorem iCells_app (a b : List Int) : iCells (a ++ b) = iCells a ++ iCells b := by simp [iCells]
theorem iCells_len (a : List Int) : (iCells a).length = a.length := by simp [iCells]
theorem iCells_one (l : List Int) : ∀ u ∈ iCells l, u.oneCell' = true := by
  intro u hu; simp [iCells] at hu; obtain ⟨x, _, rfl⟩ := hu; rfl

theorem Sl.one2 (w : World) (o : Obj) (t : TypeId) (v : Value) : Sl ((w.alloc o).alloc (.cells #[v] t)) (w.heap.size + 2) 1 (some ⟨w.heap.size + 1, 0, none⟩) 1 [v] := by
  have := Sl.one (w.alloc o) t v
  simpa using this
/-- What the closure of part.Within works on: the list in block b, itself in block b + 1. -/
def WCtx (b : Nat) (w : World) (l : List Int) : Prop :=
  ∃ S m c, w.cell? ⟨b, 0, none⟩ = some (.slice S m c) ∧ w.frozen? ⟨b, 0, none⟩ = false ∧ w.cell? ⟨b + 1, 0, none⟩ = some (.func (.func 104) #[] #[.pointer (some ⟨b, 0, none⟩), .pointer (some ⟨b + 1, 0, none⟩)]) ∧
    w.ownsRow (b + 2) 3 1 (.slice S m c) m (iCells l) ∧ l.length = m ∧ b + 2 ≤ w.heap.size
theorem WCtx.below {b : Nat} {w w' : World} {l : List Int} (h : WCtx b w l) (hb : Below w.heap.size w w') : WCtx b w' l := by
  obtain ⟨S, m, c, h1, h2, h3, h4, h5, h6⟩ := h
  exact ⟨S, m, c, (hb.cell (p := ⟨b, 0, none⟩) (by show b < _; omega)).trans h1, (hb.frozen (p := ⟨b, 0, none⟩) (by show b < _; omega)).trans h2, (hb.cell (p := ⟨b + 1, 0, none⟩) (by show b + 1 < _; omega)).trans h3, own_below h4 hb, h5, Nat.le_trans h6 hb.size⟩
def WRel (b n2 me : Nat) (parts : List PartD) (T : List Int) (w0 : World) (iv : Value) (wr : World) : Prop :=
  ∃ i done, iv = .int .i64 (i : Nat) ∧ i ≤ n2 ∧ WCtx b wr done ∧ Hid (done ++ wthsD (parts.drop i) done.length me = T) ∧ Below b w0 wr
set_option maxRecDepth 100000 in
set_option maxHeartbeats 2000000 in
theorem Within1_any (b : Nat) (k : Nat) : ∀ (p : PartD) (v : List Value) (inn : Int) (l : List Int) (w : World) (B : Nat), (flatD p).length ≤ k → l.length + (flatD p).length ≤ 1000 → -1 ≤ inn → inn ≤ 1000 → B ≤ b → PartAt (· < B) w p v → WCtx b w l →
    Calls Tryz.prog 104 #[.agg v.toArray, .int .i64 inn, .pointer (some ⟨b, 0, none⟩), .pointer (some ⟨b + 1, 0, none⟩)] w
      fun e w' => e = .returned (.tuple #[]) ∧ WCtx b w' (l ++ wthD p l.length inn) ∧ Below b w w' := by
  obtain ⟨i0, hi0, hz0, hz1, hz2⟩ := info_parts infoInt2
  induction k with
  | zero => intro p v inn l w B h; rw [flatD_eq] at h; simp at h
  | succ k ih =>
    intro p v inn l w B hk hk1 hinn1 hinn2 hB hp hctx
    obtain ⟨A, c, A2, c2, rfl, _, _, _, _, hP, hc2, hcm⟩ := hp.open
    obtain ⟨W, hW⟩ : ∃ W, W = w.alloc (.cells #[str p.type, str p.cs, str p.id, str p.loc, .int .i64 p.how, .slice A p.body.length c, .slice A2 p.parts.length c2] 25) := ⟨_, rfl⟩
    have hbW : Below w.heap.size w W := by rw [hW]; exact (Below.refl _ w).alloc (Nat.le_refl _) _
    have hbx : Box7 W w.heap.size (str p.type) (str p.cs) (str p.id) (str p.loc) (.int .i64 p.how) (.slice A p.body.length c) (.slice A2 p.parts.length c2) := by rw [hW]; exact Box7.new w _ _ _ _ _ _ _ _
    have hctxW := hctx.below hbW
    have hszb : b + 2 ≤ w.heap.size := by obtain ⟨_, _, _, _, _, _, _, _, h⟩ := hctx; exact h
    have hbel0 : Below b w W := hbW.mono (by omega)
    obtain ⟨n2, hn2⟩ : ∃ n2, n2 = p.parts.length := ⟨_, rfl⟩
    have hT := wthD_eq p l.length inn
    obtain ⟨T, hTd⟩ : ∃ T, T = l ++ wthD p l.length inn := ⟨_, rfl⟩
    have hTl : T.length = l.length + (flatD p).length := by rw [hTd, List.length_append, wthD_len]
    rw [hT] at hTd
    rw [show l ++ wthD p l.length inn = T from by rw [hT, hTd]]
    have hPW := hP.below (hbW.mono (by omega : B ≤ w.heap.size))
    rw [← hn2] at hPW hc2 hW hbx ⊢
    have HT := Lib.hid hTd
    have HTl := Lib.hid hTl
    have Hn2 := Lib.hid hn2
    have Hih := Lib.hid ih
    have Hk := Lib.hid hk
    have hn2m : n2 ≤ 9223372036854775807 := by unfold maxLen at hcm; omega
    have hl1000 : l.length ≤ 1000 := by omega
    obtain ⟨S, m, cS, y0, yf, y1, hown, hlm, _⟩ := hctxW
    have hne : Value.ownBlock (.slice S m cS) ≠ some w.heap.size := by
      obtain ⟨S0, m0, c0, e0, _, _, hown0, _⟩ := hctx
      have e1 := (hbW.cell (p := ⟨b, 0, none⟩) (by show b < _; omega)).trans e0
      rw [y0] at e1
      injection e1 with e1
      rw [e1]
      intro e
      have := (hown0.lt _ e).2
      omega
    have hP0 : SlP (· < B) w A2 n2 p.parts := by rw [hn2]; exact hP
    have Hne := Lib.hid hne
    have hm1000 : m ≤ 1000 := by omega
    have Hlm := Lib.hid hlm
    have h63 : m + 1 ≤ maxLen := by unfold maxLen; omega
    have h47 : (m + 1) * 8 ≤ 140737488355328 := by omega
    have ⟨x0, x1, x2, x3, x4, x5, x6⟩ := hbx
    have hsW : b + 2 ≤ W.heap.size := Nat.le_trans hszb hbW.size
    have hownA := hown
    clear hT hTd hTl hn2 ih hk hP hp hctx hcm hlm
    subst hW
    go_enter Tryz.func104, Tryz.ntmps104
    go_wp2_with (at_builtin; refine wpList_app rfl _ _ 62 rfl (b + 2) 3 i0 (.int .i64 0) 1 8 Tryz.underlying62 hi0 hz0 hz1 hz2 rfl (by decide) S m cS (iCells l) rfl (hown.alloc _) _ _ 1 1 [.int .i64 inn] rfl (Sl.one2 w _ _ _) (iCells_one [inn]) h63 h47 (by simp only [World.size_alloc]; omega) ?_)
    intro S' c' w4 hown4 hb4 hg4
    have hbA := ((Below.refl (b + 2) (w.alloc (.cells #[str p.type, str p.cs, str p.id, str p.loc, .int .i64 p.how, .slice A p.body.length c, .slice A2 n2 c2] 25))).alloc hsW (.cells #[.int .i64 inn] 3)).trans hb4
    have hb40 : Below b w w4 := hbel0.trans (hbA.mono (by omega))
    have z0 := (hbA.cell (p := ⟨b, 0, none⟩) (by show b < b + 2; omega)).trans y0
    have zf := (hbA.frozen (p := ⟨b, 0, none⟩) (by show b < b + 2; omega)).trans yf
    have z1 := (hbA.cell (p := ⟨b + 1, 0, none⟩) (by show b + 1 < b + 2; omega)).trans y1
    have hbk : w4.heap[w.heap.size]? = some (.cells #[str p.type, str p.cs, str p.id, str p.loc, .int .i64 p.how, .slice A p.body.length c, .slice A2 n2 c2] 25) := by
      rw [hg4.block w.heap.size (by simp <;> omega) (fun e => Hne.out e.symm), Lib.alloc_old _ _ _ (by simp)]
      exact heap_alloc_new w _
    have u6 : w4.cell? ⟨w.heap.size, 6, none⟩ = some (.slice A2 n2 c2) := by unfold World.cell?; rw [hbk]; rfl
    have hne4 : Value.ownBlock (.slice S' (m + 1) c') ≠ some b := fun e => by have := (hown4.lt _ e).1; omega
    have hctx5 : WCtx b (w4.setCell ⟨b, 0, none⟩ (.slice S' (m + 1) c')) (l ++ [inn]) := by
      refine ⟨S', m + 1, c', World.cell?_setCell_same _ _ _ z0, by simpa using zf, ?_, ?_, by simp [Hlm.out], by have h1 := hb4.size; have h2 := hbA.size; simp only [World.size_setCell]; simp only [World.size_alloc] at h1; omega⟩
      · rw [World.cell?_setCell_other _ _ _ _ (by simp)]; exact z1
      · rw [iCells_app]; exact own_setFar hown4 hne4 _
    have hbel5 : Below b w (w4.setCell ⟨b, 0, none⟩ (.slice S' (m + 1) c')) := hb40.setCell (Nat.le_refl _) _
    have u6' : (w4.setCell ⟨b, 0, none⟩ (.slice S' (m + 1) c')).cell? ⟨w.heap.size, 6, none⟩ = some (.slice A2 n2 c2) := by
      rw [World.cell?_setCell_other _ _ _ _ (by simp <;> omega)]; exact u6
    have Hctx5 := Lib.hid hctx5
    clear hown hownA hown4 hb4 hg4 hbA hb40 y0 yf y1 hbk u6 hne4 hctx5 x0 x1 x2 x3 x4 x5 x6 z1 hbx hbel0 hbW hPW
    go_wp2_with fail
    go_loopw [18] (WRel b n2 m p.parts T w) (fun iv _ => n2 - (intOf iv).toNat)
    case atStart =>
      refine ⟨0, l ++ [inn], rfl, Nat.zero_le _, Hctx5.out, ?_, hbel5⟩
      show _ = T
      rw [HT.out, List.drop_zero, List.length_append, Hlm.out]
      simp
    case round =>
      obtain ⟨i, done, rfl, hi, hctx, hE, hbel⟩ := hrel
      by_cases hin : i < n2
      · have hPr := hP0.belowN hbel hB
        obtain ⟨b', off, q, A', n', c', A2', n2', c2', rfl, hbS, hq, hqa, x0, x1, x2, x3, x4, x5, x6⟩ := hPr.cells7 hin
        have hE1 := hE.out
        rw [hq, wthsD] at hE1
        have hqf : (flatD q).length ≤ k ∧ done.length + (flatD q).length ≤ 1000 := by
          have h1 := congrArg List.length hE1
          simp only [List.length_append, wthD_len] at h1
          have h2 := HTl.out
          refine ⟨?_, by omega⟩
          have hqi : i < p.parts.length := by rw [← Hn2.out]; exact hin
          have h3 := flatsD_get p.parts i hqi
          have h4 : p.parts[i] = q := by rw [List.drop_eq_getElem_cons hqi] at hq; injection hq
          rw [h4] at h3
          have h5 := Hk.out
          rw [flatD_eq, List.length_cons] at h5
          omega
        obtain ⟨W, hW⟩ : ∃ W, W = wr.alloc (.cells #[str q.type, str q.cs, str q.id, str q.loc, .int .i64 q.how, .slice A' n' c', .slice A2' n2' c2'] 25) := ⟨_, rfl⟩
        have hbW : Below wr.heap.size wr W := by rw [hW]; exact (Below.refl _ wr).alloc (Nat.le_refl _) _
        have hszr : b + 2 ≤ wr.heap.size := by obtain ⟨_, _, _, _, _, _, _, _, h⟩ := hctx; exact h
        have hctxW := hctx.below hbW
        have y1 : W.cell? ⟨b + 1, 0, none⟩ = some (.func (.func 104) #[] #[.pointer (some ⟨b, 0, none⟩), .pointer (some ⟨b + 1, 0, none⟩)]) := by obtain ⟨_, _, _, _, _, h, _⟩ := hctxW; exact h
        have hcl := Hih.out q _ (m : Int) done W B hqf.1 hqf.2 (by omega) (by omega) hB (hqa.belowN hbW (by omega)) hctxW
        have hbelW := hbel.trans (hbW.mono (by omega))
        have hE2 : Hid ((done ++ wthD q done.length (m : Int)) ++ wthsD (p.parts.drop (i + 1)) (done ++ wthD q done.length (m : Int)).length m = T) := by
          show _ = T
          rw [List.length_append, wthD_len, List.append_assoc]
          exact hE1
        generalize done ++ wthD q done.length (m : Int) = done2 at hcl hE2
        have Hcl := Lib.hid hcl
        clear hcl hE hE1 hq hPr hqa hctx hctxW hbW hbel
        subst hW
        go_wp2_with fail
        refine Hcl.out.mono ?_
        rintro e w6 ⟨rfl, hctx6, hb6⟩
        clear x0 x1 x2 x3 x4 x5 x6 y1
        go_wp2_with fail
        exact ⟨⟨i + 1, done2, by go_num, by omega, hctx6, hE2, hbelW.trans hb6⟩, by simp [intOf]; omega⟩
      · have hE1 : Hid (done = T) := by
          have := hE.out
          rw [List.drop_of_length_le (by rw [← Hn2.out]; omega), wthsD, List.append_nil] at this
          exact this
        clear hE
        have Hctx := Lib.hid hctx
        clear hctx
        go_wp2_with fail
        go_end0
        obtain rfl := hE1.out
        exact ⟨rfl, Hctx.out, hbel⟩
end Go.Proofs.YtlbdnohnngkapaaGreatDoor

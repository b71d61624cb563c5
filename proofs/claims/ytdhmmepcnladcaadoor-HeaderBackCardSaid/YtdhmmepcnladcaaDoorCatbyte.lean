import Derived.Test.YtdhmmepcnladcaaDoorStr
import Derived.Lib.AppendZeros
namespace Go.Proofs.YtdhmmepcnladcaaDoor
open Go.RowKit

theorem catInfobyte : (Tryd.prog.info? 5).map (fun i => (i.zero, i.size, i.bytes)) = some (some (Value.int .u8 0), 1, 1) := by kernel_rfl
theorem upto_byte (w : World) (A : Option Addr) (n c : Nat) (ki : IntKind) (k : Int) (h0 : 0 ≤ k) (h1 : k ≤ n) (hc : n ≤ c) :
    (Instr.slice 22 (.slice A n c) none (some (.int ki k)) none).run Tryd.prog w = .ok (.slice (cutA A c 0 1) k.toNat c) w :=
  run_upto w _ _ 1 Tryd.underlying22 (Tryd.sizeOf5 w) A n c ki k h0 h1 hc
attribute [local go_sem high] upto_byte
def GrowResbyte (w : World) (e : Ending) (w' : World) : Prop := ∃ S c, e = .returned (.slice S 0 c) ∧ w'.ownsRow w.heap.size 5 1 (.slice S 0 c) 0 [] ∧ Below w.heap.size w w'
set_option maxRecDepth 100000 in
set_option maxHeartbeats 1000000 in
theorem Grow_byte (k : Nat) (w : World) (hk : k ≤ 140737488355328) : Calls Tryd.prog 105 #[.slice none 0 0, .int .i64 (k : Nat)] w (GrowResbyte w) := by
  obtain ⟨i0, hi, hz0, hz1, hz2⟩ := info_parts catInfobyte
  rcases Nat.eq_zero_or_pos k with rfl | h0
  · go_enter Tryd.func105, Tryd.ntmps105
    go_wp2_with fail
    go_ret
    exact ⟨none, 0, rfl, World.ownsRow_nil _ _ _ _, Below.refl _ _⟩
  · have happ := fun ty => Lib.run_append_nil_zeros (P := Tryd.prog) w 22 3 ty 5 i0 (Value.int .u8 0) .i64 .i64 Tryd.underlying22 Tryd.underlying3 hi hz0 k h0 (by omega) (by omega) (by rw [hz2]; omega)
    have hcapge := grownCap_ge w k 0 5
    have hcaple := grownCap_le_maxLen w k 0 5 (by unfold maxLen; omega)
    generalize grownCap w k 0 5 = cap at happ hcapge hcaple
    generalize hZ : (Builtin.zeroCells (Value.int .u8 0).cells k ++ Builtin.zeroCells (Value.int .u8 0).cells (cap - k)) = Z at happ
    have hZs : Hid (Z.size = cap * 1) := by show _ = _; rw [← hZ]; simp [size_zeroCells, Value.cells]; omega
    have Hcl := Lib.hid hcaple
    clear hZ hcaple
    go_enter Tryd.func105, Tryd.ntmps105
    go_wp2_with (at_builtin; refine Lib.wpList_append_run _ rfl _ _ _ _ rfl _ _ rfl rfl _ _ (happ _) ?_)
    go_ret
    refine ⟨some ⟨w.heap.size, 0, none⟩, cap, ?_, ⟨rfl, .inr ⟨w.heap.size, cap, Z, rfl, Nat.le_refl _, heap_alloc_new w.drew _, Nat.zero_le _, Hcl.out, hZs.out, by simp⟩⟩, ((Below.refl _ w).drew).alloc (Nat.le_refl _) _⟩
    simp [cutA, Addr.add]

def CatRel1byte (n1 n2 : Nat) (w0 : World) (sv iv : Value) (wr : World) : Prop :=
  ((iv = .int .i64 0 ∧ sv = .int .i64 0) ∨ (iv = .int .i64 1 ∧ sv = .int .i64 (n1 : Nat)) ∨ (iv = .int .i64 2 ∧ sv = .int .i64 ((n1 + n2 : Nat) : Int))) ∧ wr = w0
def CatRel2byte (n1 n2 : Nat) (xs ys : List Value) (w0 : World) (nv iv : Value) (wr : World) : Prop :=
  ∃ S m c zs, nv = .slice S m c ∧ wr.ownsRow w0.heap.size 5 1 (.slice S m c) m zs ∧ Below w0.heap.size w0 wr ∧
    ((iv = .int .i64 0 ∧ m = 0 ∧ zs = []) ∨ (iv = .int .i64 1 ∧ m = n1 ∧ zs = xs) ∨ (iv = .int .i64 2 ∧ m = n1 + n2 ∧ zs = xs ++ ys))
def CatResbyte (xs : List Value) (n : Nat) (w : World) (e : Ending) (w' : World) : Prop := ∃ S c, e = .returned (.slice S n c) ∧ w'.ownsRow w.heap.size 5 1 (.slice S n c) n xs ∧ Below w.heap.size w w'
set_option maxRecDepth 100000 in
set_option maxHeartbeats 1000000 in
theorem Concat_byte (A A1 A2 : Option Addr) (c n1 c1 n2 c2 : Nat) (xs ys : List Value) (w : World) (hA : Sl w w.heap.size 1 A 2 [.slice A1 n1 c1, .slice A2 n2 c2]) (hx : Sl w w.heap.size 1 A1 n1 xs) (hy : Sl w w.heap.size 1 A2 n2 ys)
    (h1x : ∀ u ∈ xs, u.oneCell' = true) (h1y : ∀ u ∈ ys, u.oneCell' = true) (hn : n1 + n2 ≤ 140737488355328) :
    Calls Tryd.prog 38 #[.slice A 2 c] w (CatResbyte (xs ++ ys) (n1 + n2) w) := by
  obtain ⟨i0, hi, hz0, hz1, hz2⟩ := info_parts catInfobyte
  obtain ⟨b, off, rfl, hbl, hc⟩ := hA.2 (by omega)
  have x0 : w.cell? ⟨b, off, none⟩ = some (.slice A1 n1 c1) := hc 0 _ rfl
  have x1 : w.cell? ⟨b, off + 1, none⟩ = some (.slice A2 n2 c2) := hc 1 _ rfl
  have H1x := Lib.hid h1x
  have H1y := Lib.hid h1y
  clear hc hA h1x h1y
  go_enter Tryd.func38, Tryd.ntmps38
  go_wp2_with fail
  go_loopw [3, 11] (CatRel1byte n1 n2 w) (fun _ iv _ => 2 - (intOf iv).toNat)
  case atStart => exact ⟨.inl ⟨rfl, rfl⟩, rfl⟩
  case round =>
    obtain ⟨h, rfl⟩ := hrel
    rcases h with ⟨rfl, rfl⟩ | ⟨rfl, rfl⟩ | ⟨rfl, rfl⟩
    · go_wp2_with fail
      exact ⟨⟨.inr (.inl ⟨rfl, by go_num⟩), rfl⟩, by simp [intOf]⟩
    · go_wp2_with fail
      exact ⟨⟨.inr (.inr ⟨rfl, by go_num⟩), rfl⟩, by simp [intOf]⟩
    · obtain ⟨w, rfl⟩ : ∃ x : World, x = wr := ⟨_, rfl⟩
      go_wp2_with fail
      refine (Grow_byte (n1 + n2) _ hn).mono ?_
      rintro e w1 ⟨S, cs, rfl, hown, hb1⟩
      have y0 := (hb1.cell (p := ⟨b, off, none⟩) hbl).trans x0
      have y1 := (hb1.cell (p := ⟨b, off + 1, none⟩) hbl).trans x1
      clear x0 x1
      go_wp2_with fail
      go_loopw [6, 27] (CatRel2byte n1 n2 xs ys w) (fun _ iv _ => 2 - (intOf iv).toNat)
      case atStart => exact ⟨S, 0, cs, [], rfl, hown, hb1, .inl ⟨rfl, rfl, rfl⟩⟩
      case round =>
        clear hown
        obtain ⟨S, m, cs, zs, rfl, hown, hbel, h⟩ := hrel
        have z0 := (hbel.cell (p := ⟨b, off, none⟩) hbl).trans ((hb1.cell (p := ⟨b, off, none⟩) hbl).symm.trans y0)
        have z1 := (hbel.cell (p := ⟨b, off + 1, none⟩) hbl).trans ((hb1.cell (p := ⟨b, off + 1, none⟩) hbl).symm.trans y1)
        clear y0 y1 hb1
        rcases h with ⟨rfl, rfl, rfl⟩ | ⟨rfl, rfl, rfl⟩ | ⟨rfl, rfl, rfl⟩
        · have hxr := hx.below hbel
          have h63 : 0 + n1 ≤ maxLen := by unfold maxLen; omega
          have h47 : (0 + n1) * 1 ≤ 140737488355328 := by omega
          go_wp2_with (at_builtin; refine wpList_app rfl _ _ 22 rfl w.heap.size 5 i0 (Value.int .u8 0) 1 1 Tryd.underlying22 hi hz0 hz1 hz2 rfl (by decide) S 0 cs [] rfl hown _ _ n1 c1 xs rfl hxr H1x.out h63 h47 hbel.size ?_)
          intro S' c' w4 hown4 hb4 _
          try simp only [Nat.zero_add, List.nil_append] at hown4
          go_wp2_with fail
          exact ⟨⟨S', n1, c', xs, by simp, hown4, hbel.trans hb4, .inr (.inl ⟨rfl, rfl, rfl⟩)⟩, by simp [intOf]⟩
        · have hyr := hy.below hbel
          have h63 : m + n2 ≤ maxLen := by unfold maxLen; omega
          have h47 : (m + n2) * 1 ≤ 140737488355328 := by omega
          go_wp2_with (at_builtin; refine wpList_app rfl _ _ 22 rfl w.heap.size 5 i0 (Value.int .u8 0) 1 1 Tryd.underlying22 hi hz0 hz1 hz2 rfl (by decide) S m cs zs rfl hown _ _ n2 c2 ys rfl hyr H1y.out h63 h47 hbel.size ?_)
          intro S' c' w4 hown4 hb4 _
          go_wp2_with fail
          exact ⟨⟨S', m + n2, c', zs ++ ys, rfl, hown4, hbel.trans hb4, .inr (.inr ⟨rfl, rfl, rfl⟩)⟩, by simp [intOf]⟩
        · go_wp2_with fail
          go_ret
          exact ⟨S, cs, rfl, hown, hbel⟩
end Go.Proofs.YtdhmmepcnladcaaDoor

import Derived.Test.YtlbdnohnngkapaaGreatDoorU6
import Derived.Test.YtlbdnohnngkapaaGreatDoorU10
import Derived.Test.YtlbdnohnngkapaaGreatDoorU12
namespace Go.Proofs.YtlbdnohnngkapaaGreatDoor
open Go.RowKit

def OwnRes (p : PartD) (w : World) (e : Ending) (w' : World) : Prop :=
  ∃ A c S2 d2 rows, e = .returned (.agg #[str p.type, str p.cs, str p.id, str p.loc, .int .i64 p.how, .slice A p.body.length c, .slice S2 p.parts.length d2]) ∧
    w'.ownsRow w.heap.size 25 7 (.slice S2 p.parts.length d2) p.parts.length rows.flatten ∧
    PartsAt (NewS w.heap.size (Value.ownBlock (.slice S2 p.parts.length d2)) w') w' p.parts rows ∧
    SlS (NewS w.heap.size (Value.ownBlock (.slice S2 p.parts.length d2)) w') w' 1 A p.body.length (Lib.byteCells p.body) ∧ p.body.length ≤ c ∧ c ≤ maxLen ∧ p.parts.length ≤ d2 ∧ d2 ≤ maxLen ∧
    (p.type.length ≤ maxLen ∧ p.cs.length ≤ maxLen ∧ p.id.length ≤ maxLen ∧ p.loc.length ≤ maxLen ∧ -9223372036854775808 ≤ p.how ∧ p.how ≤ 9223372036854775807) ∧ Below w.heap.size w w'
theorem BoxF.s5 {w : World} {b : Nat} {v0 v1 v2 v3 v4 v5 v6 : Value} (h : BoxF w b v0 v1 v2 v3 v4 v5 v6) (u : Value) : BoxF (w.setCell ⟨b, 5, none⟩ u) b v0 v1 v2 v3 v4 u v6 := by
  obtain ⟨⟨h0, h1, h2, h3, h4, h5, h6⟩, hf⟩ := h
  have far : ∀ k v, k ≠ 5 → w.cell? ⟨b, k, none⟩ = some v → (w.setCell ⟨b, 5, none⟩ u).cell? ⟨b, k, none⟩ = some v := fun k v h5 h => by
    rw [World.cell?_setCell_other _ _ _ _ (by simp <;> omega)]; exact h
  exact ⟨⟨far 0 _ (by omega) h0, far 1 _ (by omega) h1, far 2 _ (by omega) h2, far 3 _ (by omega) h3, far 4 _ (by omega) h4, World.cell?_setCell_same _ _ _ h5, far 6 _ (by omega) h6⟩, fun k => by simpa using hf k⟩
theorem BoxF.s6 {w : World} {b : Nat} {v0 v1 v2 v3 v4 v5 v6 : Value} (h : BoxF w b v0 v1 v2 v3 v4 v5 v6) (u : Value) : BoxF (w.setCell ⟨b, 6, none⟩ u) b v0 v1 v2 v3 v4 v5 u := by
  obtain ⟨⟨h0, h1, h2, h3, h4, h5, h6⟩, hf⟩ := h
  have far : ∀ k v, k ≠ 6 → w.cell? ⟨b, k, none⟩ = some v → (w.setCell ⟨b, 6, none⟩ u).cell? ⟨b, k, none⟩ = some v := fun k v h5 h => by
    rw [World.cell?_setCell_other _ _ _ _ (by simp <;> omega)]; exact h
  exact ⟨⟨far 0 _ (by omega) h0, far 1 _ (by omega) h1, far 2 _ (by omega) h2, far 3 _ (by omega) h3, far 4 _ (by omega) h4, far 5 _ (by omega) h5, World.cell?_setCell_same _ _ _ h6⟩, fun k => by simpa using hf k⟩
/-- A part in memory of its own, out of its pieces. -/
theorem own_part {p : PartD} {B B' : Nat} {w : World} {A S2 : Option Addr} {c d2 : Nat} {rows : List (List Value)} (hB : B' ≤ B)
    (hown : w.ownsRow B 25 7 (.slice S2 p.parts.length d2) p.parts.length rows.flatten)
    (hps : PartsAt (NewS B (Value.ownBlock (.slice S2 p.parts.length d2)) w) w p.parts rows) (hs : SlS (NewS B (Value.ownBlock (.slice S2 p.parts.length d2)) w) w 1 A p.body.length (Lib.byteCells p.body))
    (h1 : p.body.length ≤ c) (h2 : c ≤ maxLen) (h3 : p.parts.length ≤ d2) (h4 : d2 ≤ maxLen) (hb : p.type.length ≤ maxLen ∧ p.cs.length ≤ maxLen ∧ p.id.length ≤ maxLen ∧ p.loc.length ≤ maxLen ∧ -9223372036854775808 ≤ p.how ∧ p.how ≤ 9223372036854775807) :
    PartAt (fun b => B' ≤ b ∧ b < w.heap.size) w p [str p.type, str p.cs, str p.id, str p.loc, .int .i64 p.how, .slice A p.body.length c, .slice S2 p.parts.length d2] := by
  have inN : ∀ b, NewS B (Value.ownBlock (.slice S2 p.parts.length d2)) w b → B' ≤ b ∧ b < w.heap.size := fun b hb => ⟨Nat.le_trans hB hb.1, hb.2.1⟩
  have hpp := PartsAt.change (w' := w) inN (fun _ _ => rfl) _ _ hps
  have hss := SlS.change (w' := w) hs inN (fun _ _ => rfl)
  have hrw := SlS.change (w' := w) (S' := fun b => B' ≤ b ∧ b < w.heap.size) (own_sls hown) (fun b hb => ⟨Nat.le_trans hB hb.1, hb.2⟩) (fun _ _ => rfl)
  obtain ⟨t, cs, id, loc, how, body, parts⟩ := p
  exact ⟨A, _, c, S2, _, d2, rows, rfl, hb, hss, h1, h2, hrw, h3, h4, hpp⟩
def OwnRel (p : PartD) (n2 h : Nat) (S1 : Option Addr) (d1 : Nat) (A2 : Option Addr) (c2 : Nat) (w0 : World) (lv iv : Value) (wr : World) : Prop :=
  ∃ i d S rows, lv = .slice S i d ∧ iv = .int .i64 (i : Nat) ∧ i ≤ n2 ∧ wr.ownsRow (h + 2) 25 7 (.slice S i d) i (List.flatten rows) ∧
    PartsAt (NewS (h + 2) (Value.ownBlock (.slice S i d)) wr) wr (p.parts.take i) rows ∧ SlS (NewS (h + 2) (Value.ownBlock (.slice S i d)) wr) wr 1 S1 p.body.length (Lib.byteCells p.body) ∧
    BoxF wr h (str p.type) (str p.cs) (str p.id) (str p.loc) (.int .i64 p.how) (.slice S1 p.body.length d1) (.slice A2 n2 c2) ∧
    (∃ v0 v1 v2 v3 v4 v5 v6, BoxF wr (h + 1) v0 v1 v2 v3 v4 v5 v6) ∧ Below h w0 wr ∧ h + 2 ≤ wr.heap.size
set_option maxRecDepth 100000 in
set_option maxHeartbeats 4000000 in
theorem OwnPart_any (k : Nat) : ∀ (p : PartD) (v : List Value) (w : World), (flatD p).length ≤ k → k ≤ 1000 → (∀ q ∈ flatD p, q.body.length ≤ 4000) → PartAt (· < w.heap.size) w p v →
    Calls Tryz.prog 35 #[.agg v.toArray] w (OwnRes p w) := by
  obtain ⟨i0, hi0, hz0, hz1, hz2⟩ := info_parts catInfoPart
  obtain ⟨j0, hj0, hy0, hy1, hy2⟩ := info_parts cloInfobyte
  induction k with
  | zero => intro p v w h; rw [flatD_eq] at h; simp at h
  | succ k ih =>
    intro p v w hk hk1 hbod hp
    obtain ⟨A, c, A2, c2, rfl, hbds, hby, hnc, hcm, hP, hc2, hcm2⟩ := hp.open
    obtain ⟨W, hW⟩ : ∃ W, W = (w.alloc (.cells #[str p.type, str p.cs, str p.id, str p.loc, .int .i64 p.how, .slice A p.body.length c, .slice A2 p.parts.length c2] 25)).alloc (.cells #[.string ⟨#[]⟩, .string ⟨#[]⟩, .string ⟨#[]⟩, .string ⟨#[]⟩, .int .i64 0, .slice none 0 0, .slice none 0 0] 25) := ⟨_, rfl⟩
    have hbW : Below w.heap.size w W := by rw [hW]; exact ((Below.refl _ w).alloc (Nat.le_refl _) _).alloc (by simp) _
    have hsW : W.heap.size = w.heap.size + 2 := by rw [hW]; simp
    have hx1 : BoxF W w.heap.size (str p.type) (str p.cs) (str p.id) (str p.loc) (.int .i64 p.how) (.slice A p.body.length c) (.slice A2 p.parts.length c2) := by
      refine BoxF.of_block (t := 25) ?_
      rw [hW, Lib.alloc_old _ _ _ (by simp)]
      exact heap_alloc_new w _
    have hx2 : BoxF W (w.heap.size + 1) (.string ⟨#[]⟩) (.string ⟨#[]⟩) (.string ⟨#[]⟩) (.string ⟨#[]⟩) (.int .i64 0) (.slice none 0 0) (.slice none 0 0) := by
      refine BoxF.of_block (t := 25) ?_
      rw [hW]
      have := heap_alloc_new (w.alloc (.cells #[str p.type, str p.cs, str p.id, str p.loc, .int .i64 p.how, .slice A p.body.length c, .slice A2 p.parts.length c2] 25)) (.cells #[.string ⟨#[]⟩, .string ⟨#[]⟩, .string ⟨#[]⟩, .string ⟨#[]⟩, .int .i64 0, .slice none 0 0, .slice none 0 0] 25)
      simpa using this
    have hnb : p.body.length ≤ 4000 := hbod p (by rw [flatD_eq]; simp)
    have hfl : (flatsD p.parts).length ≤ k := by rw [flatD_eq, List.length_cons] at hk; omega
    have hnp : p.parts.length ≤ 1000 := by have := flatsD_len p.parts; omega
    obtain ⟨⟨x0, x1, x2, x3, x4, x5, x6⟩, hf⟩ := id hx1
    have Hx1 := Lib.hid hx1
    have Hx2 := Lib.hid hx2
    have HsW := Lib.hid hsW
    have Hby := Lib.hid hby
    have HP := Lib.hid hP
    have Hih := Lib.hid ih
    have Hbod := Lib.hid hbod
    have Hbds := Lib.hid hbds
    clear hx1 hx2 hsW hby hP ih hbod hp hbds
    go_enter Tryz.func35, Tryz.ntmps35
    have hW2 : w.heap.size + 2 ≤ W.heap.size := by rw [HsW.out]; exact Nat.le_refl _
    have hown0 := World.ownsRow_made (e := 5) (size := 1) (base := w.heap.size + 2) W #[] 0 hW2 (Nat.zero_le _) rfl
    have hbE : Below W.heap.size W (W.alloc (.cells #[] 5)) := (Below.refl _ _).alloc (Nat.le_refl _) _
    have hxE := Hx1.out.below hbE (by omega)
    obtain ⟨⟨_, _, _, _, _, z5, z6⟩, hf'⟩ := id hxE
    have hbyE := Sl.below Hby.out (hbW.trans (hbE.mono hbW.size))
    have Hown0 := Lib.hid hown0
    have HxE := Lib.hid hxE
    have hone := oneCell_byteCells p.body
    have h63 : 0 + p.body.length ≤ maxLen := by unfold maxLen; omega
    have h47 : (0 + p.body.length) * 1 ≤ 140737488355328 := by omega
    have hbase : w.heap.size + 2 ≤ (W.alloc (.cells #[] 5)).heap.size := by simp; omega
    have Hone := Lib.hid hone
    have HbyE := Lib.hid hbyE
    clear hown0 hxE hf' hone hbyE x0 x1 x2 x3 x4 x5 x6 hf
    go_upto_region 1 with fail
    rw [← hW]
    clear hW
    go_wp2_with (at_builtin; refine wpList_app rfl _ _ 22 rfl (w.heap.size + 2) 5 j0 (.int .u8 0) 1 1 Tryz.underlying22 hj0 hy0 hy1 hy2 rfl (by decide) _ 0 0 [] rfl Hown0.out _ A p.body.length c (Lib.byteCells p.body) rfl HbyE.out Hone.out h63 h47 hbase ?_)
    intro S1 d1 w1 hown1 hb1 _
    have hbx1 := HxE.out.below hb1 (by omega)
    have hby1 : Below (w.heap.size + 2) W w1 := ((Below.refl _ _).alloc hW2 _).trans hb1
    have hbx2 := Hx2.out.below hby1 (by omega)
    have hbel1 : Below w.heap.size w w1 := hbW.trans (hby1.mono (Nat.le_add_right _ _))
    obtain ⟨⟨y0, y1, y2, y3, y4, y5, y6⟩, yf⟩ := id hbx1
    have yf5 := yf 5
    have hsz1 := hby1.size
    have hrel0 : OwnRel p p.parts.length w.heap.size S1 d1 A2 c2 w (.slice none 0 0) (.int .i64 0) (w1.setCell ⟨w.heap.size, 5, none⟩ (.slice S1 p.body.length d1)) := by
      refine ⟨0, 0, none, [], rfl, rfl, Nat.zero_le _, World.ownsRow_nil _ _ _ _, rfl, ?_, ?_, ?_, ?_, by simp; omega⟩
      · refine SlS.change (own_sls hown1) (fun b hb => ⟨hb.1, by simp; exact hb.2, fun e => by cases e⟩) (fun a ha => ?_)
        exact World.cell?_setCell_other _ _ _ _ (by rintro rfl; have := ha.1; simp at this; omega)
      · exact hbx1.s5 _
      · exact ⟨_, _, _, _, _, _, _, hbx2.setFar (by simp) _⟩
      · exact hbel1.setCell (Nat.le_refl _) _
    have hdd : p.body.length ≤ d1 ∧ d1 ≤ maxLen := ⟨own_cap hown1, own_capmax hown1⟩
    have Hdd := Lib.hid hdd
    have Hrel0 := Lib.hid hrel0
    clear hrel0 hdd hown1 hb1 hbx1 hbx2 hby1 hbel1 z5 z6
    go_wp2_with fail
    generalize w1.setCell ⟨w.heap.size, 5, none⟩ (.slice S1 p.body.length d1) = w2 at Hrel0 ⊢
    have hx6 : w2.cell? ⟨w.heap.size, 6, none⟩ = some (.slice A2 p.parts.length c2) := by
      obtain ⟨i, d, S, rows, _, _, _, _, _, _, hbx, _⟩ := Hrel0.out
      exact hbx.1.2.2.2.2.2.2
    obtain ⟨n, hn⟩ : ∃ n, n = p.parts.length := ⟨_, rfl⟩
    go_wp2_with fail
    go_loopw [3, 14] (OwnRel p p.parts.length w.heap.size S1 d1 A2 c2 w) (fun _ iv _ => p.parts.length - (intOf iv).toNat)
    case atStart => exact Hrel0.out
    case round =>
      obtain ⟨i, d, S, rows, rfl, rfl, hi, hown, hpd, hs1, hbx, hb1x, hbel, hsz⟩ := hrel
      by_cases hin : i < p.parts.length
      · obtain ⟨b, off, q, A', n', c', A2', n2', c2', hA2, hbS, hq, hqa, x0, x1, x2, x3, x4, x5, x6⟩ := (HP.out.below hbel).cells7 hin
        subst hA2
        obtain ⟨A3, c3, A4, c4, hv, hqb, _⟩ := hqa.open
        simp only [List.cons.injEq, and_true] at hv
        obtain ⟨_, _, _, _, _, h5, h6⟩ := hv
        injection h5 with h5 h5' h5''
        injection h6 with h6 h6' h6''
        subst h5 h5' h5'' h6 h6' h6''
        obtain ⟨W5, hW5⟩ : ∃ W5, W5 = wr.alloc (.cells #[str q.type, str q.cs, str q.id, str q.loc, .int .i64 q.how, .slice A' q.body.length c', .slice A2' q.parts.length c2'] 25) := ⟨_, rfl⟩
        have hbA : Below wr.heap.size wr W5 := by rw [hW5]; exact (Below.refl _ wr).alloc (Nat.le_refl _) _
        have hbel5 : Below w.heap.size w W5 := hbel.trans (hbA.mono hbel.size)
        have hiq : p.parts[i]? = some q := by
          have h1 := congrArg (fun l => l[0]?) hq
          simpa using h1
        have hflq : (flatD q).length ≤ k ∧ ∀ x ∈ flatD q, x.body.length ≤ 4000 := by
          have h1 := flatsD_get p.parts i hin
          have h2 : p.parts[i] = q := by rw [List.getElem?_eq_getElem hin] at hiq; injection hiq
          rw [h2] at h1
          exact ⟨by omega, fun x hx => Hbod.out x (by rw [flatD_eq]; exact List.mem_cons_of_mem _ (h1.2 x hx))⟩
        have hcl := Hih.out q _ W5 hflq.1 (by omega) hflq.2 ((hqa.belowN (w' := W5) (hbA.mono hbel.size) (Nat.le_refl _)).more hbel5.size)
        have hs5 : W5.heap.size = wr.heap.size + 1 := by rw [hW5]; simp
        have Hcl := Lib.hid hcl
        have Hown := Lib.hid hown
        have Hpd := Lib.hid hpd
        have Hs1 := Lib.hid hs1
        have Hbx := Lib.hid hbx
        have Hb1x := Lib.hid hb1x
        have Hiq := Lib.hid hiq
        have Hs5 := Lib.hid hs5
        clear hcl hown hpd hs1 hbx hb1x hq hqa hiq hs5 hflq hqb
        go_wp2_with fail
        rw [← hW5]
        clear hW5 x0 x1 x2 x3 x4 x5 x6
        refine Hcl.out.mono ?_
        rintro e w6 ⟨A6, d6, S6, d7, rows6, rfl, hown6, hps6, hss6, g1, g2, g3, g4, gb, hb6⟩
        have hqp := own_part (B' := W5.heap.size) (Nat.le_refl _) hown6 hps6 hss6 g1 g2 g3 g4 gb
        have hbr6 : Below wr.heap.size wr w6 := hbA.trans (hb6.mono hbA.size)
        have hbel6 := hbel5.trans (hb6.mono hbel5.size)
        have hown7 := own_below Hown.out hbr6
        have hone : ∀ u ∈ [str q.type, str q.cs, str q.id, str q.loc, .int .i64 q.how, .slice A6 q.body.length d6, .slice S6 q.parts.length d7], u.oneCell' = true := hqp.one
        have h63 : i + 1 ≤ maxLen := by unfold maxLen; omega
        have h47 : (i + 1) * 120 ≤ 140737488355328 := by omega
        have hbase : w.heap.size + 2 ≤ w6.heap.size := Nat.le_trans hsz hbr6.size
        have hs6 : wr.heap.size + 1 ≤ w6.heap.size := by rw [← Hs5.out]; exact hb6.size
        have Hown7 := Lib.hid hown7
        have Hone := Lib.hid hone
        have Hqp := Lib.hid hqp
        clear hown6 hps6 hss6 hown7 hone hqp Hcl hb6
        go_wp2_with (at_builtin; refine wpList_app2 rfl _ _ 23 rfl (w.heap.size + 2) 25 i0 _ 7 120 Tryz.underlying23 hi0 hz0 hz1 hz2 rfl (by decide) S i d rows.flatten rfl (Hown7.out.alloc _) _ _ 1 1 [str q.type, str q.cs, str q.id, str q.loc, .int .i64 q.how, .slice A6 q.body.length d6, .slice S6 q.parts.length d7] rfl (Sl.row _ _ 7 1 _ rfl) Hone.out h63 h47 ?c2 ?_)
        case c2 => simp; omega
        intro S' d' w8 hown8 hb8 hgr8 hat8
        have hbk8 : ∀ b, b < w6.heap.size → some b ≠ Value.ownBlock (.slice S i d) → ∀ o, w8.cell? ⟨b, o, none⟩ = w6.cell? ⟨b, o, none⟩ := by
          intro b hb hne o
          rw [World.cell?_of_block (hgr8.block b (by simp; omega) hne)]
          exact World.cell?_alloc_lt _ _ _ hb
        have hsz8 : w6.heap.size + 1 ≤ w8.heap.size := by have := hgr8.size; simpa using this
        have hSlt : ∀ g, Value.ownBlock (.slice S i d) = some g → w.heap.size + 2 ≤ g ∧ g < wr.heap.size := fun g hg => Hown.out.lt g hg
        have hfin : OwnRel p p.parts.length w.heap.size S1 d1 (some ⟨b, off, none⟩) c2 w (.slice S' (i + 1) d') (.int .i64 ((i : Int) + 1)) w8 := by
          have old8 : ∀ a : Addr, NewS (w.heap.size + 2) (Value.ownBlock (.slice S i d)) wr a.block → w8.cell? a = wr.cell? a := by
            intro a ha
            obtain ⟨ab, ao, an⟩ := a
            have h1 := hbr6.cell (p := ⟨ab, ao, an⟩) ha.2.1
            rw [← h1]
            have hlt : ab < w6.heap.size := Nat.lt_of_lt_of_le ha.2.1 hbr6.size
            rw [World.cell?_of_block (hgr8.block ab (by simp; omega) (fun e => ha.2.2 e.symm))]
            exact World.cell?_alloc_lt _ _ _ hlt
          have in8 : ∀ b, NewS (w.heap.size + 2) (Value.ownBlock (.slice S i d)) wr b → NewS (w.heap.size + 2) (Value.ownBlock (.slice S' (i + 1) d')) w8 b := by
            intro b hb
            refine ⟨hb.1, by have := hb.2.1; have := hbr6.size; omega, ?_⟩
            rcases hat8 with h | h
            · rw [h]; exact hb.2.2
            · rw [h]
              intro e
              injection e with e
              have := hb.2.1
              have := hbr6.size
              omega
          refine ⟨i + 1, d', S', rows ++ [[str q.type, str q.cs, str q.id, str q.loc, .int .i64 q.how, .slice A6 q.body.length d6, .slice S6 q.parts.length d7]], rfl, by go_num, by omega, by rw [List.flatten_append]; simpa using hown8, ?_, SlS.change Hs1.out in8 old8, ?_, ?_, ?_, by omega⟩
          · have ht : p.parts.take (i + 1) = p.parts.take i ++ [q] := by rw [List.take_add_one, Hiq.out]; rfl
            rw [ht]
            refine PartsAt.app _ _ _ _ (PartsAt.change in8 old8 _ _ Hpd.out) ⟨_, _, rfl, PartAt.change ?_ ?_ _ _ Hqp.out, rfl⟩
            · intro b hb
              have h1 : W5.heap.size ≤ b := hb.1
              have h2 := hb.2
              rw [Hs5.out] at h1
              refine ⟨by omega, by omega, fun e => ?_⟩
              rcases hat8 with h | h
              · rw [h] at e
                have := (hSlt b e).2
                omega
              · rw [h] at e
                injection e with e
                omega
            · intro a ha
              obtain ⟨ab, ao, an⟩ := a
              have h1 : W5.heap.size ≤ ab := ha.1
              have h2 : ab < w6.heap.size := ha.2
              rw [Hs5.out] at h1
              rw [World.cell?_of_block (hgr8.block ab (by simp; omega) (fun e => by have := (hSlt ab e.symm).2; omega))]
              exact World.cell?_alloc_lt _ _ _ h2
          · have h1 := Hbx.out.below hbr6 (by omega)
            exact (h1.below ((Below.refl _ _).alloc (Nat.le_refl _) _) (by omega)).below hb8 (by omega)
          · obtain ⟨v0, v1, v2, v3, v4, v5, v6, hbr⟩ := Hb1x.out
            have h1 := hbr.below hbr6 (by omega)
            exact ⟨_, _, _, _, _, _, _, (h1.below ((Below.refl _ _).alloc (Nat.le_refl _) _) (by omega)).below hb8 (by omega)⟩
          · exact (hbel6.alloc hbel6.size _).trans (hb8.mono (Nat.le_add_right _ _))
        have Hfin := Lib.hid hfin
        clear hfin hown8 hb8 hgr8 hat8 hbk8 hsz8 hSlt
        go_wp2_with fail
        exact ⟨Hfin.out, by simp [intOf]; omega⟩
      · obtain rfl : i = p.parts.length := by omega
        rw [List.take_length] at hpd
        have hwa1 := hbx.s6 (.slice S p.parts.length d)
        obtain ⟨r0, r1, r2, r3, r4, r5, r6, hbr⟩ := hb1x
        have hwa2 := hbr.setFar (p := ⟨w.heap.size, 6, none⟩) (by simp) (.slice S p.parts.length d)
        have hwab := hbel.setCell (p := ⟨w.heap.size, 6, none⟩) (Nat.le_refl _) (.slice S p.parts.length d)
        have hSlt : ∀ g, Value.ownBlock (.slice S p.parts.length d) = some g → w.heap.size + 2 ≤ g := fun g hg => (hown.lt g hg).1
        have hcapd := own_cap hown
        have hcapm := own_capmax hown
        have hown2 := own_setFar (p := ⟨w.heap.size, 6, none⟩) hown (fun e => by have : w.heap.size + 2 ≤ w.heap.size := hSlt _ e; omega) (.slice S p.parts.length d)
        have inA : ∀ b, NewS (w.heap.size + 2) (Value.ownBlock (.slice S p.parts.length d)) wr b → NewS (w.heap.size + 2) (Value.ownBlock (.slice S p.parts.length d)) (wr.setCell ⟨w.heap.size, 6, none⟩ (.slice S p.parts.length d)) b := fun b hb => ⟨hb.1, by simp; exact hb.2.1, hb.2.2⟩
        have oldA : ∀ a : Addr, NewS (w.heap.size + 2) (Value.ownBlock (.slice S p.parts.length d)) wr a.block → (wr.setCell ⟨w.heap.size, 6, none⟩ (.slice S p.parts.length d)).cell? a = wr.cell? a := fun a ha => World.cell?_setCell_other _ _ _ _ (by rintro rfl; have := ha.1; simp at this; omega)
        have hpd2 := PartsAt.change inA oldA _ _ hpd
        have hs2 := SlS.change hs1 inA oldA
        have hszA : w.heap.size + 2 ≤ (wr.setCell ⟨w.heap.size, 6, none⟩ (.slice S p.parts.length d)).heap.size := by simp; omega
        have Hpack := Lib.hid (And.intro hwa1 (And.intro hwa2 (And.intro hwab (And.intro hown2 (And.intro hpd2 (And.intro hs2 hszA))))))
        obtain ⟨⟨x0, x1, x2, x3, x4, x5, x6⟩, xf⟩ := hbx
        have xf6 := xf 6
        clear hwa1 hwa2 hwab hown hown2 hpd hpd2 hs1 hs2 hszA inA oldA hbr hbel xf hSlt
        go_upto_region 9 with fail
        clear x0 x1 x2 x3 x4 x5 x6 xf6
        generalize wr.setCell ⟨w.heap.size, 6, none⟩ (.slice S p.parts.length d) = wa at Hpack ⊢
        obtain ⟨hwa1, hwa2, hwab, hown2, hpd2, hs2, hszA⟩ := Hpack.out
        clear Hpack
        obtain ⟨⟨x0, x1, x2, x3, x4, x5, x6⟩, xf⟩ := hwa1
        obtain ⟨⟨y0, y1, y2, y3, y4, y5, y6⟩, yf⟩ := hwa2
        have Hown := Lib.hid hown2
        have Hpd := Lib.hid hpd2
        have Hs1 := Lib.hid hs2
        have hbel := hwab
        clear hown2 hpd2 hs2 hwab
        go_wp2_with fail
        have hbx9 := BoxF.set7 (w := wa) (b := w.heap.size + 1) ⟨⟨y0, y1, y2, y3, y4, y5, y6⟩, yf⟩ (str p.type) (str p.cs) (str p.id) (str p.loc) (.int .i64 p.how) (.slice S1 p.body.length d1) (.slice S p.parts.length d)
        have far9 : ∀ a : Addr, a.block ≠ w.heap.size + 1 → (((((((wa.setCell ⟨w.heap.size + 1, 0, none⟩ (str p.type)).setCell ⟨w.heap.size + 1, 1, none⟩ (str p.cs)).setCell ⟨w.heap.size + 1, 2, none⟩ (str p.id)).setCell ⟨w.heap.size + 1, 3, none⟩ (str p.loc)).setCell ⟨w.heap.size + 1, 4, none⟩ (.int .i64 p.how)).setCell ⟨w.heap.size + 1, 5, none⟩ (.slice S1 p.body.length d1)).setCell ⟨w.heap.size + 1, 6, none⟩ (.slice S p.parts.length d)).cell? a = wa.cell? a := by
          intro a ha
          have h : ∀ (w' : World) k u, (w'.setCell ⟨w.heap.size + 1, k, none⟩ u).cell? a = w'.cell? a := fun w' k u => World.cell?_setCell_other _ _ _ _ (by rintro rfl; exact ha rfl)
          rw [h, h, h, h, h, h, h]
        have hown9 : (((((((wa.setCell ⟨w.heap.size + 1, 0, none⟩ (str p.type)).setCell ⟨w.heap.size + 1, 1, none⟩ (str p.cs)).setCell ⟨w.heap.size + 1, 2, none⟩ (str p.id)).setCell ⟨w.heap.size + 1, 3, none⟩ (str p.loc)).setCell ⟨w.heap.size + 1, 4, none⟩ (.int .i64 p.how)).setCell ⟨w.heap.size + 1, 5, none⟩ (.slice S1 p.body.length d1)).setCell ⟨w.heap.size + 1, 6, none⟩ (.slice S p.parts.length d)).ownsRow (w.heap.size + 2) 25 7 (.slice S p.parts.length d) p.parts.length (List.flatten rows) := by
          have hne : ∀ k, Value.ownBlock (.slice S p.parts.length d) ≠ some (⟨w.heap.size + 1, k, none⟩ : Addr).block := fun k e => by have : w.heap.size + 2 ≤ w.heap.size + 1 := (Hown.out.lt _ e).1; omega
          exact own_setFar (own_setFar (own_setFar (own_setFar (own_setFar (own_setFar (own_setFar Hown.out (hne 0) _) (hne 1) _) (hne 2) _) (hne 3) _) (hne 4) _) (hne 5) _) (hne 6) _
        have hbel9 : Below w.heap.size w (((((((wa.setCell ⟨w.heap.size + 1, 0, none⟩ (str p.type)).setCell ⟨w.heap.size + 1, 1, none⟩ (str p.cs)).setCell ⟨w.heap.size + 1, 2, none⟩ (str p.id)).setCell ⟨w.heap.size + 1, 3, none⟩ (str p.loc)).setCell ⟨w.heap.size + 1, 4, none⟩ (.int .i64 p.how)).setCell ⟨w.heap.size + 1, 5, none⟩ (.slice S1 p.body.length d1)).setCell ⟨w.heap.size + 1, 6, none⟩ (.slice S p.parts.length d)) :=
          ((((((hbel.setCell (Nat.le_succ _) _).setCell (Nat.le_succ _) _).setCell (Nat.le_succ _) _).setCell (Nat.le_succ _) _).setCell (Nat.le_succ _) _).setCell (Nat.le_succ _) _).setCell (Nat.le_succ _) _
        have hsz9 : (((((((wa.setCell ⟨w.heap.size + 1, 0, none⟩ (str p.type)).setCell ⟨w.heap.size + 1, 1, none⟩ (str p.cs)).setCell ⟨w.heap.size + 1, 2, none⟩ (str p.id)).setCell ⟨w.heap.size + 1, 3, none⟩ (str p.loc)).setCell ⟨w.heap.size + 1, 4, none⟩ (.int .i64 p.how)).setCell ⟨w.heap.size + 1, 5, none⟩ (.slice S1 p.body.length d1)).setCell ⟨w.heap.size + 1, 6, none⟩ (.slice S p.parts.length d)).heap.size = wa.heap.size := by simp
        generalize (((((((wa.setCell ⟨w.heap.size + 1, 0, none⟩ (str p.type)).setCell ⟨w.heap.size + 1, 1, none⟩ (str p.cs)).setCell ⟨w.heap.size + 1, 2, none⟩ (str p.id)).setCell ⟨w.heap.size + 1, 3, none⟩ (str p.loc)).setCell ⟨w.heap.size + 1, 4, none⟩ (.int .i64 p.how)).setCell ⟨w.heap.size + 1, 5, none⟩ (.slice S1 p.body.length d1)).setCell ⟨w.heap.size + 1, 6, none⟩ (.slice S p.parts.length d)) = w9 at hbx9 far9 hbel9 hsz9 hown9 ⊢
        obtain ⟨c0, c1, c2, c3, c4, c5, c6⟩ := hbx9
        refine bodyPost_ret (v := .agg #[str p.type, str p.cs, str p.id, str p.loc, .int .i64 p.how, .slice S1 p.body.length d1, .slice S p.parts.length d]) (by simp [results, Tryz.results35, go_sem, c0, c1, c2, c3, c4, c5, c6]) rfl ?_
        have inN : ∀ b, NewS (w.heap.size + 2) (Value.ownBlock (.slice S p.parts.length d)) wa b → NewS w.heap.size (Value.ownBlock (.slice S p.parts.length d)) w9 b := fun b hb => ⟨by have := hb.1; omega, by have := hb.2.1; omega, hb.2.2⟩
        have oldN : ∀ a : Addr, NewS (w.heap.size + 2) (Value.ownBlock (.slice S p.parts.length d)) wa a.block → w9.cell? a = wa.cell? a := fun a ha => far9 a (by have := ha.1; omega)
        obtain ⟨hd1, hd2⟩ := Hdd.out
        exact ⟨S1, d1, S, d, rows, rfl, own_base hown9 (by omega), PartsAt.change inN oldN _ _ Hpd.out, SlS.change Hs1.out inN oldN, hd1, hd2, hcapd, hcapm, Hbds.out, hbel9⟩
end Go.Proofs.YtlbdnohnngkapaaGreatDoor

namespace Go.Proofs.YtlbdnohnngkapaaGreatDoor
open Go.RowKit

/-! ### Plain laws of what package rewrite computes -/
theorem namesF_codes (parts : Int) : ∀ (r ahead : List NameD), namesF parts ahead r = 0 ∨ namesF parts ahead r = 5 ∨ namesF parts ahead r = 1 ∨ namesF parts ahead r = 6
  | [], _ => .inl rfl
  | n :: r, ahead => by
    rw [namesF]
    split
    · exact .inr (.inl rfl)
    · split
      · exact .inr (.inr (.inl rfl))
      · split
        · exact .inr (.inr (.inr rfl))
        · exact namesF_codes parts r _
theorem namesF_good (parts : Int) : ∀ (r ahead : List NameD), namesF parts ahead r = 0 → ∀ n ∈ r, nameB n.name = true
  | [], _, _ => by simp
  | m :: r, ahead, h => by
    rw [namesF] at h
    split at h
    · cases h
    · split at h
      · cases h
      · rename_i h1
        split at h
        · cases h
        · intro n hn
          rcases List.mem_cons.1 hn with rfl | hn
          · simpa using h1
          · exact namesF_good parts r _ h n hn
theorem ofN_none : ∀ (ns : List NameD) (k : Int), (∀ n ∈ ns, n.part ≠ k) → ofN ns k = []
  | [], k, _ => rfl
  | n :: r, k, h => by
    rw [ofN, if_neg (h n (by simp)), ofN_none r k (fun m hm => h m (by simp [hm]))]
/-- Where no goal has a name all bodies stay. -/
theorem body_same (p : PartD) (ns : List NameD) (G : List GoalD) (hg : goalsD p = some G) (h : ∀ g ∈ G, ofN ns g.find = []) (i : Nat) (x : PartD) (hx : (flatD p)[i]? = some x) : bodyN ns G x i = (x.body, 0) := by
  obtain ⟨s, _, h2, h3⟩ := goals_of p G hg i x hx
  unfold bodyN
  split
  · rfl
  · rename_i ht
    have hts : textsN ns G i = List.replicate (textsN ns G i).length [] := by
      refine List.eq_replicate_iff.2 ⟨rfl, fun t htm => ?_⟩
      unfold textsN at htm
      obtain ⟨g, hgm, rfl⟩ := List.mem_map.1 htm
      exact h g ((List.mem_filter.1 hgm).1)
    have htt : x.type = htmlB := by
      rcases Classical.em (x.type = htmlB) with h' | h'
      · exact h'
      · exfalso
        apply ht
        unfold textsN
        rw [h3, if_neg h']
        rfl
    rw [if_pos htt] at h3
    have hlen : (textsN ns G i).length = (findE x.body).1.length := by unfold textsN; rw [h3]; simp
    obtain ⟨e1, e2, _⟩ := putE_some (ts := textsN ns G i) (h2 htt)
    rw [hts, hlen]
    unfold putE
    rw [if_neg (show ¬ 4000 < x.body.length by omega)]
    exact put_none x.body _ e1 e2
theorem bodies_same (p : PartD) (ns : List NameD) (G : List GoalD) (hg : goalsD p = some G) (h : ∀ g ∈ G, ofN ns g.find = []) : bodiesF ns G (flatD p) 0 [] = ((flatD p).map (·.body), 0) := by
  have := bodiesF_same ns G (flatD p) 0 [] (fun m x hx => by rw [Nat.zero_add]; exact body_same p ns G hg h m x hx)
  simpa using this
theorem goalsE_ok {p : PartD} {G : List GoalD} (hc : checkD p = 0) (hg : goalsD p = some G) : goalsE p = (G, 0) := by unfold goalsE; rw [if_pos hc, hg]
theorem goalsE_zero {p : PartD} (hc : checkD p = 0) (h : (goalsE p).2 = 0) : goalsD p = some (goalsE p).1 := by
  unfold goalsE at h ⊢
  rw [if_pos hc] at h ⊢
  cases hg : goalsD p with
  | none => rw [hg] at h; simp at h
  | some G => rfl
theorem putD_all (p : PartD) : putD p ((flatD p).map (·.body)) = p := by have := putD_same p []; rwa [List.append_nil] at this
/-- Without names nothing is changed; names to which nothing leads change nothing. -/
theorem names_none (p : PartD) (ns : List NameD) (hc : checkD p = 0) (hg : (goalsE p).2 = 0) (h : ∀ g ∈ (goalsE p).1, ofN ns g.find = []) :
    namesE p ns = if namesF (flatD p).length [] ns = 0 then (p, 0) else (zeroP, namesF (flatD p).length [] ns) := by
  have hG := goalsE_zero hc hg
  have hb := bodies_same p ns _ hG h
  unfold namesE
  rw [if_neg (by simp [hc])]
  by_cases hn : namesF (flatD p).length [] ns = 0
  · rw [if_neg (by simp [hn]), if_neg (by simp [hg]), hb, if_neg (by simp), if_pos hn, putD_all]
  · rw [if_pos hn, if_neg hn]
/-- What names are put in by. -/
theorem namesE_parts {p : PartD} {ns : List NameD} (h : (namesE p ns).2 = 0) : checkD p = 0 ∧ namesF (flatD p).length [] ns = 0 ∧ (goalsE p).2 = 0 ∧ goalsD p = some (goalsE p).1 ∧
    ∃ bs, bodiesF ns (goalsE p).1 (flatD p) 0 [] = (bs, 0) ∧ (namesE p ns).1 = putD p bs ∧ bs.length = (flatD p).length := by
  unfold namesE at h ⊢
  split at h
  · rename_i h1; exact absurd h h1
  · rename_i h1
    rw [if_neg h1]
    split at h
    · rename_i h2; exact absurd h h2
    · rename_i h2
      rw [if_neg h2]
      split at h
      · rename_i h3; exact absurd h h3
      · rename_i h3
        rw [if_neg h3]
        split at h
        · rename_i h4; exact absurd h h4
        · rename_i h4
          rw [if_neg h4]
          have hc : checkD p = 0 := by simpa using h1
          have hg : (goalsE p).2 = 0 := by simpa using h3
          have hb : bodiesF ns (goalsE p).1 (flatD p) 0 [] = ((bodiesF ns (goalsE p).1 (flatD p) 0 []).1, 0) := Prod.ext rfl (by simpa using h4)
          have hl := bodiesF_len ns _ _ _ _ _ hb
          exact ⟨hc, by simpa using h2, hg, goalsE_zero hc hg, _, hb, rfl, by simpa using hl⟩
/-- A part with blanks for what is in it. -/
def keyD (x : PartD) : PartD := { x with parts := List.replicate x.parts.length zeroP }
def setK (x : PartD) (b : List UInt8) : PartD := keyD { x with body := b }
theorem putsD_len : ∀ (ps : List PartD) (bs : List (List UInt8)), (putsD ps bs).length = ps.length
  | [], _ => by rw [putsD]
  | p :: ps, bs => by rw [putsD, List.length_cons, putsD_len ps, List.length_cons]
mutual
theorem putD_key : ∀ (p : PartD) (bs : List (List UInt8)), (flatD p).length ≤ bs.length → (flatD (putD p bs)).map keyD = List.zipWith setK (flatD p) bs
  | ⟨t, cs, id, loc, how, body, parts⟩, bs, h => by
    rw [flatD, List.length_cons] at h
    cases bs with
    | nil => simp at h
    | cons b bs =>
      rw [putD, flatD, flatD, List.map_cons, List.zipWith_cons_cons, List.headD_cons, List.drop_one, List.tail_cons, putsD_key parts bs (by simpa using h)]
      congr 1
      simp only [keyD, setK, putsD_len]
theorem putsD_key : ∀ (ps : List PartD) (bs : List (List UInt8)), (flatsD ps).length ≤ bs.length → (flatsD (putsD ps bs)).map keyD = List.zipWith setK (flatsD ps) bs
  | [], bs, h => by rw [putsD, flatsD]; simp
  | p :: ps, bs, h => by
    rw [flatsD, List.length_append] at h
    rw [putsD, flatsD, flatsD, List.map_append, putD_key p bs (by omega), putsD_key ps _ (by rw [List.length_drop]; omega), zip_app _ _ _ _ (by omega)]
end
mutual
theorem cnt_put : ∀ (p : PartD) (k : Nat) (bs : List (List UInt8)), cntD k (putD p bs) = cntD k p
  | ⟨t, cs, id, loc, how, body, parts⟩, 0, bs => by rw [putD, cntD, cntD]
  | ⟨t, cs, id, loc, how, body, parts⟩, k + 1, bs => by rw [putD, cntD, cntD, cnts_put parts k 1 _]
theorem cnts_put : ∀ (ps : List PartD) (k n : Nat) (bs : List (List UInt8)), cntsD k n (putsD ps bs) = cntsD k n ps
  | [], k, n, bs => by rw [putsD]
  | p :: ps, k, n, bs => by
    rw [putsD, cntsD_cons, cntsD_cons, cnt_put p k bs]
    cases cntD k p with
    | none => rfl
    | some c =>
      simp only [cntNext]
      split
      · rfl
      · exact cnts_put ps k _ _
end
theorem firstErr_zero : ∀ (L : List PartD), (∀ q ∈ L, chkD q = 0) → firstErr L = 0
  | [], _ => rfl
  | q :: r, h => by rw [firstErr, if_pos (h q (by simp)), firstErr_zero r (fun x hx => h x (by simp [hx]))]
theorem chk_key (x : PartD) : chkD (keyD x) = chkD x := by unfold chkD keyD; simp
theorem chk_zero (x : PartD) (b : List UInt8) (h : chkD x = 0) (hb : b.length ≤ 4000) (hm : manyB x.type = true → b = x.body) : chkD { x with body := b } = 0 := by
  unfold chkD chkB at h ⊢
  simp only
  split at h
  · cases h
  · rename_i h1
    rw [if_neg h1]
    split at h
    · cases h
    · rename_i h2
      rw [if_neg h2]
      split at h
      · cases h
      · rename_i h3
        rw [if_neg (show ¬ decide (4000 < b.length) = true by simpa using hb)]
        split at h
        · cases h
        · rename_i h4
          cases hmm : manyB x.type with
          | false => rw [hmm] at h4; rw [if_neg (by simpa using h4)]
          | true => rw [hm hmm] ; rw [hmm] at h4; rw [if_neg h4]
theorem many_html : manyB htmlB = false := by decide +kernel
/-- What stands in each place behind Names. -/
theorem only_at {p : PartD} {ns : List NameD} (h : (namesE p ns).2 = 0) (i : Nat) (x : PartD) (hx : (flatD p)[i]? = some x) : ∃ y, (flatD (namesE p ns).1)[i]? = some y ∧
    keyD y = setK x y.body ∧ bodyN ns (goalsE p).1 x i = (y.body, 0) ∧ y.body.length ≤ 4000 ∧ (x.type ≠ htmlB → y.body = x.body) := by
  obtain ⟨hc, hn, hg, hG, bs, hb, hq, hl⟩ := namesE_parts h
  have hi : i < (flatD p).length := by
    rcases Nat.lt_or_ge i (flatD p).length with h' | h'
    · exact h'
    · rw [List.getElem?_eq_none h'] at hx; cases hx
  have hk := putD_key p bs (by omega)
  have hlen : (flatD (putD p bs)).length = (flatD p).length := by have := congrArg List.length hk; simpa [hl] using this
  have hbi : bs[i]? = some (bs.getD i []) := by rw [List.getD_eq_getElem?_getD, List.getElem?_eq_getElem (by omega)]; rfl
  have hy := List.getElem?_eq_getElem (l := flatD (putD p bs)) (i := i) (by omega)
  obtain ⟨y, hyy⟩ : ∃ y, y = (flatD (putD p bs))[i]'(by omega) := ⟨_, rfl⟩
  rw [← hyy] at hy
  have h1 := congrArg (·[i]?) hk
  simp only [List.getElem?_map, hy, Option.map_some, List.getElem?_zipWith, hx, hbi] at h1
  have h1 := Option.some.inj h1
  have hyb : y.body = bs.getD i [] := by have := congrArg PartD.body h1; simpa [keyD, setK] using this
  have hbn := bodiesF_at ns _ _ _ _ _ hb i x hx
  simp only [List.length_nil, Nat.zero_add] at hbn
  rw [← hyb] at hbn
  have hchk := (checkD_ok p hc).2 x (List.mem_of_getElem? hx)
  have h4 := chk_body x hchk
  obtain ⟨s, _, g2, g3⟩ := goals_of p _ hG i x hx
  rw [hq]
  refine ⟨y, hy, by rw [← hyb] at h1; exact h1, hbn, ?_, ?_⟩
  · unfold bodyN at hbn
    split at hbn
    · injection hbn with hbn _
      rw [← hbn]
      exact h4
    · have hbn2 := congrArg Prod.fst hbn
      have hbn3 := congrArg Prod.snd hbn
      simp only at hbn2 hbn3
      unfold putE at hbn2 hbn3
      rw [if_neg (by omega)] at hbn2 hbn3
      unfold putB at hbn2 hbn3
      cases hf : findB x.body with
      | none => rw [hf] at hbn3; simp at hbn3
      | some l =>
        rw [hf] at hbn2 hbn3
        simp only at hbn2 hbn3
        split at hbn3
        · simp at hbn3
        · rename_i e1
          rw [if_neg e1] at hbn2
          split at hbn3
          · simp at hbn3
          · rename_i e2
            rw [if_neg e2] at hbn2
            split at hbn3
            · simp at hbn3
            · rename_i e3
              rw [if_neg e3] at hbn2
              simp only at hbn2
              rw [← hbn2]
              omega
  · intro ht
    unfold bodyN at hbn
    rw [if_pos (by unfold textsN; rw [g3, if_neg ht]; rfl)] at hbn
    injection hbn with hbn _
    exact hbn.symm
theorem only_len {p : PartD} {ns : List NameD} (h : (namesE p ns).2 = 0) : (flatD (namesE p ns).1).length = (flatD p).length := by
  obtain ⟨hc, hn, hg, hG, bs, hb, hq, hl⟩ := namesE_parts h
  have hk := putD_key p bs (by omega)
  rw [hq]
  have := congrArg List.length hk
  simpa [hl] using this
theorem key_parts {y x : PartD} {b : List UInt8} (h : keyD y = setK x b) : y.type = x.type ∧ y.cs = x.cs ∧ y.id = x.id ∧ y.loc = x.loc ∧ y.how = x.how ∧ y.parts.length = x.parts.length := by
  have h0 := congrArg PartD.type h
  have h1 := congrArg PartD.cs h
  have h2 := congrArg PartD.id h
  have h3 := congrArg PartD.loc h
  have h4 := congrArg PartD.how h
  have h5 := congrArg (fun q : PartD => q.parts.length) h
  simp only [keyD, setK, List.length_replicate] at h0 h1 h2 h3 h4 h5
  exact ⟨h0, h1, h2, h3, h4, h5⟩
/-- The bundle behind Names is one. -/
theorem only_check {p : PartD} {ns : List NameD} (h : (namesE p ns).2 = 0) : checkD (namesE p ns).1 = 0 := by
  obtain ⟨hc, hn, hg, hG, bs, hb, hq, hl⟩ := namesE_parts h
  have hcc := hc
  have hcnt : cntD 3 (namesE p ns).1 = cntD 3 p := by rw [hq, cnt_put]
  cases hct : cntD 3 p with
  | none => rw [checkD_none p hct] at hc; cases hc
  | some c =>
    rw [checkD_some _ c (by rw [hcnt, hct])]
    refine firstErr_zero _ fun y hy => ?_
    obtain ⟨i, hi, hyi⟩ := List.getElem_of_mem hy
    have hi2 : i < (flatD p).length := by rw [← only_len h]; exact hi
    obtain ⟨y', h1, h2, h3, h4, h5⟩ := only_at h i _ (List.getElem?_eq_getElem hi2)
    rw [List.getElem?_eq_getElem hi, hyi] at h1
    have h1 := Option.some.inj h1
    subst h1
    have hx := (checkD_ok p hcc).2 _ (List.getElem_mem hi2)
    rw [← chk_key y, h2]
    unfold setK
    rw [chk_key]
    exact chk_zero _ _ hx h4 (fun hm => h5 (fun e => by rw [e, many_html] at hm; cases hm))
theorem same_setB {x y : PartD} (h : keyD y = setK x y.body) : sameD (bareD x) { bareD y with body := x.body } = true := by
  obtain ⟨h0, h1, h2, h3, h4, _⟩ := key_parts h
  have : { bareD y with body := x.body } = bareD x := by
    cases x; cases y
    simp only at h0 h1 h2 h3 h4
    subst h0 h1 h2 h3 h4
    rfl
  rw [this]
  exact sameD_refl _
theorem putsL_len (b c : List UInt8) : ∀ (ls ms : List LinkD) (ts : List (List UInt8)) (x y : Nat), ls.length = ms.length → ts.length = ls.length → putsL b c x y ls ms ts = true → ∀ (n : Nat) (l m : LinkD) (t : List UInt8), ls[n]? = some l → ms[n]? = some m → ts[n]? = some t → m.text = if t = [] then l.text else t
  | [], ms, ts, x, y, _, _, _, n, l, m, t, hl, _, _ => by simp at hl
  | a :: ls, [], ts, x, y, h, _, _, n, l, m, t, _, _, _ => by simp at h
  | a :: ls, b' :: ms, [], x, y, _, h, _, n, l, m, t, _, _, _ => by simp at h
  | a :: ls, b' :: ms, t' :: ts, x, y, h1, h2, h, n, l, m, t, hl, hm, ht => by
    simp only [putsL, Bool.and_eq_true] at h
    cases n with
    | zero =>
      simp at hl hm ht
      subst hl; subst hm; subst ht
      have := h.1.1.1
      simpa using this
    | succ n => exact putsL_len b c ls ms ts _ _ (by simpa using h1) (by simpa using h2) h.2 n l m t (by simpa using hl) (by simpa using hm) (by simpa using ht)
/-- What a page says behind Names. -/
theorem only_page {p : PartD} {ns : List NameD} (h : (namesE p ns).2 = 0) (i : Nat) (x : PartD) (hx : (flatD p)[i]? = some x) (ht : x.type = htmlB) (b : List UInt8) (hb : bodyN ns (goalsE p).1 x i = (b, 0)) :
    (findE b).2 = 0 ∧ (findE b).1.length = ((goalsE p).1.filter (fun g => g.part == i)).length ∧ putE x.body (textsN ns (goalsE p).1 i) = (b, 0) ∧
    ∀ (n : Nat) (g : GoalD) (m : LinkD), ((goalsE p).1.filter (fun g => g.part == i))[n]? = some g → (findE b).1[n]? = some m → m.text = if ofN ns g.find = [] then g.l.text else ofN ns g.find := by
  obtain ⟨hc, hn, hg, hG, bs, _, hq, hl⟩ := namesE_parts h
  obtain ⟨s, _, g2, g3⟩ := goals_of p _ hG i x hx
  have h4 := chk_body x ((checkD_ok p hc).2 x (List.mem_of_getElem? hx))
  rw [if_pos ht] at g3
  have g2 := g2 ht
  have hlen : (textsN ns (goalsE p).1 i).length = (findE x.body).1.length := by unfold textsN; rw [g3]; simp
  obtain ⟨e1, e2, _⟩ := putE_some (ts := textsN ns (goalsE p).1 i) g2
  have hput : putE x.body (textsN ns (goalsE p).1 i) = (b, 0) := by
    unfold bodyN at hb
    split at hb
    · rename_i h0
      have hz : (findE x.body).1.length = 0 := by rw [← hlen, h0]; rfl
      rw [h0]
      have := put_none x.body _ e1 e2
      rw [hz] at this
      unfold putE
      rw [if_neg (by omega)]
      rw [← hb]
      exact this
    · exact hb
  have hputB : putB x.body (textsN ns (goalsE p).1 i) = (b, 0) := by unfold putE at hput; rwa [if_neg (by omega)] at hput
  obtain ⟨m, m1, m2, m3⟩ := puts_law x.body _ (textsN ns (goalsE p).1 i) e1 (by rw [hputB])
  rw [hputB] at m1 m3
  simp only at m1 m3
  have hb4 : ¬ 4000 < b.length := by
    obtain ⟨y, y1, y2, y3, y4, _⟩ := only_at h i x hx
    rw [hb] at y3
    injection y3 with y3 _
    rw [y3]
    omega
  have hfe : findE b = (m, 0) := by unfold findE; rw [if_neg hb4, m1]; rfl
  rw [hfe]
  refine ⟨rfl, by rw [g3]; simpa using m2, hput, fun n g k hg1 hm1 => ?_⟩
  have hn1 : n < (findE x.body).1.length := by
    rcases Nat.lt_or_ge n m.length with h' | h'
    · omega
    · simp only at hm1; rw [List.getElem?_eq_none h'] at hm1; cases hm1
  have hgl : g.l = (findE x.body).1[n] := by
    rw [g3, List.getElem?_map, List.getElem?_eq_getElem hn1] at hg1
    have := Option.some.inj hg1
    rw [← this]
    rfl
  have ht1 : (textsN ns (goalsE p).1 i)[n]? = some (ofN ns g.find) := by unfold textsN; rw [List.getElem?_map, hg1]; rfl
  have := putsL_len _ _ _ _ _ _ _ m2.symm hlen m3 n _ k _ (List.getElem?_eq_getElem hn1) hm1 ht1
  rw [this, hgl]
end Go.Proofs.YtlbdnohnngkapaaGreatDoor

namespace Go.Proofs.YtlbdnohnngkapaaGreatDoor
open Go.RowKit

/-- What changes: blocks from lo to hi, and one more. -/
def PutFr (lo hi atb : Nat) (w w' : World) : Prop := w'.os = w.os ∧ w'.tape = w.tape ∧ w'.output = w.output ∧ w.heap.size ≤ w'.heap.size ∧ ∀ b, b < w.heap.size → b ≠ atb → ¬ (lo ≤ b ∧ b < hi) → w'.heap[b]? = w.heap[b]?
theorem PutFr.refl (lo hi atb : Nat) (w : World) : PutFr lo hi atb w w := ⟨rfl, rfl, rfl, Nat.le_refl _, fun _ _ _ _ => rfl⟩
theorem PutFr.below {lo hi atb : Nat} {w w' : World} {C : Nat} (h : Below C w w') (hC : w.heap.size ≤ C) : PutFr lo hi atb w w' := ⟨h.os, h.tape, h.output, h.size, fun b hb _ _ => h.block b (by omega)⟩
theorem PutFr.trans {lo hi lo' hi' atb : Nat} {w w' w'' : World} (h : PutFr lo hi atb w w') (h' : PutFr lo' hi' atb w' w'') (h1 : lo ≤ lo') (h2 : hi' ≤ hi) : PutFr lo hi atb w w'' := by
  obtain ⟨a1, a2, a3, a4, a5⟩ := h
  obtain ⟨b1, b2, b3, b4, b5⟩ := h'
  refine ⟨b1.trans a1, b2.trans a2, b3.trans a3, by omega, fun b hb hne hn => ?_⟩
  rw [b5 b (by omega) hne (by omega)]
  exact a5 b hb hne hn
theorem PutFr.set {lo hi atb : Nat} {w w' : World} (h : PutFr lo hi atb w w') {p : Addr} (hp : w.heap.size ≤ p.block ∨ p.block = atb ∨ (lo ≤ p.block ∧ p.block < hi)) (u : Value) : PutFr lo hi atb w (w'.setCell p u) := by
  obtain ⟨a1, a2, a3, a4, a5⟩ := h
  refine ⟨a1, a2, a3, by simpa using a4, fun b hb hne hn => ?_⟩
  rw [← a5 b hb hne hn]
  simp only [World.setCell, Array.getElem?_modify]
  rw [if_neg (by rintro rfl; rcases hp with h | h | h; omega; exact hne h; exact hn h)]
theorem PutFr.drew {lo hi atb : Nat} {w w' : World} (h : PutFr lo hi atb w w') : PutFr lo hi atb w w'.drew := h
def CntAt (w : World) (atb a : Nat) : Prop := w.heap[atb]? = some (.cells #[.int .i64 (a : Nat)] 3 (0, 0))
theorem CntAt.keep {w w' : World} {atb a : Nat} (h : CntAt w atb a) (hk : w'.heap[atb]? = w.heap[atb]?) : CntAt w' atb a := hk.trans h
theorem CntAt.cell {w : World} {atb a : Nat} (h : CntAt w atb a) : w.cell? ⟨atb, 0, none⟩ = some (.int .i64 (a : Nat)) ∧ w.frozen? ⟨atb, 0, none⟩ = false ∧ atb < w.heap.size := by
  unfold CntAt at h
  refine ⟨by unfold World.cell?; rw [h]; rfl, by unfold World.frozen?; rw [h]; simp, ?_⟩
  rcases Nat.lt_or_ge atb w.heap.size with h' | h'
  · exact h'
  · rw [Array.getElem?_eq_none h'] at h; cases h
theorem CntAt.set {w : World} {atb a : Nat} (h : CntAt w atb a) (b : Nat) : CntAt (w.setCell ⟨atb, 0, none⟩ (.int .i64 (b : Nat))) atb b := by
  unfold CntAt at h ⊢
  simp only [World.setCell, Array.getElem?_modify, if_pos, h, Option.map_some]
  rfl
theorem CntAt.far {w : World} {atb a : Nat} (h : CntAt w atb a) {p : Addr} (hp : p.block ≠ atb) (u : Value) : CntAt (w.setCell p u) atb a := by
  refine h.keep ?_
  simp only [World.setCell, Array.getElem?_modify]
  rw [if_neg hp]
theorem BoxF.keep {w w' : World} {b : Nat} {v0 v1 v2 v3 v4 v5 v6 : Value} (h : BoxF w b v0 v1 v2 v3 v4 v5 v6) (hk : w'.heap[b]? = w.heap[b]?) : BoxF w' b v0 v1 v2 v3 v4 v5 v6 := by
  have hc : ∀ k, w'.cell? ⟨b, k, none⟩ = w.cell? ⟨b, k, none⟩ := fun k => World.cell?_of_block hk
  have hf : ∀ k, w'.frozen? ⟨b, k, none⟩ = w.frozen? ⟨b, k, none⟩ := fun k => World.frozen?_of_block hk
  obtain ⟨⟨h0, h1, h2, h3, h4, h5, h6⟩, hz⟩ := h
  exact ⟨⟨(hc 0).trans h0, (hc 1).trans h1, (hc 2).trans h2, (hc 3).trans h3, (hc 4).trans h4, (hc 5).trans h5, (hc 6).trans h6⟩, fun k => (hf k).trans (hz k)⟩
theorem flats_take_le : ∀ (ps : List PartD) (i : Nat), (flatsD (ps.take i)).length ≤ (flatsD ps).length
  | [], i => by simp
  | p :: ps, 0 => by rw [List.take_zero, show flatsD [] = [] from by rw [flatsD]]; simp
  | p :: ps, i + 1 => by
    rw [List.take_succ_cons, flatsD, flatsD, List.length_append, List.length_append]
    have := flats_take_le ps i
    omega
/-- The bodies that are to be put in. -/
def BodsAt (L B0 : Nat) (w : World) (Sb : Option Addr) (nb : Nat) (bs : List (List UInt8)) : Prop :=
  bs.length = nb ∧ ∃ vs : List Value, Sl w B0 1 Sb nb vs ∧ ∀ j v, vs[j]? = some v → ∃ A c, v = .slice A (bs.getD j []).length c ∧ SlS (fun b => L ≤ b ∧ b < B0) w 1 A (bs.getD j []).length (Lib.byteCells (bs.getD j [])) ∧ (bs.getD j []).length ≤ c ∧ c ≤ maxLen
theorem BodsAt.keep {L B0 : Nat} {w w' : World} {Sb : Option Addr} {nb : Nat} {bs : List (List UInt8)} (h : BodsAt L B0 w Sb nb bs) (hk : ∀ p : Addr, p.block < B0 → w'.cell? p = w.cell? p) : BodsAt L B0 w' Sb nb bs := by
  obtain ⟨h1, vs, h2, h3⟩ := h
  refine ⟨h1, vs, h2.keep hk, fun j v hv => ?_⟩
  obtain ⟨A, c, g1, g2, g3, g4⟩ := h3 j v hv
  exact ⟨A, c, g1, SlS.change g2 (fun _ h => h) (fun p hp => hk p hp.2), g3, g4⟩
def PutTRes (p : PartD) (bs : List (List UInt8)) (L B0 lo hi atb a : Nat) (w : World) (e : Ending) (w' : World) : Prop :=
  ∃ v : List Value, e = .returned (.agg v.toArray) ∧ PartAt (fun b => (L ≤ b ∧ b < B0) ∨ (lo ≤ b ∧ b < hi)) w' (putD p (bs.drop a)) v ∧ CntAt w' atb (a + (flatD p).length) ∧ PutFr lo hi atb w w'
def PutTRel (p : PartD) (bs : List (List UInt8)) (rows : List (List Value)) (n2 L B0 lo lo2 hi atb a h : Nat) (A2 : Option Addr) (c2 : Nat) (S1 : Option Addr) (n1 d1 : Nat) (w0 : World) (iv : Value) (wr : World) : Prop :=
  ∃ (i mid : Nat) (done : List (List Value)), iv = .int .i64 (i : Nat) ∧ i ≤ n2 ∧ done.length = i ∧ wr.ownsRow lo 25 7 (.slice A2 n2 c2) n2 (done ++ rows.drop i).flatten ∧
    PartsAt (fun b => (L ≤ b ∧ b < B0) ∨ (lo2 ≤ b ∧ b < mid)) wr (putsD (p.parts.take i) (bs.drop (a + 1))) done ∧ TrsAt wr mid hi (p.parts.drop i) (rows.drop i) ∧ lo2 ≤ mid ∧ mid ≤ hi ∧
    BoxF wr h (str p.type) (str p.cs) (str p.id) (str p.loc) (.int .i64 p.how) (.slice S1 n1 d1) (.slice A2 n2 c2) ∧ (∃ v0 v1 v2 v3 v4 v5 v6, BoxF wr (h + 1) v0 v1 v2 v3 v4 v5 v6) ∧
    CntAt wr atb (a + 1 + (flatsD (p.parts.take i)).length) ∧ PutFr lo hi atb w0 wr ∧ h + 2 ≤ wr.heap.size
theorem putsD_app : ∀ (ps qs : List PartD) (bs : List (List UInt8)), putsD (ps ++ qs) bs = putsD ps bs ++ putsD qs (bs.drop (flatsD ps).length)
  | [], qs, bs => by rw [List.nil_append, show putsD [] bs = [] from by rw [putsD], show flatsD [] = [] from by rw [flatsD]]; simp
  | p :: ps, qs, bs => by
    rw [List.cons_append, putsD, putsD, putsD_app ps qs, flatsD, List.length_append, List.drop_drop, List.cons_append]
theorem flatsD_take (ps : List PartD) (i : Nat) (q : PartD) (h : ps[i]? = some q) : (flatsD (ps.take (i + 1))).length = (flatsD (ps.take i)).length + (flatD q).length := by
  rw [List.take_add_one, h]
  show (flatsD (ps.take i ++ [q])).length = _
  have : ∀ a b : List PartD, flatsD (a ++ b) = flatsD a ++ flatsD b := by
    intro a b
    induction a with
    | nil => rw [List.nil_append, show flatsD [] = [] from by rw [flatsD], List.nil_append]
    | cons x a ih => rw [List.cons_append, flatsD, flatsD, ih, List.append_assoc]
  rw [this, List.length_append, show flatsD [q] = flatD q ++ [] from by rw [flatsD, show flatsD [] = [] from by rw [flatsD]], List.append_nil]
set_option maxRecDepth 100000 in
set_option maxHeartbeats 8000000 in
theorem putT_any (bs : List (List UInt8)) (L B0 nb cb atb : Nat) (Sb : Option Addr) (hnb : nb ≤ 1000) (hB0 : B0 ≤ atb) (k : Nat) : ∀ (p : PartD) (v : List Value) (lo hi a : Nat) (w : World), (flatD p).length ≤ k → k ≤ 1000 → TrAt w lo hi p v → B0 ≤ lo → hi ≤ w.heap.size →
    ¬ (lo ≤ atb ∧ atb < hi) → CntAt w atb a → BodsAt L B0 w Sb nb bs → a + (flatD p).length ≤ nb →
    Calls Tryz.prog 68 #[.agg v.toArray, .slice Sb nb cb, .pointer (some ⟨atb, 0, none⟩)] w (PutTRes p bs L B0 lo hi atb a w) := by
  induction k with
  | zero => intro p v lo hi a w h; rw [flatD_eq] at h; simp at h
  | succ k ih =>
    intro p v lo hi a w hk hk1 htr hlo hhi hat hcnt hbods hroom
    obtain ⟨A, c, A2, c2, rows, lo2, rfl, hbds, hc2, hcm2, hown, hlo2, h1, h2, htrs⟩ := htr.open
    obtain ⟨hcc, hcf, hclt⟩ := hcnt.cell
    have hfp : (flatD p).length = (flatsD p.parts).length + 1 := by rw [flatD_eq, List.length_cons]
    have hnp : p.parts.length ≤ 1000 := by have := flatsD_len p.parts; omega
    obtain ⟨hbl, vs, hvs, hvb⟩ := hbods
    have hav : a < nb := by omega
    obtain ⟨bb, offb, u, hSb, hbb, hu, hcu⟩ := hvs.at_ hav
    obtain ⟨Ab, cb', rfl, hbyb, hbc1, hbc2⟩ := hvb a u hu
    subst hSb
    obtain ⟨x, hx⟩ : ∃ x, x = bs.getD a [] := ⟨_, rfl⟩
    rw [← hx] at hbyb hbc1 hcu
    obtain ⟨W, hW⟩ : ∃ W, W = (w.alloc (.cells #[str p.type, str p.cs, str p.id, str p.loc, .int .i64 p.how, .slice A p.body.length c, .slice A2 p.parts.length c2] 25)).alloc (.cells #[.string ⟨#[]⟩, .string ⟨#[]⟩, .string ⟨#[]⟩, .string ⟨#[]⟩, .int .i64 0, .slice none 0 0, .slice none 0 0] 25) := ⟨_, rfl⟩
    have hbW : Below w.heap.size w W := by rw [hW]; exact ((Below.refl _ w).alloc (Nat.le_refl _) _).alloc (by simp) _
    have hsW : W.heap.size = w.heap.size + 2 := by rw [hW]; simp
    have hx1 : BoxF W w.heap.size (str p.type) (str p.cs) (str p.id) (str p.loc) (.int .i64 p.how) (.slice A p.body.length c) (.slice A2 p.parts.length c2) := by
      refine BoxF.of_block (t := 25) ?_
      rw [hW, Lib.alloc_old _ _ _ (by simp)]
      exact heap_alloc_new w _
    have hx2 : BoxF W (w.heap.size + 1) (.string ⟨#[]⟩) (.string ⟨#[]⟩) (.string ⟨#[]⟩) (.string ⟨#[]⟩) (.int .i64 0) (.slice none 0 0) (.slice none 0 0) := by
      refine BoxF.of_block (t := 25) ?_
      rw [hW]
      have := heap_alloc_new (w.alloc (.cells #[str p.type, str p.cs, str p.id, str p.loc, .int .i64 p.how, .slice A p.body.length c, .slice A2 p.parts.length c2] 25)) (.cells #[.string ⟨#[]⟩, .string ⟨#[]⟩, .string ⟨#[]⟩, .string ⟨#[]⟩, .int .i64 0, .slice none 0 0, .slice none 0 0] 25)
      simpa using this
    have hcW : CntAt W atb a := hcnt.keep (hbW.block atb hclt)
    obtain ⟨d0, d1, _⟩ := hcW.cell
    have d2 : W.cell? ⟨bb, offb + a, none⟩ = some (.slice Ab x.length cb') := by rw [hbW.cell (by show bb < _; omega)]; exact hcu
    have hpos : (a : Int) < nb := by omega
    have hatne : atb ≠ w.heap.size := by omega
    -- the world behind the first two statements
    obtain ⟨w2, hw2⟩ : ∃ w2, w2 = (W.setCell ⟨w.heap.size, 5, none⟩ (.slice Ab x.length cb')).setCell ⟨atb, 0, none⟩ (.int .i64 ((a : Int) + 1)) := ⟨_, rfl⟩
    have hbx2 : BoxF w2 w.heap.size (str p.type) (str p.cs) (str p.id) (str p.loc) (.int .i64 p.how) (.slice Ab x.length cb') (.slice A2 p.parts.length c2) := by
      rw [hw2]
      exact (hx1.s5 _).setFar hatne _
    have hbr2 : BoxF w2 (w.heap.size + 1) (.string ⟨#[]⟩) (.string ⟨#[]⟩) (.string ⟨#[]⟩) (.string ⟨#[]⟩) (.int .i64 0) (.slice none 0 0) (.slice none 0 0) := by
      rw [hw2]
      exact (hx2.setFar (by simp) _).setFar (by simp; omega) _
    have hcn2 : CntAt w2 atb (a + 1) := by
      rw [hw2]
      have := (hcW.far (p := ⟨w.heap.size, 5, none⟩) (Ne.symm hatne) (.slice Ab x.length cb')).set (a + 1)
      exact this
    have hfr2 : PutFr lo hi atb w w2 := by
      rw [hw2]
      exact ((PutFr.below hbW (Nat.le_refl _)).set (.inl (Nat.le_refl _)) _).set (.inr (.inl rfl)) _
    have hsz2 : w.heap.size + 2 ≤ w2.heap.size := by rw [hw2]; simp; omega
    have hblk2 : ∀ b, b < w.heap.size → b ≠ atb → w2.heap[b]? = w.heap[b]? := by
      intro b hb hne
      rw [hw2]
      simp only [World.setCell, Array.getElem?_modify]
      rw [if_neg (Ne.symm hne), if_neg (by omega)]
      exact hbW.block b hb
    have hown2 : w2.ownsRow lo 25 7 (.slice A2 p.parts.length c2) p.parts.length rows.flatten := own_keep hown (fun g hg => hblk2 g (by have := hlo2 g hg; omega) (by rintro rfl; have := (hown.lt _ hg).1; have := hlo2 _ hg; omega))
    have htr2 : TrsAt w2 lo2 hi p.parts rows := TrsAt.keep _ _ _ _ (fun b h3 h4 => hblk2 b (by omega) (by rintro rfl; exact hat ⟨by omega, h4⟩)) htrs
    have hrel0 : PutTRel p bs rows p.parts.length L B0 lo lo2 hi atb a w.heap.size A2 c2 Ab x.length cb' w (.int .i64 0) w2 :=
      ⟨0, lo2, [], rfl, Nat.zero_le _, rfl, by simpa using hown2, by rw [List.take_zero, show putsD [] (bs.drop (a + 1)) = [] from by rw [putsD]]; rfl, by simpa using htr2, Nat.le_refl _, h2, hbx2, ⟨_, _, _, _, _, _, _, hbr2⟩, by rw [List.take_zero, show flatsD [] = [] from by rw [flatsD]]; exact hcn2, hfr2, hsz2⟩
    have hkeepB : ∀ wx, PutFr lo hi atb w wx → ∀ p : Addr, p.block < B0 → wx.cell? p = w.cell? p := by
      intro wx hfx q hq
      exact World.cell?_of_block (hfx.2.2.2.2 q.block (by omega) (by omega) (by omega))
    have hBods : ∀ wx, PutFr lo hi atb w wx → BodsAt L B0 wx (some ⟨bb, offb, none⟩) nb bs := fun wx hfx => BodsAt.keep ⟨hbl, vs, hvs, hvb⟩ (hkeepB wx hfx)
    have HBods := Lib.hid hBods
    have HkeepB := Lib.hid hkeepB
    have Hrel0 := Lib.hid hrel0
    have Hih := Lib.hid ih
    have Hbds := Lib.hid hbds
    have Hfp := Lib.hid hfp
    have Hx := Lib.hid hx
    have Hbyb := Lib.hid hbyb
    have Hhlo2 := Lib.hid hlo2
    obtain ⟨⟨x0, x1, x2, x3, x4, x5, x6⟩, xf⟩ := hx1
    have xf5 := xf 5
    have hx6 := hbx2.1.2.2.2.2.2.2
    clear hrel0 ih hbds hx hbyb hlo2 hkeepB hBods hx2 hcW hbx2 hbr2 hcn2 hfr2 hown2 htr2 hvs hvb hu hcu htr htrs hown hblk2 xf hcc hcf hfp hsW hbW hcnt
    go_enter Tryz.func68, Tryz.ntmps68
    go_upto_region 1 with fail
    rw [← hW]
    clear hW
    go_upto_region 3 with fail
    rw [← hw2]
    clear hw2 x0 x1 x2 x3 x4 x5 x6 xf5 d0 d1 d2
    go_wp2_with fail
    go_loopw [24] (PutTRel p bs rows p.parts.length L B0 lo lo2 hi atb a w.heap.size A2 c2 Ab x.length cb' w) (fun iv _ => p.parts.length - (intOf iv).toNat)
    case atStart => exact Hrel0.out
    case round =>
      obtain ⟨i, mid, done, rfl, hi', hdl, hown, hpd, htr, hm1, hm2, hbx, hb1x, hcn, hfr, hsz⟩ := hrel
      by_cases hin : i < p.parts.length
      · have hgl2 := Hhlo2.out
        obtain ⟨g, cap, hv, hgb, hgl⟩ := hown.form (by omega)
        injection hv with hA2 _ hcap
        subst hA2
        subst hcap
        have hg2 : g < lo2 := hgl2 g rfl
        have hiq := List.getElem?_eq_getElem hin
        have hdrop := List.drop_eq_getElem_cons hin
        obtain ⟨q, hq⟩ : ∃ q, q = p.parts[i] := ⟨_, rfl⟩
        rw [← hq] at hiq hdrop
        rw [hdrop] at htr
        obtain ⟨r, rs, mid', hrr, hm3, hm4, hq1, hq2⟩ := htr
        have hrs : rs = rows.drop (i + 1) := by
          have := congrArg (List.drop 1) hrr
          rw [List.drop_drop] at this
          simpa [Nat.add_comm] using this.symm
        rw [hrs] at hrr hq2
        have hpd7 := PartsAt.rows _ _ hpd
        have hrw7 : ∀ x ∈ done ++ rows.drop i, x.length = 7 := by
          intro x hx
          rcases List.mem_append.1 hx with hx | hx
          · exact hpd7 x hx
          · rw [hrr] at hx
            rcases List.mem_cons.1 hx with rfl | hx
            · exact hq1.row7
            · exact TrsAt.rows7 _ _ _ _ hq2 x hx
        have hcell : ∀ k u, k < 7 → r[k]? = some u → wr.cell? ⟨g, i * 7 + k, none⟩ = some u := by
          intro k u hk hu
          rw [hown.cellAt _ (by omega), flat7_at _ hrw7 i k r ?_ hk]
          · exact hu
          · rw [List.getElem?_append_right (by omega), hdl, Nat.sub_self, hrr]; rfl
        have hrow := hown
        rw [hrr] at hrow
        obtain ⟨A', c', A2', c2', rows', lo', rfl, _⟩ := hq1.open
        have q0 := hcell 0 _ (by omega) rfl
        have q1 := hcell 1 _ (by omega) rfl
        have q2 := hcell 2 _ (by omega) rfl
        have q3 := hcell 3 _ (by omega) rfl
        have q4 := hcell 4 _ (by omega) rfl
        have q5 := hcell 5 _ (by omega) rfl
        have q6 := hcell 6 _ (by omega) rfl
        simp only [Nat.add_zero] at q0
        have hfl := flatsD_take p.parts i q hiq
        have hfl2 := flats_take_le p.parts (i + 1)
        have hfpp := Hfp.out
        have hghi : g < hi := by omega
        have hgat : g ≠ atb := by rintro rfl; exact hat ⟨hgb, by omega⟩
        obtain ⟨W5, hW5⟩ : ∃ W5, W5 = wr.alloc (.cells #[str q.type, str q.cs, str q.id, str q.loc, .int .i64 q.how, .slice A' q.body.length c', .slice A2' q.parts.length c2'] 25) := ⟨_, rfl⟩
        have hbA : Below wr.heap.size wr W5 := by rw [hW5]; exact (Below.refl _ wr).alloc (Nat.le_refl _) _
        have hs5 : W5.heap.size = wr.heap.size + 1 := by rw [hW5]; simp
        have hk5 : Box7 W5 wr.heap.size (str q.type) (str q.cs) (str q.id) (str q.loc) (.int .i64 q.how) (.slice A' q.body.length c') (.slice A2' q.parts.length c2') := by rw [hW5]; exact Box7.new wr _ _ _ _ _ _ _ _
        have hsw := hfr.2.2.2.1
        have hfr5 : PutFr lo hi atb w (World.drew W5) := (hfr.trans (PutFr.below (lo := lo) (hi := hi) (atb := atb) hbA (Nat.le_refl _)) (Nat.le_refl _) (Nat.le_refl _)).drew
        have hb5 : ∀ b, b < wr.heap.size → (World.drew W5).heap[b]? = wr.heap[b]? := fun b hb => hbA.block b hb
        have hatw : atb < wr.heap.size := hcn.cell.2.2
        have hcl := Hih.out q _ mid mid' (a + 1 + (flatsD (p.parts.take i)).length) (World.drew W5) (by omega) (by omega)
          (TrAt.keep (w := wr) (w' := World.drew W5) _ _ _ _ (fun b h3 h4 => hb5 b (by omega)) hq1) (by omega) (show mid' ≤ W5.heap.size by omega) (fun h => hat ⟨by omega, by omega⟩) (hcn.keep (hb5 atb hatw)) (HBods.out _ hfr5) (by omega)
        have Hcl := Lib.hid hcl
        have Hown := Lib.hid hrow
        have Hq2 := Lib.hid hq2
        have Hpd := Lib.hid hpd
        have Hbx := Lib.hid hbx
        have Hb1x := Lib.hid hb1x
        have Hdl := Lib.hid hdl
        have Hiq := Lib.hid hiq
        have Hfl := Lib.hid hfl
        have Hfr5 := Lib.hid hfr5
        have Hb5 := Lib.hid hb5
        have Hpd7 := Lib.hid hpd7
        have hin1 : (i : Int) < p.parts.length := by omega
        have hin0 : 0 ≤ (i : Int) := by omega
        have ⟨z0, z1, z2, z3, z4, z5, z6⟩ := hk5
        have hS : (fun W' : World => W'.cell? ⟨w.heap.size, 6, none⟩ = some (.slice (some ⟨g, 0, none⟩) p.parts.length c2) ∧ Box7 W' wr.heap.size (str q.type) (str q.cs) (str q.id) (str q.loc) (.int .i64 q.how) (.slice A' q.body.length c') (.slice A2' q.parts.length c2')) (World.drew W5) := ⟨((hbA.cell (p := ⟨w.heap.size, 6, none⟩) (by show w.heap.size < _; omega)).trans hbx.1.2.2.2.2.2.2), hk5⟩
        clear hcl hown hrow hq1 hq2 hpd hbx hb1x hdl hiq hfl hfl2 hfpp hcell hrw7 hpd7 hq hdrop hrs hcn hk5 hfr5 hb5 hbA hfr
        go_upto_region 6 with fail
        rw [← hW5]
        clear hW5 q0 q1 q2 q3 q4 q5 q6 z0 z1 z2 z3 z4 z5 z6
        refine wp_region_held (S := (fun W' : World => W'.cell? ⟨w.heap.size, 6, none⟩ = some (.slice (some ⟨g, 0, none⟩) p.parts.length c2) ∧ Box7 W' wr.heap.size (str q.type) (str q.cs) (str q.id) (str q.loc) (.int .i64 q.how) (.slice A' q.body.length c') (.slice A2' q.parts.length c2'))) (by kernel_rfl) ?_
        change wpAnyH _ _ _ _ _ _ _ _ (World.drew W5)
        refine wpAnyH_take (i := 0) (v := ?_) rfl (by kernel_rfl) (by kernel_rfl) (by kernel_rfl) (fun _ _ _ h => h) (Or.inl ⟨by kernel_rfl, ?_⟩) hS ?_
        rotate_left 1
        · intro W' hb'; go_simp; try exact rfl
        refine wpAnyH_take (i := 1) (v := ?_) rfl (by kernel_rfl) (by kernel_rfl) (by kernel_rfl) (fun _ _ _ h => h) (Or.inl ⟨by kernel_rfl, ?_⟩) hS ?_
        rotate_left 1
        · intro W' hb'; have q0 : W'.cell? ⟨w.heap.size, 6, none⟩ = some (.slice (some ⟨g, 0, none⟩) p.parts.length c2) := hb'.1; have ⟨z0, z1, z2, z3, z4, z5, z6⟩ := hb'.2; go_simp; try exact rfl
        refine wpAnyH_take (i := 2) (v := ?_) rfl (by kernel_rfl) (by kernel_rfl) (by kernel_rfl) (fun _ _ _ h => h) (Or.inl ⟨by kernel_rfl, ?_⟩) hS ?_
        rotate_left 1
        · intro W' hb'; go_simp; try exact rfl
        refine wpAnyH_take (i := 3) (v := ?_) rfl (by kernel_rfl) (by kernel_rfl) (by kernel_rfl) (fun _ _ _ h => h) (Or.inl ⟨by kernel_rfl, ?_⟩) hS ?_
        rotate_left 1
        · intro W' hb'; have q0 : W'.cell? ⟨w.heap.size, 6, none⟩ = some (.slice (some ⟨g, 0, none⟩) p.parts.length c2) := hb'.1; have ⟨z0, z1, z2, z3, z4, z5, z6⟩ := hb'.2; go_simp; try exact rfl
        refine wpAnyH_take (i := 4) (v := ?_) rfl (by kernel_rfl) (by kernel_rfl) (by kernel_rfl) (fun _ _ _ h => h) (Or.inl ⟨by kernel_rfl, ?_⟩) hS ?_
        rotate_left 1
        · intro W' hb'; go_simp; try exact rfl
        refine wpAnyH_take (i := 5) (v := ?_) rfl (by kernel_rfl) (by kernel_rfl) (by kernel_rfl) (fun _ _ _ h => h) (Or.inl ⟨by kernel_rfl, ?_⟩) hS ?_
        rotate_left 1
        · intro W' hb'; go_simp; try exact rfl
        refine wpAnyH_all (rs := [6]) (by kernel_rfl) (by simp) ?_
        intro kk hkk
        simp only [List.mem_singleton] at hkk
        subst hkk
        go_simp
        refine wpOp_callP rfl (by kernel_rfl) 68 #[.agg #[str q.type, str q.cs, str q.id, str q.loc, .int .i64 q.how, .slice A' q.body.length c', .slice A2' q.parts.length c2'], .slice (some ⟨bb, offb, none⟩) nb cb, .pointer (some ⟨atb, 0, none⟩)] (by go_simp; try rfl) _ Hcl.out ?_
        rintro e w6 ⟨v6, rfl, hpv, hcn6, hfr6⟩
        refine ⟨_, rfl, ?_⟩
        obtain ⟨qq, hqq⟩ : ∃ qq, qq = putD q (bs.drop (a + 1 + (flatsD (p.parts.take i)).length)) := ⟨_, rfl⟩
        rw [← hqq] at hpv
        have Hqq := Lib.hid hqq
        clear hqq
        obtain ⟨A6, d6, A7, d7, rfl, _⟩ := hpv.open
        have hs56 : W5.heap.size ≤ w6.heap.size := hfr6.2.2.2.1
        have hb6 : ∀ b, b < wr.heap.size + 1 → b ≠ atb → ¬ (mid ≤ b ∧ b < mid') → w6.heap[b]? = W5.heap[b]? := fun b h3 h4 h5 => hfr6.2.2.2.2 b (show b < W5.heap.size by omega) h4 h5
        have hbr6 : ∀ b, b < wr.heap.size → b ≠ atb → ¬ (mid ≤ b ∧ b < mid') → w6.heap[b]? = wr.heap[b]? := fun b h3 h4 h5 => (hb6 b (by omega) h4 h5).trans (Hb5.out b h3)
        have hS : (fun W' : World => W'.cell? ⟨w.heap.size, 6, none⟩ = some (.slice (some ⟨g, 0, none⟩) p.parts.length c2) ∧ Box7 W' wr.heap.size (str q.type) (str q.cs) (str q.id) (str q.loc) (.int .i64 q.how) (.slice A' q.body.length c') (.slice A2' q.parts.length c2')) w6 := by
          obtain ⟨s0, s1, s2, s3, s4, s5, s6, s7⟩ := hS
          have e1 : ∀ k, w6.cell? ⟨w.heap.size, k, none⟩ = W5.cell? ⟨w.heap.size, k, none⟩ := fun k => World.cell?_of_block (hb6 w.heap.size (by omega) (Ne.symm hatne) (by omega))
          have e2 : ∀ k, w6.cell? ⟨wr.heap.size, k, none⟩ = W5.cell? ⟨wr.heap.size, k, none⟩ := fun k => World.cell?_of_block (hb6 wr.heap.size (by omega) (by omega) (by omega))
          exact ⟨(e1 6).trans s0, (e2 0).trans s1, (e2 1).trans s2, (e2 2).trans s3, (e2 3).trans s4, (e2 4).trans s5, (e2 5).trans s6, (e2 6).trans s7⟩
        refine ⟨hS, ?_⟩
        refine wpAnyH_take (i := 7) (v := ?_) rfl (by kernel_rfl) (by kernel_rfl) (by kernel_rfl) (fun _ _ _ h => h) (Or.inl ⟨by kernel_rfl, ?_⟩) hS ?_
        rotate_left 1
        · intro W' hb'; go_simp; try exact rfl
        refine wpAnyH_all (rs := [8]) (by kernel_rfl) (by simp) ?_
        intro kk hkk
        simp only [List.mem_singleton] at hkk
        subst hkk
        go_simp
        have hown6 : w6.ownsRow lo 25 7 (.slice (some ⟨g, 0, none⟩) p.parts.length c2) p.parts.length (done ++ [str q.type, str q.cs, str q.id, str q.loc, .int .i64 q.how, .slice A' q.body.length c', .slice A2' q.parts.length c2'] :: rows.drop (i + 1)).flatten :=
          own_keep Hown.out (fun g' hg' => by have hgg : g = g' := Option.some.inj hg'; rw [← hgg]; exact hbr6 g hgl hgat (by omega))
        have hrw6 : ∀ x ∈ done ++ [str q.type, str q.cs, str q.id, str q.loc, .int .i64 q.how, .slice A' q.body.length c', .slice A2' q.parts.length c2'] :: rows.drop (i + 1), x.length = 7 := by
          intro x hx
          rcases List.mem_append.1 hx with hx | hx
          · exact Hpd7.out x hx
          · rcases List.mem_cons.1 hx with rfl | hx
            · rfl
            · exact TrsAt.rows7 _ _ _ _ Hq2.out x hx
        have hcell6 : ∀ k u, k < 7 → [str q.type, str q.cs, str q.id, str q.loc, .int .i64 q.how, .slice A' q.body.length c', .slice A2' q.parts.length c2'][k]? = some u → w6.cell? ⟨g, i * 7 + k, none⟩ = some u := by
          intro k u hk hu
          rw [hown6.cellAt _ (by omega), flat7_at _ hrw6 i k _ ?_ hk]
          · exact hu
          · rw [List.getElem?_append_right (by rw [Hdl.out]; exact Nat.le_refl _), Hdl.out, Nat.sub_self]; rfl
        have q0 := hcell6 0 _ (by omega) rfl
        have q1 := hcell6 1 _ (by omega) rfl
        have q2 := hcell6 2 _ (by omega) rfl
        have q3 := hcell6 3 _ (by omega) rfl
        have q4 := hcell6 4 _ (by omega) rfl
        have q5 := hcell6 5 _ (by omega) rfl
        have q6 := hcell6 6 _ (by omega) rfl
        simp only [Nat.add_zero] at q0
        have f0 := hown6.frozenAt (i * 7)
        have f1 := hown6.frozenAt (i * 7 + 1)
        have f2 := hown6.frozenAt (i * 7 + 2)
        have f3 := hown6.frozenAt (i * 7 + 3)
        have f4 := hown6.frozenAt (i * 7 + 4)
        have f5 := hown6.frozenAt (i * 7 + 5)
        have f6 := hown6.frozenAt (i * 7 + 6)
        have Hown6 := Lib.hid hown6
        have Hpv := Lib.hid hpv
        have Hcn6 := Lib.hid hcn6
        have Hfr6 := Lib.hid hfr6
        have Hbr6 := Lib.hid hbr6
        have Hb6 := Lib.hid hb6
        have HS := Lib.hid hS
        clear hown6 hrw6 hcell6 hpv hcn6 hfr6 hbr6 hb6 hS
        refine wpOp_store rfl (by kernel_rfl) (((((((w6.setCell ⟨g, i * 7, none⟩ (str qq.type)).setCell ⟨g, i * 7 + 1, none⟩ (str qq.cs)).setCell ⟨g, i * 7 + 2, none⟩ (str qq.id)).setCell ⟨g, i * 7 + 3, none⟩ (str qq.loc)).setCell ⟨g, i * 7 + 4, none⟩ (.int .i64 qq.how)).setCell ⟨g, i * 7 + 5, none⟩ (.slice A6 qq.body.length d6)).setCell ⟨g, i * 7 + 6, none⟩ (.slice A7 qq.parts.length d7)) (by go_simp; try rfl) ?_
        clear q0 q1 q2 q3 q4 q5 q6 f0 f1 f2 f3 f4 f5 f6
        have far7 : ∀ b, b ≠ g → (((((((w6.setCell ⟨g, i * 7, none⟩ (str qq.type)).setCell ⟨g, i * 7 + 1, none⟩ (str qq.cs)).setCell ⟨g, i * 7 + 2, none⟩ (str qq.id)).setCell ⟨g, i * 7 + 3, none⟩ (str qq.loc)).setCell ⟨g, i * 7 + 4, none⟩ (.int .i64 qq.how)).setCell ⟨g, i * 7 + 5, none⟩ (.slice A6 qq.body.length d6)).setCell ⟨g, i * 7 + 6, none⟩ (.slice A7 qq.parts.length d7)).heap[b]? = w6.heap[b]? := by
          intro b hb
          simp only [World.setCell, Array.getElem?_modify]
          simp [Ne.symm hb]
        have hown7 := own_set7 (g := g) (i := i) (done := done) (rest := rows.drop (i + 1)) Hown6.out Hpd7.out Hdl.out (str qq.type) (str qq.cs) (str qq.id) (str qq.loc) (.int .i64 qq.how) (.slice A6 qq.body.length d6) (.slice A7 qq.parts.length d7)
        have hfr7 : PutFr lo hi atb w (((((((w6.setCell ⟨g, i * 7, none⟩ (str qq.type)).setCell ⟨g, i * 7 + 1, none⟩ (str qq.cs)).setCell ⟨g, i * 7 + 2, none⟩ (str qq.id)).setCell ⟨g, i * 7 + 3, none⟩ (str qq.loc)).setCell ⟨g, i * 7 + 4, none⟩ (.int .i64 qq.how)).setCell ⟨g, i * 7 + 5, none⟩ (.slice A6 qq.body.length d6)).setCell ⟨g, i * 7 + 6, none⟩ (.slice A7 qq.parts.length d7)) := by
          have h0 : PutFr lo hi atb w w6 := Hfr5.out.trans Hfr6.out (by omega) hm4
          exact ((((((h0.set (.inr (.inr ⟨hgb, hghi⟩)) _).set (.inr (.inr ⟨hgb, hghi⟩)) _).set (.inr (.inr ⟨hgb, hghi⟩)) _).set (.inr (.inr ⟨hgb, hghi⟩)) _).set (.inr (.inr ⟨hgb, hghi⟩)) _).set (.inr (.inr ⟨hgb, hghi⟩)) _).set (.inr (.inr ⟨hgb, by omega⟩)) _
        have hsz7 : (((((((w6.setCell ⟨g, i * 7, none⟩ (str qq.type)).setCell ⟨g, i * 7 + 1, none⟩ (str qq.cs)).setCell ⟨g, i * 7 + 2, none⟩ (str qq.id)).setCell ⟨g, i * 7 + 3, none⟩ (str qq.loc)).setCell ⟨g, i * 7 + 4, none⟩ (.int .i64 qq.how)).setCell ⟨g, i * 7 + 5, none⟩ (.slice A6 qq.body.length d6)).setCell ⟨g, i * 7 + 6, none⟩ (.slice A7 qq.parts.length d7)).heap.size = w6.heap.size := by simp
        have hS : (fun W' : World => W'.cell? ⟨w.heap.size, 6, none⟩ = some (.slice (some ⟨g, 0, none⟩) p.parts.length c2) ∧ Box7 W' wr.heap.size (str q.type) (str q.cs) (str q.id) (str q.loc) (.int .i64 q.how) (.slice A' q.body.length c') (.slice A2' q.parts.length c2')) (((((((w6.setCell ⟨g, i * 7, none⟩ (str qq.type)).setCell ⟨g, i * 7 + 1, none⟩ (str qq.cs)).setCell ⟨g, i * 7 + 2, none⟩ (str qq.id)).setCell ⟨g, i * 7 + 3, none⟩ (str qq.loc)).setCell ⟨g, i * 7 + 4, none⟩ (.int .i64 qq.how)).setCell ⟨g, i * 7 + 5, none⟩ (.slice A6 qq.body.length d6)).setCell ⟨g, i * 7 + 6, none⟩ (.slice A7 qq.parts.length d7)) := by
          obtain ⟨s0, s1, s2, s3, s4, s5, s6, s7⟩ := HS.out
          have e1 : ∀ k, (((((((w6.setCell ⟨g, i * 7, none⟩ (str qq.type)).setCell ⟨g, i * 7 + 1, none⟩ (str qq.cs)).setCell ⟨g, i * 7 + 2, none⟩ (str qq.id)).setCell ⟨g, i * 7 + 3, none⟩ (str qq.loc)).setCell ⟨g, i * 7 + 4, none⟩ (.int .i64 qq.how)).setCell ⟨g, i * 7 + 5, none⟩ (.slice A6 qq.body.length d6)).setCell ⟨g, i * 7 + 6, none⟩ (.slice A7 qq.parts.length d7)).cell? ⟨w.heap.size, k, none⟩ = w6.cell? ⟨w.heap.size, k, none⟩ := fun k => World.cell?_of_block (far7 w.heap.size (by omega))
          have e2 : ∀ k, (((((((w6.setCell ⟨g, i * 7, none⟩ (str qq.type)).setCell ⟨g, i * 7 + 1, none⟩ (str qq.cs)).setCell ⟨g, i * 7 + 2, none⟩ (str qq.id)).setCell ⟨g, i * 7 + 3, none⟩ (str qq.loc)).setCell ⟨g, i * 7 + 4, none⟩ (.int .i64 qq.how)).setCell ⟨g, i * 7 + 5, none⟩ (.slice A6 qq.body.length d6)).setCell ⟨g, i * 7 + 6, none⟩ (.slice A7 qq.parts.length d7)).cell? ⟨wr.heap.size, k, none⟩ = w6.cell? ⟨wr.heap.size, k, none⟩ := fun k => World.cell?_of_block (far7 wr.heap.size (by omega))
          exact ⟨(e1 6).trans s0, (e2 0).trans s1, (e2 1).trans s2, (e2 2).trans s3, (e2 3).trans s4, (e2 4).trans s5, (e2 5).trans s6, (e2 6).trans s7⟩
        refine ⟨hS, ?_⟩
        clear hS
        refine wpAnyH_done (by kernel_rfl) ?_ _
        generalize (((((((w6.setCell ⟨g, i * 7, none⟩ (str qq.type)).setCell ⟨g, i * 7 + 1, none⟩ (str qq.cs)).setCell ⟨g, i * 7 + 2, none⟩ (str qq.id)).setCell ⟨g, i * 7 + 3, none⟩ (str qq.loc)).setCell ⟨g, i * 7 + 4, none⟩ (.int .i64 qq.how)).setCell ⟨g, i * 7 + 5, none⟩ (.slice A6 qq.body.length d6)).setCell ⟨g, i * 7 + 6, none⟩ (.slice A7 qq.parts.length d7)) = w7 at far7 hown7 hfr7 hsz7 ⊢
        have hfin : PutTRel p bs rows p.parts.length L B0 lo lo2 hi atb a w.heap.size (some ⟨g, 0, none⟩) c2 Ab x.length cb' w (.int .i64 ((i : Int) + 1)) w7 := by
          have old7 : ∀ b, b < wr.heap.size → b ≠ atb → b ≠ g → ¬ (mid ≤ b ∧ b < mid') → w7.heap[b]? = wr.heap[b]? := fun b h3 h4 h5 h6 => (far7 b h5).trans (Hbr6.out b h3 h4 h6)
          refine ⟨i + 1, mid', done ++ [[str qq.type, str qq.cs, str qq.id, str qq.loc, .int .i64 qq.how, .slice A6 qq.body.length d6, .slice A7 qq.parts.length d7]], by go_num, by omega, by simp [Hdl.out], by rw [List.append_assoc]; exact hown7, ?_, ?_, by omega, hm4, ?_, ?_, ?_, hfr7, by omega⟩
          · have ht : putsD (p.parts.take (i + 1)) (bs.drop (a + 1)) = putsD (p.parts.take i) (bs.drop (a + 1)) ++ [qq] := by
              rw [List.take_add_one, Hiq.out]
              show putsD (p.parts.take i ++ [q]) _ = _
              rw [putsD_app, List.drop_drop, putsD, show ∀ l, putsD [] l = [] from fun l => by rw [putsD], Hqq.out]
            rw [ht]
            refine PartsAt.app _ _ _ _ (PartsAt.change (fun b hb => ?_) (fun b hb => ?_) _ _ Hpd.out) ⟨_, _, rfl, PartAt.change (fun b hb => ?_) (fun b hb => ?_) _ _ Hpv.out, rfl⟩
            · rcases hb with hb | hb
              · exact .inl hb
              · exact .inr ⟨hb.1, by omega⟩
            · refine World.cell?_of_block (old7 _ ?_ ?_ ?_ ?_)
              · rcases hb with hb | hb <;> omega
              · rcases hb with hb | hb
                · omega
                · rintro e; exact hat ⟨by omega, by omega⟩
              · rcases hb with hb | hb <;> omega
              · rcases hb with hb | hb <;> omega
            · rcases hb with hb | hb
              · exact .inl hb
              · exact .inr ⟨by omega, hb.2⟩
            · refine World.cell?_of_block (far7 _ ?_)
              rcases hb with hb | hb <;> omega
          · exact TrsAt.keep _ _ _ _ (fun b h3 h4 => old7 b (by omega) (by rintro rfl; exact hat ⟨by omega, h4⟩) (by omega) (by omega)) Hq2.out
          · exact Hbx.out.keep (old7 w.heap.size (by omega) (Ne.symm hatne) (by omega) (by omega))
          · obtain ⟨v0, v1, v2, v3, v4, v5, v6, hbr⟩ := Hb1x.out
            exact ⟨_, _, _, _, _, _, _, hbr.keep (old7 (w.heap.size + 1) (by omega) (by omega) (by omega) (by omega))⟩
          · have h3 := Hcn6.out.keep (far7 atb (Ne.symm hgat))
            rw [Hfl.out, ← Nat.add_assoc]
            exact h3
        have Hfin := Lib.hid hfin
        clear hfin hown7 hfr7 far7 hsz7
        go_simp
        go_wp2_with fail
        exact ⟨Hfin.out, by simp [intOf]; omega⟩
      · obtain rfl : i = p.parts.length := by omega
        obtain ⟨⟨x0, x1, x2, x3, x4, x5, x6⟩, _⟩ := id hbx
        obtain ⟨r0, r1, r2, r3, r4, r5, r6, ⟨y0, y1, y2, y3, y4, y5, y6⟩, yf⟩ := hb1x
        have hdr : rows.drop p.parts.length = [] := by
          rw [List.drop_of_length_le (Nat.le_refl _)] at htr
          exact htr.1
        rw [hdr, List.append_nil] at hown
        rw [List.take_length] at hpd hcn
        have Hown := Lib.hid hown
        have Hpd := Lib.hid hpd
        have Hcn := Lib.hid hcn
        have Hfr := Lib.hid hfr
        have Hdl := Lib.hid hdl
        clear hown hpd hcn hfr hdl hdr htr hbx
        go_wp2_with fail
        have hbx9 := BoxF.set7 (w := wr) (b := w.heap.size + 1) ⟨⟨y0, y1, y2, y3, y4, y5, y6⟩, yf⟩ (str p.type) (str p.cs) (str p.id) (str p.loc) (.int .i64 p.how) (.slice Ab x.length cb') (.slice A2 p.parts.length c2)
        have far9 : ∀ b, b ≠ w.heap.size + 1 → (((((((wr.setCell ⟨w.heap.size + 1, 0, none⟩ (str p.type)).setCell ⟨w.heap.size + 1, 1, none⟩ (str p.cs)).setCell ⟨w.heap.size + 1, 2, none⟩ (str p.id)).setCell ⟨w.heap.size + 1, 3, none⟩ (str p.loc)).setCell ⟨w.heap.size + 1, 4, none⟩ (.int .i64 p.how)).setCell ⟨w.heap.size + 1, 5, none⟩ (.slice Ab x.length cb')).setCell ⟨w.heap.size + 1, 6, none⟩ (.slice A2 p.parts.length c2)).heap[b]? = wr.heap[b]? := by
          intro b hb
          simp only [World.setCell, Array.getElem?_modify]
          simp [Ne.symm hb]
        have hfr9 : PutFr lo hi atb w (((((((wr.setCell ⟨w.heap.size + 1, 0, none⟩ (str p.type)).setCell ⟨w.heap.size + 1, 1, none⟩ (str p.cs)).setCell ⟨w.heap.size + 1, 2, none⟩ (str p.id)).setCell ⟨w.heap.size + 1, 3, none⟩ (str p.loc)).setCell ⟨w.heap.size + 1, 4, none⟩ (.int .i64 p.how)).setCell ⟨w.heap.size + 1, 5, none⟩ (.slice Ab x.length cb')).setCell ⟨w.heap.size + 1, 6, none⟩ (.slice A2 p.parts.length c2)) :=
          ((((((Hfr.out.set (.inl (Nat.le_succ _)) _).set (.inl (Nat.le_succ _)) _).set (.inl (Nat.le_succ _)) _).set (.inl (Nat.le_succ _)) _).set (.inl (Nat.le_succ _)) _).set (.inl (Nat.le_succ _)) _).set (.inl (Nat.le_succ _)) _
        generalize (((((((wr.setCell ⟨w.heap.size + 1, 0, none⟩ (str p.type)).setCell ⟨w.heap.size + 1, 1, none⟩ (str p.cs)).setCell ⟨w.heap.size + 1, 2, none⟩ (str p.id)).setCell ⟨w.heap.size + 1, 3, none⟩ (str p.loc)).setCell ⟨w.heap.size + 1, 4, none⟩ (.int .i64 p.how)).setCell ⟨w.heap.size + 1, 5, none⟩ (.slice Ab x.length cb')).setCell ⟨w.heap.size + 1, 6, none⟩ (.slice A2 p.parts.length c2)) = w9 at hbx9 far9 hfr9 ⊢
        obtain ⟨c0, c1, c2', c3, c4, c5, c6⟩ := hbx9
        refine bodyPost_ret (v := .agg #[str p.type, str p.cs, str p.id, str p.loc, .int .i64 p.how, .slice Ab x.length cb', .slice A2 p.parts.length c2]) (by simp [results, Tryz.results68, go_sem, c0, c1, c2', c3, c4, c5, c6]) rfl ?_
        have hkB := HkeepB.out w9 hfr9
        have hgl2 := Hhlo2.out
        have hown9 := own_keep (w' := w9) Hown.out (fun g hg => far9 g (by have := hgl2 g hg; omega))
        have hpd9 := PartsAt.change (S' := fun b => (L ≤ b ∧ b < B0) ∨ (lo ≤ b ∧ b < hi)) (w' := w9) (fun b hb => by rcases hb with hb | hb; exact .inl hb; exact .inr ⟨by omega, by omega⟩) (fun b hb => World.cell?_of_block (far9 _ (by rcases hb with hb | hb <;> omega))) _ _ Hpd.out
        have hbyb : SlS (fun b => (L ≤ b ∧ b < B0) ∨ (lo ≤ b ∧ b < hi)) w9 1 Ab x.length (Lib.byteCells x) := by
          refine ⟨Hbyb.out.1, fun hn => ?_⟩
          obtain ⟨b1, o1, e1, e2, e3⟩ := Hbyb.out.2 hn
          exact ⟨b1, o1, e1, .inl e2, fun j u hu => (hkB _ e2.2).trans (e3 j u hu)⟩
        have hrow9 : SlS (fun b => (L ≤ b ∧ b < B0) ∨ (lo ≤ b ∧ b < hi)) w9 7 A2 p.parts.length (List.flatten done) := by
          have h0 := own_sls hown9
          refine ⟨h0.1, fun hn => ?_⟩
          obtain ⟨b1, o1, e1, e2, e3⟩ := h0.2 hn
          subst e1
          exact ⟨b1, o1, rfl, .inr ⟨e2.1, by have := hgl2 b1 rfl; omega⟩, e3⟩
        have hcn9 : CntAt w9 atb (a + (flatD p).length) := by
          have := Hcn.out.keep (far9 atb (by have := Hcn.out.cell.2.2; omega))
          rw [Hfp.out, show a + ((flatsD p.parts).length + 1) = a + 1 + (flatsD p.parts).length by omega]
          exact this
        refine ⟨_, rfl, ?_, hcn9, hfr9⟩
        have hxx := Hx.out
        have hbb := Hbds.out
        have hhd : (bs.drop a).headD [] = x := by
          rw [hxx, List.headD_eq_head?_getD, List.head?_drop, List.getD_eq_getElem?_getD]
        have hdd : (bs.drop a).drop 1 = bs.drop (a + 1) := by rw [List.drop_drop]
        obtain ⟨t, cs, id, loc, how, body, parts⟩ := p
        rw [putD, hhd, hdd]
        simp only at hpd9 hrow9 hbb ⊢
        exact ⟨Ab, _, cb', A2, _, c2, done, rfl, hbb, hbyb, hbc1, hbc2, hrow9, hc2, hcm2, hpd9⟩
end Go.Proofs.YtlbdnohnngkapaaGreatDoor

import Derived.Test.YtlbdnohnngkapaaGreatDoorU8
import Derived.Test.YtlbdnohnngkapaaGreatDoorU12
import Derived.Test.YtlbdnohnngkapaaGreatDoorU14
namespace Go.Proofs.YtlbdnohnngkapaaGreatDoor
open Go.RowKit

/-! ### A tree of parts, each row of which lies by itself -/
mutual
def TrAt (w : World) : Nat → Nat → PartD → List Value → Prop
  | lo, hi, ⟨t, cs, id, loc, how, body, parts⟩, v => ∃ A c A2 c2 rows lo2, v = [str t, str cs, str id, str loc, .int .i64 how, .slice A body.length c, .slice A2 parts.length c2] ∧
      (t.length ≤ maxLen ∧ cs.length ≤ maxLen ∧ id.length ≤ maxLen ∧ loc.length ≤ maxLen ∧ -9223372036854775808 ≤ how ∧ how ≤ 9223372036854775807) ∧ parts.length ≤ c2 ∧ c2 ≤ maxLen ∧
      w.ownsRow lo 25 7 (.slice A2 parts.length c2) parts.length (List.flatten rows) ∧ (∀ g, Value.ownBlock (.slice A2 parts.length c2) = some g → g < lo2) ∧ lo ≤ lo2 ∧ lo2 ≤ hi ∧ TrsAt w lo2 hi parts rows
def TrsAt (w : World) : Nat → Nat → List PartD → List (List Value) → Prop
  | lo, hi, [], rows => rows = [] ∧ lo ≤ hi
  | lo, hi, p :: ps, rows => ∃ r rs mid, rows = r :: rs ∧ lo ≤ mid ∧ mid ≤ hi ∧ TrAt w lo mid p r ∧ TrsAt w mid hi ps rs
end
theorem own_keep {w w' : World} {base : Nat} {e : TypeId} {size : Nat} {v : Value} {n : Nat} {xs : List Value} (h : w.ownsRow base e size v n xs) (hk : ∀ g, v.ownBlock = some g → w'.heap[g]? = w.heap[g]?) : w'.ownsRow base e size v n xs := by
  refine ⟨h.1, ?_⟩
  rcases h.2 with h2 | ⟨g, cap, cur, rfl, h3, h4, h5⟩
  · exact .inl h2
  · exact .inr ⟨g, cap, cur, rfl, h3, (hk g rfl).trans h4, h5⟩
section
variable {w w' : World}
theorem TrsAt.le : ∀ (ps : List PartD) (rows : List (List Value)) (lo hi : Nat), TrsAt w lo hi ps rows → lo ≤ hi
  | [], _, _, _, h => h.2
  | p :: ps, _, lo, hi, h => by
    obtain ⟨r, rs, mid, _, h1, h2, _⟩ := h
    omega
mutual
theorem TrAt.keep : ∀ (p : PartD) (v : List Value) (lo hi : Nat), (∀ b, lo ≤ b → b < hi → w'.heap[b]? = w.heap[b]?) → TrAt w lo hi p v → TrAt w' lo hi p v
  | ⟨t, cs, id, loc, how, body, parts⟩, v, lo, hi, hk, h => by
    obtain ⟨A, c, A2, c2, rows, lo2, h1, h2, h3, h4, h5, h6, h7, h8, h9⟩ := h
    have h10 : ∀ g, Value.ownBlock (.slice A2 parts.length c2) = some g → lo ≤ g := fun g hg => (h5.lt g hg).1
    exact ⟨A, c, A2, c2, rows, lo2, h1, h2, h3, h4, own_keep h5 (fun g hg => hk g (h10 g hg) (by have := h6 g hg; omega)), h6, h7, h8, TrsAt.keep parts rows lo2 hi (fun b hb hb' => hk b (by omega) hb') h9⟩
theorem TrsAt.keep : ∀ (ps : List PartD) (rows : List (List Value)) (lo hi : Nat), (∀ b, lo ≤ b → b < hi → w'.heap[b]? = w.heap[b]?) → TrsAt w lo hi ps rows → TrsAt w' lo hi ps rows
  | [], _, _, _, _, h => h
  | p :: ps, _, lo, hi, hk, h => by
    obtain ⟨r, rs, mid, h1, h2, h3, h4, h5⟩ := h
    exact ⟨r, rs, mid, h1, h2, h3, TrAt.keep p r lo mid (fun b hb hb' => hk b hb (by omega)) h4, TrsAt.keep ps rs mid hi (fun b hb hb' => hk b (by omega) hb') h5⟩
end
mutual
theorem TrAt.wide : ∀ (p : PartD) (v : List Value) (lo hi lo' hi' : Nat), lo' ≤ lo → hi ≤ hi' → TrAt w lo hi p v → TrAt w lo' hi' p v
  | ⟨t, cs, id, loc, how, body, parts⟩, v, lo, hi, lo', hi', h1, h2, h => by
    obtain ⟨A, c, A2, c2, rows, lo2, g1, g2, g3, g4, g5, g6, g7, g8, g9⟩ := h
    exact ⟨A, c, A2, c2, rows, lo2, g1, g2, g3, g4, own_base g5 h1, g6, by omega, by omega, TrsAt.wide parts rows lo2 hi lo2 hi' (Nat.le_refl _) h2 g9⟩
theorem TrsAt.wide : ∀ (ps : List PartD) (rows : List (List Value)) (lo hi lo' hi' : Nat), lo' ≤ lo → hi ≤ hi' → TrsAt w lo hi ps rows → TrsAt w lo' hi' ps rows
  | [], _, lo, hi, lo', hi', h1, h2, h => ⟨h.1, by have := h.2; omega⟩
  | p :: ps, _, lo, hi, lo', hi', h1, h2, h => by
    obtain ⟨r, rs, mid, g1, g2, g3, g4, g5⟩ := h
    exact ⟨r, rs, mid, g1, by omega, by omega, TrAt.wide p r lo mid lo' mid h1 (Nat.le_refl _) g4, TrsAt.wide ps rs mid hi mid hi' (Nat.le_refl _) h2 g5⟩
end
theorem TrsAt.snoc : ∀ (ps : List PartD) (rows : List (List Value)) (lo mid mid' hi : Nat) (q : PartD) (r : List Value), TrsAt w lo mid ps rows → mid ≤ mid' → mid' ≤ hi → TrAt w mid' hi q r → TrsAt w lo hi (ps ++ [q]) (rows ++ [r])
  | [], _, lo, mid, mid', hi, q, r, h, h1, h2, h3 => by
    obtain ⟨rfl, h⟩ := h
    exact ⟨r, [], hi, rfl, by omega, Nat.le_refl _, TrAt.wide q r mid' hi lo hi (by omega) (Nat.le_refl _) h3, rfl, Nat.le_refl _⟩
  | p :: ps, _, lo, mid, mid', hi, q, r, h, h1, h2, h3 => by
    obtain ⟨x, xs, m, rfl, g2, g3, g4, g5⟩ := h
    exact ⟨x, xs ++ [r], m, rfl, g2, by omega, g4, TrsAt.snoc ps xs m mid mid' hi q r g5 h1 h2 h3⟩
theorem TrAt.row7 {p : PartD} {v : List Value} {lo hi : Nat} (h : TrAt w lo hi p v) : v.length = 7 := by
  obtain ⟨t, cs, id, loc, how, body, parts⟩ := p
  obtain ⟨A, c, A2, c2, rows, lo2, rfl, _⟩ := h
  rfl
theorem TrsAt.rows7 : ∀ (ps : List PartD) (rows : List (List Value)) (lo hi : Nat), TrsAt w lo hi ps rows → ∀ r ∈ rows, r.length = 7
  | [], _, _, _, h => by rw [h.1]; simp
  | p :: ps, _, lo, hi, h => by
    obtain ⟨r, rs, mid, rfl, _, _, h4, h5⟩ := h
    intro x hx
    rcases List.mem_cons.1 hx with rfl | hx
    · exact h4.row7
    · exact TrsAt.rows7 ps rs mid hi h5 x hx
theorem TrsAt.len : ∀ (ps : List PartD) (rows : List (List Value)) (lo hi : Nat), TrsAt w lo hi ps rows → rows.length = ps.length
  | [], _, _, _, h => by rw [h.1]; rfl
  | p :: ps, _, lo, hi, h => by
    obtain ⟨r, rs, mid, rfl, _, _, _, h5⟩ := h
    simp [TrsAt.len ps rs mid hi h5]
theorem TrAt.open {p : PartD} {v : List Value} {lo hi : Nat} (h : TrAt w lo hi p v) : ∃ A c A2 c2 rows lo2, v = [str p.type, str p.cs, str p.id, str p.loc, .int .i64 p.how, .slice A p.body.length c, .slice A2 p.parts.length c2] ∧
      (p.type.length ≤ maxLen ∧ p.cs.length ≤ maxLen ∧ p.id.length ≤ maxLen ∧ p.loc.length ≤ maxLen ∧ -9223372036854775808 ≤ p.how ∧ p.how ≤ 9223372036854775807) ∧ p.parts.length ≤ c2 ∧ c2 ≤ maxLen ∧
      w.ownsRow lo 25 7 (.slice A2 p.parts.length c2) p.parts.length (List.flatten rows) ∧ (∀ g, Value.ownBlock (.slice A2 p.parts.length c2) = some g → g < lo2) ∧ lo ≤ lo2 ∧ lo2 ≤ hi ∧ TrsAt w lo2 hi p.parts rows := by
  obtain ⟨t, cs, id, loc, how, body, parts⟩ := p
  exact h
end
end Go.Proofs.YtlbdnohnngkapaaGreatDoor

namespace Go.Proofs.YtlbdnohnngkapaaGreatDoor
open Go.RowKit

def CopyRes2 (p : PartD) (w : World) (e : Ending) (w' : World) : Prop :=
  ∃ v : List Value, e = .returned (.agg v.toArray) ∧ TrAt w' w.heap.size w'.heap.size p v ∧ Below w.heap.size w w'
def CopyRel2 (p : PartD) (rows : List (List Value)) (n2 h lo2 : Nat) (S1 S2 : Option Addr) (d1 d2 : Nat) (w0 : World) (iv : Value) (wr : World) : Prop :=
  ∃ i done, iv = .int .i64 (i : Nat) ∧ i ≤ n2 ∧ done.length = i ∧ wr.ownsRow (h + 2) 25 7 (.slice S2 n2 d2) n2 (done ++ rows.drop i).flatten ∧
    TrsAt wr lo2 wr.heap.size (p.parts.take i) done ∧ lo2 ≤ wr.heap.size ∧
    BoxF wr h (str p.type) (str p.cs) (str p.id) (str p.loc) (.int .i64 p.how) (.slice S1 p.body.length d1) (.slice S2 n2 d2) ∧
    (∃ v0 v1 v2 v3 v4 v5 v6, BoxF wr (h + 1) v0 v1 v2 v3 v4 v5 v6) ∧ Below h w0 wr ∧ h + 2 ≤ wr.heap.size
set_option maxRecDepth 100000 in
set_option maxHeartbeats 4000000 in
theorem Copy_tree (k : Nat) : ∀ (p : PartD) (v : List Value) (w : World), (flatD p).length ≤ k → k ≤ 1000 → (∀ q ∈ flatD p, q.body.length ≤ 4000) → PartAt (· < w.heap.size) w p v →
    Calls Tryz.prog 69 #[.agg v.toArray] w (CopyRes2 p w) := by
  induction k with
  | zero => intro p v w h; rw [flatD_eq] at h; simp at h
  | succ k ih =>
    intro p v w hk hk1 hbod hp
    obtain ⟨A, c, A2, c2, rfl, hbds, hby, hnc, hcm, hP, hc2, hcm2⟩ := hp.open
    obtain ⟨W, hW⟩ : ∃ W, W = (w.alloc (.cells #[str p.type, str p.cs, str p.id, str p.loc, .int .i64 p.how, .slice A p.body.length c, .slice A2 p.parts.length c2] 25)).alloc (.cells #[.string ⟨#[]⟩, .string ⟨#[]⟩, .string ⟨#[]⟩, .string ⟨#[]⟩, .int .i64 0, .slice none 0 0, .slice none 0 0] 25) := ⟨_, rfl⟩
    have hbW : Below w.heap.size w W := by rw [hW]; exact ((Below.refl _ w).alloc (Nat.le_refl _) _).alloc (by simp) _
    have hsW : W.heap.size = w.heap.size + 2 := by rw [hW]; simp
    have hx1 : BoxF W w.heap.size (str p.type) (str p.cs) (str p.id) (str p.loc) (.int .i64 p.how) (.slice A p.body.length c) (.slice A2 p.parts.length c2) := by
      refine BoxF.of_block (t := 25) ?_
      rw [hW, Lib.alloc_old _ _ _ (by simp)]
      exact heap_alloc_new w _
    have hx2 : BoxF W (w.heap.size + 1) (.string ⟨#[]⟩) (.string ⟨#[]⟩) (.string ⟨#[]⟩) (.string ⟨#[]⟩) (.int .i64 0) (.slice none 0 0) (.slice none 0 0) := by
      refine BoxF.of_block (t := 25) ?_
      rw [hW]
      have := heap_alloc_new (w.alloc (.cells #[str p.type, str p.cs, str p.id, str p.loc, .int .i64 p.how, .slice A p.body.length c, .slice A2 p.parts.length c2] 25)) (.cells #[.string ⟨#[]⟩, .string ⟨#[]⟩, .string ⟨#[]⟩, .string ⟨#[]⟩, .int .i64 0, .slice none 0 0, .slice none 0 0] 25)
      simpa using this
    have hnb : p.body.length ≤ 1000000000 := by have := hbod p (by rw [flatD_eq]; simp); omega
    have hfl : (flatsD p.parts).length ≤ k := by rw [flatD_eq, List.length_cons] at hk; omega
    have hnp : p.parts.length ≤ 1000000000 := by have := flatsD_len p.parts; omega
    obtain ⟨rows, hrs, hrp⟩ := hP
    have hc1 : ∀ W', Below w.heap.size w W' → Calls Tryz.prog 67 #[.slice A p.body.length c] W' (CloResbyte (Lib.byteCells p.body) p.body.length W') :=
      fun W' hb => Clone_byte A _ c w.heap.size _ W' (Sl.below hby hb) hb.size (oneCell_byteCells _) hnb
    have hc2 : ∀ W', Below w.heap.size w W' → Calls Tryz.prog 139 #[.slice A2 p.parts.length c2] W' (CloResPart rows.flatten p.parts.length W') :=
      fun W' hb => Clone_Part A2 _ c2 w.heap.size _ W' (Sl.below hrs hb) hb.size (PartsAt.one _ _ hrp) hnp
    have Hc1 := Lib.hid hc1
    have Hc2 := Lib.hid hc2
    have Hx1 := Lib.hid (show BoxF W.drew _ _ _ _ _ _ _ _ from hx1)
    have Hx2 := Lib.hid (show BoxF W.drew _ _ _ _ _ _ _ _ from hx2)
    have HsW := Lib.hid hsW
    have hszW : w.heap.size + 2 ≤ W.drew.heap.size := by show _ ≤ W.heap.size; omega
    have Hby := Lib.hid hby
    have Hrs := Lib.hid hrs
    have Hrp := Lib.hid hrp
    have Hih := Lib.hid ih
    have Hbod := Lib.hid hbod
    have Hbds := Lib.hid hbds
    clear hbds
    clear hc1 hc2 hsW hx2 hby hrs hrp ih hbod hp
    obtain ⟨⟨x0, x1, x2, x3, x4, x5, x6⟩, hf⟩ := hx1
    go_enter Tryz.func69, Tryz.ntmps69
    go_wp2_with fail
    rw [← hW]
    clear hW
    go_region_with (first
      | (go_at_call 67; refine (Hc1.out _ hbW.drew).mono ?_; rintro e w1 ⟨S1, d1, rfl, hown1, hb1⟩; have hbel1 := hbW.drew.trans (hb1.mono hbW.drew.size); have hB1 := hb1.mono hszW; obtain ⟨⟨y0, y1, y2, y3, y4, y5, y6⟩, yf⟩ := Hx1.out.below hB1 (by omega))
      | (go_at_call 139; refine (Hc2.out _ hbel1).mono ?_; rintro e w2 ⟨S2, d2, rfl, hown2, hb2⟩; have hbel2 := hbel1.trans (hb2.mono hbel1.size); have hB2 := hB1.trans (hb2.mono (Nat.le_trans hszW hb1.size)); obtain ⟨⟨z0, z1, z2, z3, z4, z5, z6⟩, zf⟩ := Hx1.out.below hB2 (by omega)))
    all_goals
      generalize hW3 : (w2.setCell ⟨w.heap.size, 5, none⟩ (Value.slice S1 p.body.length d1)).setCell ⟨w.heap.size, 6, none⟩ (Value.slice S2 p.parts.length d2) = w3
      have hsz3 : w3.heap.size = w2.heap.size := by rw [← hW3]; simp
      have hz1 := hb1.size
      have hz2 := hb2.size
      have hown2b := own_base hown2 (show w.heap.size + 2 ≤ _ by omega)
      have hlo2 : ∀ g, Value.ownBlock (.slice S2 p.parts.length d2) = some g → g < w3.heap.size := fun g hg => by rw [hsz3]; exact (hown2.lt g hg).2
      obtain ⟨lo2, hlo⟩ : ∃ lo2, lo2 = w3.heap.size := ⟨_, rfl⟩
      rw [← hlo] at hlo2
      have hrel0 : CopyRel2 p rows p.parts.length w.heap.size lo2 S1 S2 d1 d2 w (.int .i64 0) w3 := by
        have hne : Value.ownBlock (.slice S2 p.parts.length d2) ≠ some w.heap.size := fun e => by have := (hown2.lt _ e).1; have := hb1.size; omega
        refine ⟨0, [], rfl, Nat.zero_le _, rfl, ?_, ⟨rfl, by rw [hlo]; exact Nat.le_refl _⟩, by rw [hlo]; exact Nat.le_refl _, ?_, ?_, ?_, by omega⟩
        · rw [← hW3]
          exact own_setFar (own_setFar hown2b hne _) hne _
        · rw [← hW3]
          exact BoxF.set56 (Hx1.out.below hB2 (by omega)) _ _
        · rw [← hW3]
          exact ⟨_, _, _, _, _, _, _, ((Hx2.out.below hB2 (by omega)).setFar (by simp) _).setFar (by simp) _⟩
        · rw [← hW3]
          exact (hbel2.setCell (Nat.le_refl _) _).setCell (Nat.le_refl _) _
      have hloh : w.heap.size + 2 ≤ lo2 := by rw [hlo]; omega
      have Hlo2 := Lib.hid hlo2
      have hdd : p.body.length ≤ d1 ∧ d1 ≤ maxLen ∧ p.parts.length ≤ d2 ∧ d2 ≤ maxLen := ⟨own_cap hown1, own_capmax hown1, own_cap hown2, own_capmax hown2⟩
      have Hdd := Lib.hid hdd
      have Hrel0 := Lib.hid hrel0
      have hx6 : w3.cell? ⟨w.heap.size, 6, none⟩ = some (.slice S2 p.parts.length d2) := by
        obtain ⟨i, done, _, _, _, _, _, _, hbx, _⟩ := hrel0
        exact hbx.1.2.2.2.2.2.2
      clear hW3 hrel0 hdd hown1 hown2 hown2b hlo hlo2 hsz3 hz1 hz2 y0 y1 y2 y3 y4 y5 y6 yf z0 z1 z2 z3 z4 z5 z6 zf x0 x1 x2 x3 x4 x5 x6 hf
      clear hb1 hb2 hbel1 hbel2 hB1 hB2
      go_wp2_with fail
      go_loopw [16] (CopyRel2 p rows p.parts.length w.heap.size lo2 S1 S2 d1 d2 w) (fun iv _ => p.parts.length - (intOf iv).toNat)
      case atStart => exact Hrel0.out
      case round =>
        obtain ⟨i, done, rfl, hi, hdl, hown, hpd, hs1, hbx, hb1x, hbel, hsz⟩ := hrel
        have hgl2 := Hlo2.out
        by_cases hin : i < p.parts.length
        · obtain ⟨g, cap, hv, hgb, hgl⟩ := hown.form (by omega)
          injection hv with hS2 _ hcap
          subst hS2
          subst hcap
          obtain ⟨r, hr, hpr⟩ := PartsAt.get _ _ Hrp.out i hin
          have hri : i < rows.length := by rw [PartsAt.len _ _ Hrp.out]; exact hin
          have hrd : rows.drop i = r :: rows.drop (i + 1) := by
            rw [List.drop_eq_getElem_cons hri]
            rw [List.getElem?_eq_getElem hri] at hr
            injection hr with hr
            rw [hr]
          have hpd7 := TrsAt.rows7 _ _ _ _ hpd
          have hrw7 : ∀ x ∈ done ++ rows.drop i, x.length = 7 := by
            intro x hx
            rcases List.mem_append.1 hx with hx | hx
            · exact hpd7 x hx
            · exact PartsAt.rows _ _ Hrp.out x (List.mem_of_mem_drop hx)
          have hcell : ∀ k u, k < 7 → r[k]? = some u → wr.cell? ⟨g, i * 7 + k, none⟩ = some u := by
            intro k u hk hu
            rw [hown.cellAt _ (by omega), flat7_at _ hrw7 i k r ?_ hk]
            · exact hu
            · rw [List.getElem?_append_right (by omega), hdl, Nat.sub_self, hrd]; rfl
          generalize hq : p.parts[i] = q at hpr
          obtain ⟨A', c', A2', c2', rfl, _⟩ := hpr.open
          have q0 := hcell 0 _ (by omega) rfl
          have q1 := hcell 1 _ (by omega) rfl
          have q2 := hcell 2 _ (by omega) rfl
          have q3 := hcell 3 _ (by omega) rfl
          have q4 := hcell 4 _ (by omega) rfl
          have q5 := hcell 5 _ (by omega) rfl
          have q6 := hcell 6 _ (by omega) rfl
          simp only [Nat.add_zero] at q0
          obtain ⟨W5, hW5⟩ : ∃ W5, W5 = wr.alloc (.cells #[str q.type, str q.cs, str q.id, str q.loc, .int .i64 q.how, .slice A' q.body.length c', .slice A2' q.parts.length c2'] 25) := ⟨_, rfl⟩
          have hbA : Below wr.heap.size wr W5 := by rw [hW5]; exact (Below.refl _ wr).alloc (Nat.le_refl _) _
          have hbel5 : Below w.heap.size w W5 := hbel.trans (hbA.mono hbel.size)
          have hbx5 : BoxF W5 w.heap.size _ _ _ _ _ _ _ := hbx.below hbA (by omega)
          have hk5 : BoxF W5 wr.heap.size (str q.type) (str q.cs) (str q.id) (str q.loc) (.int .i64 q.how) (.slice A' q.body.length c') (.slice A2' q.parts.length c2') := by
            refine BoxF.of_block (t := 25) ?_
            rw [hW5]; exact heap_alloc_new wr _
          have hs5 : W5.heap.size = wr.heap.size + 1 := by rw [hW5]; simp
          have hr5 : Row7 W5.drew g (i * 7) (str q.type) (str q.cs) (str q.id) (str q.loc) (.int .i64 q.how) (.slice A' q.body.length c') (.slice A2' q.parts.length c2') := Row7.below (w := wr) ⟨q0, q1, q2, q3, q4, q5, q6⟩ hbA.drew hgl
          have Hr5 := Lib.hid hr5
          have hgl5 : g < W5.drew.heap.size := by show g < W5.heap.size; omega
          have Hbx5 := Lib.hid (show BoxF W5.drew _ _ _ _ _ _ _ _ from hbx5)
          have hh5 : w.heap.size < W5.drew.heap.size := by show w.heap.size < W5.heap.size; omega
          obtain ⟨⟨_, _, _, _, _, _, x6⟩, _⟩ := hbx5
          obtain ⟨⟨k0, k1, k2, k3, k4, k5, k6⟩, _⟩ := hk5
          have hflq : (flatD q).length ≤ k ∧ ∀ x ∈ flatD q, x.body.length ≤ 4000 := by
            have h1 := flatsD_get p.parts i hin
            rw [hq] at h1
            exact ⟨by omega, fun x hx => Hbod.out x (by rw [flatD_eq]; exact List.mem_cons_of_mem _ (h1.2 x hx))⟩
          have hcl := Hih.out q _ W5.drew hflq.1 (by omega) hflq.2 ((hpr.belowN (w' := W5.drew) hbel5.drew (Nat.le_refl _)).more hbel5.size)
          have hown5 := own_below hown hbA
          have Hcl := Lib.hid hcl
          have Hown := Lib.hid hown5
          have Hq := Lib.hid hq
          have Hpd := Lib.hid hpd
          have Hs1 := Lib.hid hs1
          have Hbx := Lib.hid hbx
          have Hb1x := Lib.hid hb1x
          have Hdl := Lib.hid hdl
          have Hs5 := Lib.hid hs5
          have Hrd := Lib.hid hrd
          have Hpd7 := Lib.hid hpd7
          have hin1 : (i : Int) < p.parts.length := by omega
          have hin0 : 0 ≤ (i : Int) := by omega
          clear hr5 hcl hown5 hown hq hpd hs1 hbx hb1x hdl hs5 hrd hrw7 hpd7 hcell hr hri hpr hflq
          go_wp2_with fail
          rw [← hW5]
          clear hW5 q0 q1 q2 q3 q4 q5 q6
          go_region_with (first
            | (go_at_call 69; refine Hcl.out.mono ?_; rintro e w6 ⟨v6, rfl, hpv, hb6⟩; obtain ⟨A6, d6, A7, d7, rows6, lo6, rfl, _⟩ := hpv.open; have hown6 := own_below (show World.ownsRow W5.drew _ _ _ _ _ _ from Hown.out) hb6; have f6 : ∀ j, w6.frozen? ⟨g, j, none⟩ = false := fun j => hown6.frozenAt j; obtain ⟨c0, c1, c2, c3, c4, c5, c6⟩ := Hr5.out.below hb6 hgl5; obtain ⟨⟨_, _, _, _, _, _, y6⟩, _⟩ := Hbx5.out.below hb6 hh5; have Hown6 := Lib.hid hown6; have Hpv := Lib.hid hpv; clear hown6 hpv))
          all_goals
            generalize hW7 : (((((((w6.setCell ⟨g, i * 7, none⟩ (str q.type)).setCell ⟨g, i * 7 + 1, none⟩ (str q.cs)).setCell ⟨g, i * 7 + 2, none⟩ (str q.id)).setCell ⟨g, i * 7 + 3, none⟩ (str q.loc)).setCell ⟨g, i * 7 + 4, none⟩ (.int .i64 q.how)).setCell ⟨g, i * 7 + 5, none⟩ (.slice A6 q.body.length d6)).setCell ⟨g, i * 7 + 6, none⟩ (.slice A7 q.parts.length d7)) = w7
            have HW7 := Lib.hid hW7
            clear hW7
            go_wp2_with fail
            refine ⟨?_, by simp [intOf]; omega⟩
            have hs5 := Hs5.out
            have hb65 : Below W5.heap.size W5 w6 := ⟨hb6.os, hb6.tape, hb6.output, hb6.size, hb6.block⟩
            have hgb6 : W5.heap.size ≤ w6.heap.size := hb65.size
            have hbr6 : Below wr.heap.size wr w6 := hbA.trans (hb65.mono hbA.size)
            have hd7 := Hpd7.out
            have hown7 := own_set7 (g := g) (i := i) (done := done) (rest := rows.drop (i + 1)) (by have := Hown6.out; rw [Hrd.out] at this; exact this) hd7 Hdl.out (str q.type) (str q.cs) (str q.id) (str q.loc) (.int .i64 q.how) (.slice A6 q.body.length d6) (.slice A7 q.parts.length d7)
            rw [HW7.out] at hown7
            have hsz7 : w7.heap.size = w6.heap.size := by rw [← HW7.out]; simp
            have far7 : ∀ a : Addr, a.block ≠ g → w7.cell? a = w6.cell? a := fun a ha => by rw [← HW7.out]; exact set7_far _ _ _ _ _ _ _ ha
            have hg2 : g < lo2 := Hlo2.out g rfl
            have hblk7 : ∀ b, b ≠ g → w7.heap[b]? = w6.heap[b]? := by
              intro b hb
              rw [← HW7.out]
              simp only [World.setCell, Array.getElem?_modify]
              simp [Ne.symm hb]
            have keep7 : ∀ b, lo2 ≤ b → b < wr.heap.size → w7.heap[b]? = wr.heap[b]? := fun b h1 h2 => (hblk7 b (by omega)).trans (hbr6.block b h2)
            refine ⟨i + 1, done ++ [[str q.type, str q.cs, str q.id, str q.loc, .int .i64 q.how, .slice A6 q.body.length d6, .slice A7 q.parts.length d7]], by go_num, by omega, by simp [Hdl.out], by rw [List.append_assoc]; exact hown7, ?_, by have := Hs1.out; omega, ?_, ?_, ?_, by omega⟩
            · have ht : p.parts.take (i + 1) = p.parts.take i ++ [q] := by rw [List.take_succ_eq_append_getElem hin, Hq.out]
              rw [ht]
              refine TrsAt.snoc _ _ _ _ _ _ _ _ (TrsAt.keep _ _ _ _ keep7 Hpd.out) (show wr.heap.size ≤ W5.heap.size by omega) (by omega) (TrAt.keep (w := w6) _ _ _ _ (fun b h1 h2 => ?_) (TrAt.wide _ _ _ _ W5.heap.size w7.heap.size (Nat.le_refl _) (by omega) Hpv.out))
              have h1' : W5.heap.size ≤ b := h1
              have := Hs1.out
              exact hblk7 b (by omega)
            · have h1 := Hbx5.out.below hb6 hh5
              rw [← HW7.out]
              exact ((((((h1.setFar (by simp; omega) _).setFar (by simp; omega) _).setFar (by simp; omega) _).setFar (by simp; omega) _).setFar (by simp; omega) _).setFar (by simp; omega) _).setFar (by simp; omega) _
            · obtain ⟨v0, v1, v2, v3, v4, v5, v6, hbr⟩ := Hb1x.out
              have h1 := hbr.below hbr6 (by omega)
              rw [← HW7.out]
              exact ⟨_, _, _, _, _, _, _, ((((((h1.setFar (by simp; omega) _).setFar (by simp; omega) _).setFar (by simp; omega) _).setFar (by simp; omega) _).setFar (by simp; omega) _).setFar (by simp; omega) _).setFar (by simp; omega) _⟩
            · rw [← HW7.out]
              exact set7_below (hbel5.trans (hb65.mono hbel5.size)) (by omega) _ _ _ _ _ _ _
        · obtain rfl : i = p.parts.length := by omega
          obtain ⟨⟨x0, x1, x2, x3, x4, x5, x6⟩, _⟩ := id hbx
          obtain ⟨r0, r1, r2, r3, r4, r5, r6, ⟨y0, y1, y2, y3, y4, y5, y6⟩, yf⟩ := hb1x
          have hdr : rows.drop p.parts.length = [] := List.drop_of_length_le (by rw [PartsAt.len _ _ Hrp.out]; exact Nat.le_refl _)
          rw [hdr, List.append_nil] at hown
          rw [List.take_length] at hpd
          have Hown := Lib.hid hown
          have Hpd := Lib.hid hpd
          have Hs1 := Lib.hid hs1
          have Hdl := Lib.hid hdl
          clear hown hpd hs1 hdl hdr hgl2
          go_wp2_with fail
          have hbx9 := BoxF.set7 (w := wr) (b := w.heap.size + 1) ⟨⟨y0, y1, y2, y3, y4, y5, y6⟩, yf⟩ (str p.type) (str p.cs) (str p.id) (str p.loc) (.int .i64 p.how) (.slice S1 p.body.length d1) (.slice S2 p.parts.length d2)
          have far9 : ∀ a : Addr, a.block ≠ w.heap.size + 1 → (((((((wr.setCell ⟨w.heap.size + 1, 0, none⟩ (str p.type)).setCell ⟨w.heap.size + 1, 1, none⟩ (str p.cs)).setCell ⟨w.heap.size + 1, 2, none⟩ (str p.id)).setCell ⟨w.heap.size + 1, 3, none⟩ (str p.loc)).setCell ⟨w.heap.size + 1, 4, none⟩ (.int .i64 p.how)).setCell ⟨w.heap.size + 1, 5, none⟩ (.slice S1 p.body.length d1)).setCell ⟨w.heap.size + 1, 6, none⟩ (.slice S2 p.parts.length d2)).cell? a = wr.cell? a := by
            intro a ha
            have h : ∀ (w' : World) k u, (w'.setCell ⟨w.heap.size + 1, k, none⟩ u).cell? a = w'.cell? a := fun w' k u => World.cell?_setCell_other _ _ _ _ (by rintro rfl; exact ha rfl)
            rw [h, h, h, h, h, h, h]
          have hbel9 : Below w.heap.size w (((((((wr.setCell ⟨w.heap.size + 1, 0, none⟩ (str p.type)).setCell ⟨w.heap.size + 1, 1, none⟩ (str p.cs)).setCell ⟨w.heap.size + 1, 2, none⟩ (str p.id)).setCell ⟨w.heap.size + 1, 3, none⟩ (str p.loc)).setCell ⟨w.heap.size + 1, 4, none⟩ (.int .i64 p.how)).setCell ⟨w.heap.size + 1, 5, none⟩ (.slice S1 p.body.length d1)).setCell ⟨w.heap.size + 1, 6, none⟩ (.slice S2 p.parts.length d2)) :=
            ((((((hbel.setCell (Nat.le_succ _) _).setCell (Nat.le_succ _) _).setCell (Nat.le_succ _) _).setCell (Nat.le_succ _) _).setCell (Nat.le_succ _) _).setCell (Nat.le_succ _) _).setCell (Nat.le_succ _) _
          have hsz9 : (((((((wr.setCell ⟨w.heap.size + 1, 0, none⟩ (str p.type)).setCell ⟨w.heap.size + 1, 1, none⟩ (str p.cs)).setCell ⟨w.heap.size + 1, 2, none⟩ (str p.id)).setCell ⟨w.heap.size + 1, 3, none⟩ (str p.loc)).setCell ⟨w.heap.size + 1, 4, none⟩ (.int .i64 p.how)).setCell ⟨w.heap.size + 1, 5, none⟩ (.slice S1 p.body.length d1)).setCell ⟨w.heap.size + 1, 6, none⟩ (.slice S2 p.parts.length d2)).heap.size = wr.heap.size := by simp
          have hblk9 : ∀ b, b ≠ w.heap.size + 1 → (((((((wr.setCell ⟨w.heap.size + 1, 0, none⟩ (str p.type)).setCell ⟨w.heap.size + 1, 1, none⟩ (str p.cs)).setCell ⟨w.heap.size + 1, 2, none⟩ (str p.id)).setCell ⟨w.heap.size + 1, 3, none⟩ (str p.loc)).setCell ⟨w.heap.size + 1, 4, none⟩ (.int .i64 p.how)).setCell ⟨w.heap.size + 1, 5, none⟩ (.slice S1 p.body.length d1)).setCell ⟨w.heap.size + 1, 6, none⟩ (.slice S2 p.parts.length d2)).heap[b]? = wr.heap[b]? := by
            intro b hb
            simp only [World.setCell, Array.getElem?_modify]
            simp [Ne.symm hb]
          have HB9 := Lib.hid hblk9
          clear hblk9
          generalize (((((((wr.setCell ⟨w.heap.size + 1, 0, none⟩ (str p.type)).setCell ⟨w.heap.size + 1, 1, none⟩ (str p.cs)).setCell ⟨w.heap.size + 1, 2, none⟩ (str p.id)).setCell ⟨w.heap.size + 1, 3, none⟩ (str p.loc)).setCell ⟨w.heap.size + 1, 4, none⟩ (.int .i64 p.how)).setCell ⟨w.heap.size + 1, 5, none⟩ (.slice S1 p.body.length d1)).setCell ⟨w.heap.size + 1, 6, none⟩ (.slice S2 p.parts.length d2)) = w9 at hbx9 far9 hbel9 hsz9 HB9 ⊢
          obtain ⟨c0, c1, c2, c3, c4, c5, c6⟩ := hbx9
          refine bodyPost_ret (v := .agg #[str p.type, str p.cs, str p.id, str p.loc, .int .i64 p.how, .slice S1 p.body.length d1, .slice S2 p.parts.length d2]) (by simp [results, Tryz.results69, go_sem, c0, c1, c2, c3, c4, c5, c6]) rfl ?_
          have hblk9 : ∀ b, b ≠ w.heap.size + 1 → w9.heap[b]? = wr.heap[b]? := HB9.out
          obtain ⟨hd1, hd2, hd3, hd4⟩ := Hdd.out
          refine ⟨_, rfl, ?_, hbel9⟩
          have hown9 := own_keep (w' := w9) Hown.out (fun g hg => hblk9 g (by have := (Hown.out.lt g hg).1; omega))
          have htr9 := TrsAt.keep (w' := w9) _ _ _ _ (fun b h1 h2 => hblk9 b (by omega)) Hpd.out
          have hbb := Hbds.out
          have hll := Hlo2.out
          have hle := Hs1.out
          obtain ⟨t, cs, id, loc, how, body, parts⟩ := p
          exact ⟨S1, d1, S2, d2, done, lo2, rfl, hbb, hd3, hd4, own_base hown9 (by omega), hll, by omega, by omega, by rw [hsz9]; exact htr9⟩
end Go.Proofs.YtlbdnohnngkapaaGreatDoor

namespace Go.Proofs.YtlbdnohnngkapaaGreatDoor
open Go.RowKit

def OwnRes (p : PartD) (w : World) (e : Ending) (w' : World) : Prop :=
  ∃ A c S2 d2 rows, e = .returned (.agg #[str p.type, str p.cs, str p.id, str p.loc, .int .i64 p.how, .slice A p.body.length c, .slice S2 p.parts.length d2]) ∧
    w'.ownsRow w.heap.size 25 7 (.slice S2 p.parts.length d2) p.parts.length rows.flatten ∧
    PartsAt (NewS w.heap.size (Value.ownBlock (.slice S2 p.parts.length d2)) w') w' p.parts rows ∧
    SlS (NewS w.heap.size (Value.ownBlock (.slice S2 p.parts.length d2)) w') w' 1 A p.body.length (Lib.byteCells p.body) ∧ p.body.length ≤ c ∧ c ≤ maxLen ∧ p.parts.length ≤ d2 ∧ d2 ≤ maxLen ∧
    (p.type.length ≤ maxLen ∧ p.cs.length ≤ maxLen ∧ p.id.length ≤ maxLen ∧ p.loc.length ≤ maxLen ∧ -9223372036854775808 ≤ p.how ∧ p.how ≤ 9223372036854775807) ∧ Below w.heap.size w w'
theorem BoxF.s5 {w : World} {b : Nat} {v0 v1 v2 v3 v4 v5 v6 : Value} (h : BoxF w b v0 v1 v2 v3 v4 v5 v6) (u : Value) : BoxF (w.setCell ⟨b, 5, none⟩ u) b v0 v1 v2 v3 v4 u v6 := by
  obtain ⟨⟨h0, h1, h2, h3, h4, h5, h6⟩, hf⟩ := h
  have far : ∀ k v, k ≠ 5 → w.cell? ⟨b, k, none⟩ = some v → (w.setCell ⟨b, 5, none⟩ u).cell? ⟨b, k, none⟩ = some v := fun k v h5 h => by
    rw [World.cell?_setCell_other _ _ _ _ (by simp <;> omega)]; exact h
  exact ⟨⟨far 0 _ (by omega) h0, far 1 _ (by omega) h1, far 2 _ (by omega) h2, far 3 _ (by omega) h3, far 4 _ (by omega) h4, World.cell?_setCell_same _ _ _ h5, far 6 _ (by omega) h6⟩, fun k => by simpa using hf k⟩
theorem BoxF.s6 {w : World} {b : Nat} {v0 v1 v2 v3 v4 v5 v6 : Value} (h : BoxF w b v0 v1 v2 v3 v4 v5 v6) (u : Value) : BoxF (w.setCell ⟨b, 6, none⟩ u) b v0 v1 v2 v3 v4 v5 u := by
  obtain ⟨⟨h0, h1, h2, h3, h4, h5, h6⟩, hf⟩ := h
  have far : ∀ k v, k ≠ 6 → w.cell? ⟨b, k, none⟩ = some v → (w.setCell ⟨b, 6, none⟩ u).cell? ⟨b, k, none⟩ = some v := fun k v h5 h => by
    rw [World.cell?_setCell_other _ _ _ _ (by simp <;> omega)]; exact h
  exact ⟨⟨far 0 _ (by omega) h0, far 1 _ (by omega) h1, far 2 _ (by omega) h2, far 3 _ (by omega) h3, far 4 _ (by omega) h4, far 5 _ (by omega) h5, World.cell?_setCell_same _ _ _ h6⟩, fun k => by simpa using hf k⟩
/-- A part in memory of its own, out of its pieces. -/
theorem own_part {p : PartD} {B B' : Nat} {w : World} {A S2 : Option Addr} {c d2 : Nat} {rows : List (List Value)} (hB : B' ≤ B)
    (hown : w.ownsRow B 25 7 (.slice S2 p.parts.length d2) p.parts.length rows.flatten)
    (hps : PartsAt (NewS B (Value.ownBlock (.slice S2 p.parts.length d2)) w) w p.parts rows) (hs : SlS (NewS B (Value.ownBlock (.slice S2 p.parts.length d2)) w) w 1 A p.body.length (Lib.byteCells p.body))
    (h1 : p.body.length ≤ c) (h2 : c ≤ maxLen) (h3 : p.parts.length ≤ d2) (h4 : d2 ≤ maxLen) (hb : p.type.length ≤ maxLen ∧ p.cs.length ≤ maxLen ∧ p.id.length ≤ maxLen ∧ p.loc.length ≤ maxLen ∧ -9223372036854775808 ≤ p.how ∧ p.how ≤ 9223372036854775807) :
    PartAt (fun b => B' ≤ b ∧ b < w.heap.size) w p [str p.type, str p.cs, str p.id, str p.loc, .int .i64 p.how, .slice A p.body.length c, .slice S2 p.parts.length d2] := by
  have inN : ∀ b, NewS B (Value.ownBlock (.slice S2 p.parts.length d2)) w b → B' ≤ b ∧ b < w.heap.size := fun b hb => ⟨Nat.le_trans hB hb.1, hb.2.1⟩
  have hpp := PartsAt.change (w' := w) inN (fun _ _ => rfl) _ _ hps
  have hss := SlS.change (w' := w) hs inN (fun _ _ => rfl)
  have hrw := SlS.change (w' := w) (S' := fun b => B' ≤ b ∧ b < w.heap.size) (own_sls hown) (fun b hb => ⟨Nat.le_trans hB hb.1, hb.2⟩) (fun _ _ => rfl)
  obtain ⟨t, cs, id, loc, how, body, parts⟩ := p
  exact ⟨A, _, c, S2, _, d2, rows, rfl, hb, hss, h1, h2, hrw, h3, h4, hpp⟩
def OwnRel (p : PartD) (n2 h : Nat) (S1 : Option Addr) (d1 : Nat) (A2 : Option Addr) (c2 : Nat) (w0 : World) (lv iv : Value) (wr : World) : Prop :=
  ∃ i d S rows, lv = .slice S i d ∧ iv = .int .i64 (i : Nat) ∧ i ≤ n2 ∧ wr.ownsRow (h + 2) 25 7 (.slice S i d) i (List.flatten rows) ∧
    PartsAt (NewS (h + 2) (Value.ownBlock (.slice S i d)) wr) wr (p.parts.take i) rows ∧ SlS (NewS (h + 2) (Value.ownBlock (.slice S i d)) wr) wr 1 S1 p.body.length (Lib.byteCells p.body) ∧
    BoxF wr h (str p.type) (str p.cs) (str p.id) (str p.loc) (.int .i64 p.how) (.slice S1 p.body.length d1) (.slice A2 n2 c2) ∧
    (∃ v0 v1 v2 v3 v4 v5 v6, BoxF wr (h + 1) v0 v1 v2 v3 v4 v5 v6) ∧ Below h w0 wr ∧ h + 2 ≤ wr.heap.size
set_option maxRecDepth 100000 in
set_option maxHeartbeats 4000000 in
theorem OwnPart_any (k : Nat) : ∀ (p : PartD) (v : List Value) (w : World), (flatD p).length ≤ k → k ≤ 1000 → (∀ q ∈ flatD p, q.body.length ≤ 4000) → PartAt (· < w.heap.size) w p v →
    Calls Tryz.prog 35 #[.agg v.toArray] w (OwnRes p w) := by
  obtain ⟨i0, hi0, hz0, hz1, hz2⟩ := info_parts catInfoPart
  obtain ⟨j0, hj0, hy0, hy1, hy2⟩ := info_parts cloInfobyte
  induction k with
  | zero => intro p v w h; rw [flatD_eq] at h; simp at h
  | succ k ih =>
    intro p v w hk hk1 hbod hp
    obtain ⟨A, c, A2, c2, rfl, hbds, hby, hnc, hcm, hP, hc2, hcm2⟩ := hp.open
    obtain ⟨W, hW⟩ : ∃ W, W = (w.alloc (.cells #[str p.type, str p.cs, str p.id, str p.loc, .int .i64 p.how, .slice A p.body.length c, .slice A2 p.parts.length c2] 25)).alloc (.cells #[.string ⟨#[]⟩, .string ⟨#[]⟩, .string ⟨#[]⟩, .string ⟨#[]⟩, .int .i64 0, .slice none 0 0, .slice none 0 0] 25) := ⟨_, rfl⟩
    have hbW : Below w.heap.size w W := by rw [hW]; exact ((Below.refl _ w).alloc (Nat.le_refl _) _).alloc (by simp) _
    have hsW : W.heap.size = w.heap.size + 2 := by rw [hW]; simp
    have hx1 : BoxF W w.heap.size (str p.type) (str p.cs) (str p.id) (str p.loc) (.int .i64 p.how) (.slice A p.body.length c) (.slice A2 p.parts.length c2) := by
      refine BoxF.of_block (t := 25) ?_
      rw [hW, Lib.alloc_old _ _ _ (by simp)]
      exact heap_alloc_new w _
    have hx2 : BoxF W (w.heap.size + 1) (.string ⟨#[]⟩) (.string ⟨#[]⟩) (.string ⟨#[]⟩) (.string ⟨#[]⟩) (.int .i64 0) (.slice none 0 0) (.slice none 0 0) := by
      refine BoxF.of_block (t := 25) ?_
      rw [hW]
      have := heap_alloc_new (w.alloc (.cells #[str p.type, str p.cs, str p.id, str p.loc, .int .i64 p.how, .slice A p.body.length c, .slice A2 p.parts.length c2] 25)) (.cells #[.string ⟨#[]⟩, .string ⟨#[]⟩, .string ⟨#[]⟩, .string ⟨#[]⟩, .int .i64 0, .slice none 0 0, .slice none 0 0] 25)
      simpa using this
    have hnb : p.body.length ≤ 4000 := hbod p (by rw [flatD_eq]; simp)
    have hfl : (flatsD p.parts).length ≤ k := by rw [flatD_eq, List.length_cons] at hk; omega
    have hnp : p.parts.length ≤ 1000 := by have := flatsD_len p.parts; omega
    obtain ⟨⟨x0, x1, x2, x3, x4, x5, x6⟩, hf⟩ := id hx1
    have Hx1 := Lib.hid hx1
    have Hx2 := Lib.hid hx2
    have HsW := Lib.hid hsW
    have Hby := Lib.hid hby
    have HP := Lib.hid hP
    have Hih := Lib.hid ih
    have Hbod := Lib.hid hbod
    have Hbds := Lib.hid hbds
    clear hx1 hx2 hsW hby hP ih hbod hp hbds
    go_enter Tryz.func35, Tryz.ntmps35
    have hW2 : w.heap.size + 2 ≤ W.heap.size := by rw [HsW.out]; exact Nat.le_refl _
    have hown0 := World.ownsRow_made (e := 5) (size := 1) (base := w.heap.size + 2) W #[] 0 hW2 (Nat.zero_le _) rfl
    have hbE : Below W.heap.size W (W.alloc (.cells #[] 5)) := (Below.refl _ _).alloc (Nat.le_refl _) _
    have hxE := Hx1.out.below hbE (by omega)
    obtain ⟨⟨_, _, _, _, _, z5, z6⟩, hf'⟩ := id hxE
    have hbyE := Sl.below Hby.out (hbW.trans (hbE.mono hbW.size))
    have Hown0 := Lib.hid hown0
    have HxE := Lib.hid hxE
    have hone := oneCell_byteCells p.body
    have h63 : 0 + p.body.length ≤ maxLen := by unfold maxLen; omega
    have h47 : (0 + p.body.length) * 1 ≤ 140737488355328 := by omega
    have hbase : w.heap.size + 2 ≤ (W.alloc (.cells #[] 5)).heap.size := by simp; omega
    have Hone := Lib.hid hone
    have HbyE := Lib.hid hbyE
    clear hown0 hxE hf' hone hbyE x0 x1 x2 x3 x4 x5 x6 hf
    go_upto_region 1 with fail
    rw [← hW]
    clear hW
    go_wp2_with (at_builtin; refine wpList_app rfl _ _ 22 rfl (w.heap.size + 2) 5 j0 (.int .u8 0) 1 1 Tryz.underlying22 hj0 hy0 hy1 hy2 rfl (by decide) _ 0 0 [] rfl Hown0.out _ A p.body.length c (Lib.byteCells p.body) rfl HbyE.out Hone.out h63 h47 hbase ?_)
    intro S1 d1 w1 hown1 hb1 _
    have hbx1 := HxE.out.below hb1 (by omega)
    have hby1 : Below (w.heap.size + 2) W w1 := ((Below.refl _ _).alloc hW2 _).trans hb1
    have hbx2 := Hx2.out.below hby1 (by omega)
    have hbel1 : Below w.heap.size w w1 := hbW.trans (hby1.mono (Nat.le_add_right _ _))
    obtain ⟨⟨y0, y1, y2, y3, y4, y5, y6⟩, yf⟩ := id hbx1
    have yf5 := yf 5
    have hsz1 := hby1.size
    have hrel0 : OwnRel p p.parts.length w.heap.size S1 d1 A2 c2 w (.slice none 0 0) (.int .i64 0) (w1.setCell ⟨w.heap.size, 5, none⟩ (.slice S1 p.body.length d1)) := by
      refine ⟨0, 0, none, [], rfl, rfl, Nat.zero_le _, World.ownsRow_nil _ _ _ _, rfl, ?_, ?_, ?_, ?_, by simp; omega⟩
      · refine SlS.change (own_sls hown1) (fun b hb => ⟨hb.1, by simp; exact hb.2, fun e => by cases e⟩) (fun a ha => ?_)
        exact World.cell?_setCell_other _ _ _ _ (by rintro rfl; have := ha.1; simp at this; omega)
      · exact hbx1.s5 _
      · exact ⟨_, _, _, _, _, _, _, hbx2.setFar (by simp) _⟩
      · exact hbel1.setCell (Nat.le_refl _) _
    have hdd : p.body.length ≤ d1 ∧ d1 ≤ maxLen := ⟨own_cap hown1, own_capmax hown1⟩
    have Hdd := Lib.hid hdd
    have Hrel0 := Lib.hid hrel0
    clear hrel0 hdd hown1 hb1 hbx1 hbx2 hby1 hbel1 z5 z6
    go_wp2_with fail
    generalize w1.setCell ⟨w.heap.size, 5, none⟩ (.slice S1 p.body.length d1) = w2 at Hrel0 ⊢
    have hx6 : w2.cell? ⟨w.heap.size, 6, none⟩ = some (.slice A2 p.parts.length c2) := by
      obtain ⟨i, d, S, rows, _, _, _, _, _, _, hbx, _⟩ := Hrel0.out
      exact hbx.1.2.2.2.2.2.2
    obtain ⟨n, hn⟩ : ∃ n, n = p.parts.length := ⟨_, rfl⟩
    go_wp2_with fail
    go_loopw [3, 14] (OwnRel p p.parts.length w.heap.size S1 d1 A2 c2 w) (fun _ iv _ => p.parts.length - (intOf iv).toNat)
    case atStart => exact Hrel0.out
    case round =>
      obtain ⟨i, d, S, rows, rfl, rfl, hi, hown, hpd, hs1, hbx, hb1x, hbel, hsz⟩ := hrel
      by_cases hin : i < p.parts.length
      · obtain ⟨b, off, q, A', n', c', A2', n2', c2', hA2, hbS, hq, hqa, x0, x1, x2, x3, x4, x5, x6⟩ := (HP.out.below hbel).cells7 hin
        subst hA2
        obtain ⟨A3, c3, A4, c4, hv, hqb, _⟩ := hqa.open
        simp only [List.cons.injEq, and_true] at hv
        obtain ⟨_, _, _, _, _, h5, h6⟩ := hv
        injection h5 with h5 h5' h5''
        injection h6 with h6 h6' h6''
        subst h5 h5' h5'' h6 h6' h6''
        obtain ⟨W5, hW5⟩ : ∃ W5, W5 = wr.alloc (.cells #[str q.type, str q.cs, str q.id, str q.loc, .int .i64 q.how, .slice A' q.body.length c', .slice A2' q.parts.length c2'] 25) := ⟨_, rfl⟩
        have hbA : Below wr.heap.size wr W5 := by rw [hW5]; exact (Below.refl _ wr).alloc (Nat.le_refl _) _
        have hbel5 : Below w.heap.size w W5 := hbel.trans (hbA.mono hbel.size)
        have hiq : p.parts[i]? = some q := by
          have h1 := congrArg (fun l => l[0]?) hq
          simpa using h1
        have hflq : (flatD q).length ≤ k ∧ ∀ x ∈ flatD q, x.body.length ≤ 4000 := by
          have h1 := flatsD_get p.parts i hin
          have h2 : p.parts[i] = q := by rw [List.getElem?_eq_getElem hin] at hiq; injection hiq
          rw [h2] at h1
          exact ⟨by omega, fun x hx => Hbod.out x (by rw [flatD_eq]; exact List.mem_cons_of_mem _ (h1.2 x hx))⟩
        have hcl := Hih.out q _ W5 hflq.1 (by omega) hflq.2 ((hqa.belowN (w' := W5) (hbA.mono hbel.size) (Nat.le_refl _)).more hbel5.size)
        have hs5 : W5.heap.size = wr.heap.size + 1 := by rw [hW5]; simp
        have Hcl := Lib.hid hcl
        have Hown := Lib.hid hown
        have Hpd := Lib.hid hpd
        have Hs1 := Lib.hid hs1
        have Hbx := Lib.hid hbx
        have Hb1x := Lib.hid hb1x
        have Hiq := Lib.hid hiq
        have Hs5 := Lib.hid hs5
        clear hcl hown hpd hs1 hbx hb1x hq hqa hiq hs5 hflq hqb
        go_wp2_with fail
        rw [← hW5]
        clear hW5 x0 x1 x2 x3 x4 x5 x6
        refine Hcl.out.mono ?_
        rintro e w6 ⟨A6, d6, S6, d7, rows6, rfl, hown6, hps6, hss6, g1, g2, g3, g4, gb, hb6⟩
        have hqp := own_part (B' := W5.heap.size) (Nat.le_refl _) hown6 hps6 hss6 g1 g2 g3 g4 gb
        have hbr6 : Below wr.heap.size wr w6 := hbA.trans (hb6.mono hbA.size)
        have hbel6 := hbel5.trans (hb6.mono hbel5.size)
        have hown7 := own_below Hown.out hbr6
        have hone : ∀ u ∈ [str q.type, str q.cs, str q.id, str q.loc, .int .i64 q.how, .slice A6 q.body.length d6, .slice S6 q.parts.length d7], u.oneCell' = true := hqp.one
        have h63 : i + 1 ≤ maxLen := by unfold maxLen; omega
        have h47 : (i + 1) * 120 ≤ 140737488355328 := by omega
        have hbase : w.heap.size + 2 ≤ w6.heap.size := Nat.le_trans hsz hbr6.size
        have hs6 : wr.heap.size + 1 ≤ w6.heap.size := by rw [← Hs5.out]; exact hb6.size
        have Hown7 := Lib.hid hown7
        have Hone := Lib.hid hone
        have Hqp := Lib.hid hqp
        clear hown6 hps6 hss6 hown7 hone hqp Hcl hb6
        go_wp2_with (at_builtin; refine wpList_app2 rfl _ _ 23 rfl (w.heap.size + 2) 25 i0 _ 7 120 Tryz.underlying23 hi0 hz0 hz1 hz2 rfl (by decide) S i d rows.flatten rfl (Hown7.out.alloc _) _ _ 1 1 [str q.type, str q.cs, str q.id, str q.loc, .int .i64 q.how, .slice A6 q.body.length d6, .slice S6 q.parts.length d7] rfl (Sl.row _ _ 7 1 _ rfl) Hone.out h63 h47 ?c2 ?_)
        case c2 => simp; omega
        intro S' d' w8 hown8 hb8 hgr8 hat8
        have hbk8 : ∀ b, b < w6.heap.size → some b ≠ Value.ownBlock (.slice S i d) → ∀ o, w8.cell? ⟨b, o, none⟩ = w6.cell? ⟨b, o, none⟩ := by
          intro b hb hne o
          rw [World.cell?_of_block (hgr8.block b (by simp; omega) hne)]
          exact World.cell?_alloc_lt _ _ _ hb
        have hsz8 : w6.heap.size + 1 ≤ w8.heap.size := by have := hgr8.size; simpa using this
        have hSlt : ∀ g, Value.ownBlock (.slice S i d) = some g → w.heap.size + 2 ≤ g ∧ g < wr.heap.size := fun g hg => Hown.out.lt g hg
        have hfin : OwnRel p p.parts.length w.heap.size S1 d1 (some ⟨b, off, none⟩) c2 w (.slice S' (i + 1) d') (.int .i64 ((i : Int) + 1)) w8 := by
          have old8 : ∀ a : Addr, NewS (w.heap.size + 2) (Value.ownBlock (.slice S i d)) wr a.block → w8.cell? a = wr.cell? a := by
            intro a ha
            obtain ⟨ab, ao, an⟩ := a
            have h1 := hbr6.cell (p := ⟨ab, ao, an⟩) ha.2.1
            rw [← h1]
            have hlt : ab < w6.heap.size := Nat.lt_of_lt_of_le ha.2.1 hbr6.size
            rw [World.cell?_of_block (hgr8.block ab (by simp; omega) (fun e => ha.2.2 e.symm))]
            exact World.cell?_alloc_lt _ _ _ hlt
          have in8 : ∀ b, NewS (w.heap.size + 2) (Value.ownBlock (.slice S i d)) wr b → NewS (w.heap.size + 2) (Value.ownBlock (.slice S' (i + 1) d')) w8 b := by
            intro b hb
            refine ⟨hb.1, by have := hb.2.1; have := hbr6.size; omega, ?_⟩
            rcases hat8 with h | h
            · rw [h]; exact hb.2.2
            · rw [h]
              intro e
              injection e with e
              have := hb.2.1
              have := hbr6.size
              omega
          refine ⟨i + 1, d', S', rows ++ [[str q.type, str q.cs, str q.id, str q.loc, .int .i64 q.how, .slice A6 q.body.length d6, .slice S6 q.parts.length d7]], rfl, by go_num, by omega, by rw [List.flatten_append]; simpa using hown8, ?_, SlS.change Hs1.out in8 old8, ?_, ?_, ?_, by omega⟩
          · have ht : p.parts.take (i + 1) = p.parts.take i ++ [q] := by rw [List.take_add_one, Hiq.out]; rfl
            rw [ht]
            refine PartsAt.app _ _ _ _ (PartsAt.change in8 old8 _ _ Hpd.out) ⟨_, _, rfl, PartAt.change ?_ ?_ _ _ Hqp.out, rfl⟩
            · intro b hb
              have h1 : W5.heap.size ≤ b := hb.1
              have h2 := hb.2
              rw [Hs5.out] at h1
              refine ⟨by omega, by omega, fun e => ?_⟩
              rcases hat8 with h | h
              · rw [h] at e
                have := (hSlt b e).2
                omega
              · rw [h] at e
                injection e with e
                omega
            · intro a ha
              obtain ⟨ab, ao, an⟩ := a
              have h1 : W5.heap.size ≤ ab := ha.1
              have h2 : ab < w6.heap.size := ha.2
              rw [Hs5.out] at h1
              rw [World.cell?_of_block (hgr8.block ab (by simp; omega) (fun e => by have := (hSlt ab e.symm).2; omega))]
              exact World.cell?_alloc_lt _ _ _ h2
          · have h1 := Hbx.out.below hbr6 (by omega)
            exact (h1.below ((Below.refl _ _).alloc (Nat.le_refl _) _) (by omega)).below hb8 (by omega)
          · obtain ⟨v0, v1, v2, v3, v4, v5, v6, hbr⟩ := Hb1x.out
            have h1 := hbr.below hbr6 (by omega)
            exact ⟨_, _, _, _, _, _, _, (h1.below ((Below.refl _ _).alloc (Nat.le_refl _) _) (by omega)).below hb8 (by omega)⟩
          · exact (hbel6.alloc hbel6.size _).trans (hb8.mono (Nat.le_add_right _ _))
        have Hfin := Lib.hid hfin
        clear hfin hown8 hb8 hgr8 hat8 hbk8 hsz8 hSlt
        go_wp2_with fail
        exact ⟨Hfin.out, by simp [intOf]; omega⟩
      · obtain rfl : i = p.parts.length := by omega
        rw [List.take_length] at hpd
        have hwa1 := hbx.s6 (.slice S p.parts.length d)
        obtain ⟨r0, r1, r2, r3, r4, r5, r6, hbr⟩ := hb1x
        have hwa2 := hbr.setFar (p := ⟨w.heap.size, 6, none⟩) (by simp) (.slice S p.parts.length d)
        have hwab := hbel.setCell (p := ⟨w.heap.size, 6, none⟩) (Nat.le_refl _) (.slice S p.parts.length d)
        have hSlt : ∀ g, Value.ownBlock (.slice S p.parts.length d) = some g → w.heap.size + 2 ≤ g := fun g hg => (hown.lt g hg).1
        have hcapd := own_cap hown
        have hcapm := own_capmax hown
        have hown2 := own_setFar (p := ⟨w.heap.size, 6, none⟩) hown (fun e => by have : w.heap.size + 2 ≤ w.heap.size := hSlt _ e; omega) (.slice S p.parts.length d)
        have inA : ∀ b, NewS (w.heap.size + 2) (Value.ownBlock (.slice S p.parts.length d)) wr b → NewS (w.heap.size + 2) (Value.ownBlock (.slice S p.parts.length d)) (wr.setCell ⟨w.heap.size, 6, none⟩ (.slice S p.parts.length d)) b := fun b hb => ⟨hb.1, by simp; exact hb.2.1, hb.2.2⟩
        have oldA : ∀ a : Addr, NewS (w.heap.size + 2) (Value.ownBlock (.slice S p.parts.length d)) wr a.block → (wr.setCell ⟨w.heap.size, 6, none⟩ (.slice S p.parts.length d)).cell? a = wr.cell? a := fun a ha => World.cell?_setCell_other _ _ _ _ (by rintro rfl; have := ha.1; simp at this; omega)
        have hpd2 := PartsAt.change inA oldA _ _ hpd
        have hs2 := SlS.change hs1 inA oldA
        have hszA : w.heap.size + 2 ≤ (wr.setCell ⟨w.heap.size, 6, none⟩ (.slice S p.parts.length d)).heap.size := by simp; omega
        have Hpack := Lib.hid (And.intro hwa1 (And.intro hwa2 (And.intro hwab (And.intro hown2 (And.intro hpd2 (And.intro hs2 hszA))))))
        obtain ⟨⟨x0, x1, x2, x3, x4, x5, x6⟩, xf⟩ := hbx
        have xf6 := xf 6
        clear hwa1 hwa2 hwab hown hown2 hpd hpd2 hs1 hs2 hszA inA oldA hbr hbel xf hSlt
        go_upto_region 9 with fail
        clear x0 x1 x2 x3 x4 x5 x6 xf6
        generalize wr.setCell ⟨w.heap.size, 6, none⟩ (.slice S p.parts.length d) = wa at Hpack ⊢
        obtain ⟨hwa1, hwa2, hwab, hown2, hpd2, hs2, hszA⟩ := Hpack.out
        clear Hpack
        obtain ⟨⟨x0, x1, x2, x3, x4, x5, x6⟩, xf⟩ := hwa1
        obtain ⟨⟨y0, y1, y2, y3, y4, y5, y6⟩, yf⟩ := hwa2
        have Hown := Lib.hid hown2
        have Hpd := Lib.hid hpd2
        have Hs1 := Lib.hid hs2
        have hbel := hwab
        clear hown2 hpd2 hs2 hwab
        go_wp2_with fail
        have hbx9 := BoxF.set7 (w := wa) (b := w.heap.size + 1) ⟨⟨y0, y1, y2, y3, y4, y5, y6⟩, yf⟩ (str p.type) (str p.cs) (str p.id) (str p.loc) (.int .i64 p.how) (.slice S1 p.body.length d1) (.slice S p.parts.length d)
        have far9 : ∀ a : Addr, a.block ≠ w.heap.size + 1 → (((((((wa.setCell ⟨w.heap.size + 1, 0, none⟩ (str p.type)).setCell ⟨w.heap.size + 1, 1, none⟩ (str p.cs)).setCell ⟨w.heap.size + 1, 2, none⟩ (str p.id)).setCell ⟨w.heap.size + 1, 3, none⟩ (str p.loc)).setCell ⟨w.heap.size + 1, 4, none⟩ (.int .i64 p.how)).setCell ⟨w.heap.size + 1, 5, none⟩ (.slice S1 p.body.length d1)).setCell ⟨w.heap.size + 1, 6, none⟩ (.slice S p.parts.length d)).cell? a = wa.cell? a := by
          intro a ha
          have h : ∀ (w' : World) k u, (w'.setCell ⟨w.heap.size + 1, k, none⟩ u).cell? a = w'.cell? a := fun w' k u => World.cell?_setCell_other _ _ _ _ (by rintro rfl; exact ha rfl)
          rw [h, h, h, h, h, h, h]
        have hown9 : (((((((wa.setCell ⟨w.heap.size + 1, 0, none⟩ (str p.type)).setCell ⟨w.heap.size + 1, 1, none⟩ (str p.cs)).setCell ⟨w.heap.size + 1, 2, none⟩ (str p.id)).setCell ⟨w.heap.size + 1, 3, none⟩ (str p.loc)).setCell ⟨w.heap.size + 1, 4, none⟩ (.int .i64 p.how)).setCell ⟨w.heap.size + 1, 5, none⟩ (.slice S1 p.body.length d1)).setCell ⟨w.heap.size + 1, 6, none⟩ (.slice S p.parts.length d)).ownsRow (w.heap.size + 2) 25 7 (.slice S p.parts.length d) p.parts.length (List.flatten rows) := by
          have hne : ∀ k, Value.ownBlock (.slice S p.parts.length d) ≠ some (⟨w.heap.size + 1, k, none⟩ : Addr).block := fun k e => by have : w.heap.size + 2 ≤ w.heap.size + 1 := (Hown.out.lt _ e).1; omega
          exact own_setFar (own_setFar (own_setFar (own_setFar (own_setFar (own_setFar (own_setFar Hown.out (hne 0) _) (hne 1) _) (hne 2) _) (hne 3) _) (hne 4) _) (hne 5) _) (hne 6) _
        have hbel9 : Below w.heap.size w (((((((wa.setCell ⟨w.heap.size + 1, 0, none⟩ (str p.type)).setCell ⟨w.heap.size + 1, 1, none⟩ (str p.cs)).setCell ⟨w.heap.size + 1, 2, none⟩ (str p.id)).setCell ⟨w.heap.size + 1, 3, none⟩ (str p.loc)).setCell ⟨w.heap.size + 1, 4, none⟩ (.int .i64 p.how)).setCell ⟨w.heap.size + 1, 5, none⟩ (.slice S1 p.body.length d1)).setCell ⟨w.heap.size + 1, 6, none⟩ (.slice S p.parts.length d)) :=
          ((((((hbel.setCell (Nat.le_succ _) _).setCell (Nat.le_succ _) _).setCell (Nat.le_succ _) _).setCell (Nat.le_succ _) _).setCell (Nat.le_succ _) _).setCell (Nat.le_succ _) _).setCell (Nat.le_succ _) _
        have hsz9 : (((((((wa.setCell ⟨w.heap.size + 1, 0, none⟩ (str p.type)).setCell ⟨w.heap.size + 1, 1, none⟩ (str p.cs)).setCell ⟨w.heap.size + 1, 2, none⟩ (str p.id)).setCell ⟨w.heap.size + 1, 3, none⟩ (str p.loc)).setCell ⟨w.heap.size + 1, 4, none⟩ (.int .i64 p.how)).setCell ⟨w.heap.size + 1, 5, none⟩ (.slice S1 p.body.length d1)).setCell ⟨w.heap.size + 1, 6, none⟩ (.slice S p.parts.length d)).heap.size = wa.heap.size := by simp
        generalize (((((((wa.setCell ⟨w.heap.size + 1, 0, none⟩ (str p.type)).setCell ⟨w.heap.size + 1, 1, none⟩ (str p.cs)).setCell ⟨w.heap.size + 1, 2, none⟩ (str p.id)).setCell ⟨w.heap.size + 1, 3, none⟩ (str p.loc)).setCell ⟨w.heap.size + 1, 4, none⟩ (.int .i64 p.how)).setCell ⟨w.heap.size + 1, 5, none⟩ (.slice S1 p.body.length d1)).setCell ⟨w.heap.size + 1, 6, none⟩ (.slice S p.parts.length d)) = w9 at hbx9 far9 hbel9 hsz9 hown9 ⊢
        obtain ⟨c0, c1, c2, c3, c4, c5, c6⟩ := hbx9
        refine bodyPost_ret (v := .agg #[str p.type, str p.cs, str p.id, str p.loc, .int .i64 p.how, .slice S1 p.body.length d1, .slice S p.parts.length d]) (by simp [results, Tryz.results35, go_sem, c0, c1, c2, c3, c4, c5, c6]) rfl ?_
        have inN : ∀ b, NewS (w.heap.size + 2) (Value.ownBlock (.slice S p.parts.length d)) wa b → NewS w.heap.size (Value.ownBlock (.slice S p.parts.length d)) w9 b := fun b hb => ⟨by have := hb.1; omega, by have := hb.2.1; omega, hb.2.2⟩
        have oldN : ∀ a : Addr, NewS (w.heap.size + 2) (Value.ownBlock (.slice S p.parts.length d)) wa a.block → w9.cell? a = wa.cell? a := fun a ha => far9 a (by have := ha.1; omega)
        obtain ⟨hd1, hd2⟩ := Hdd.out
        exact ⟨S1, d1, S, d, rows, rfl, own_base hown9 (by omega), PartsAt.change inN oldN _ _ Hpd.out, SlS.change Hs1.out inN oldN, hd1, hd2, hcapd, hcapm, Hbds.out, hbel9⟩
end Go.Proofs.YtlbdnohnngkapaaGreatDoor

namespace Go.Proofs.YtlbdnohnngkapaaGreatDoor
open Go.RowKit

/-! ### Plain laws of what package rewrite computes -/
theorem namesF_codes (parts : Int) : ∀ (r ahead : List NameD), namesF parts ahead r = 0 ∨ namesF parts ahead r = 5 ∨ namesF parts ahead r = 1 ∨ namesF parts ahead r = 6
  | [], _ => .inl rfl
  | n :: r, ahead => by
    rw [namesF]
    split
    · exact .inr (.inl rfl)
    · split
      · exact .inr (.inr (.inl rfl))
      · split
        · exact .inr (.inr (.inr rfl))
        · exact namesF_codes parts r _
theorem namesF_good (parts : Int) : ∀ (r ahead : List NameD), namesF parts ahead r = 0 → ∀ n ∈ r, nameB n.name = true
  | [], _, _ => by simp
  | m :: r, ahead, h => by
    rw [namesF] at h
    split at h
    · cases h
    · split at h
      · cases h
      · rename_i h1
        split at h
        · cases h
        · intro n hn
          rcases List.mem_cons.1 hn with rfl | hn
          · simpa using h1
          · exact namesF_good parts r _ h n hn
theorem ofN_none : ∀ (ns : List NameD) (k : Int), (∀ n ∈ ns, n.part ≠ k) → ofN ns k = []
  | [], k, _ => rfl
  | n :: r, k, h => by
    rw [ofN, if_neg (h n (by simp)), ofN_none r k (fun m hm => h m (by simp [hm]))]
/-- Where no goal has a name all bodies stay. -/
theorem body_same (p : PartD) (ns : List NameD) (G : List GoalD) (hg : goalsD p = some G) (h : ∀ g ∈ G, ofN ns g.find = []) (i : Nat) (x : PartD) (hx : (flatD p)[i]? = some x) : bodyN ns G x i = (x.body, 0) := by
  obtain ⟨s, _, h2, h3⟩ := goals_of p G hg i x hx
  unfold bodyN
  split
  · rfl
  · rename_i ht
    have hts : textsN ns G i = List.replicate (textsN ns G i).length [] := by
      refine List.eq_replicate_iff.2 ⟨rfl, fun t htm => ?_⟩
      unfold textsN at htm
      obtain ⟨g, hgm, rfl⟩ := List.mem_map.1 htm
      exact h g ((List.mem_filter.1 hgm).1)
    have htt : x.type = htmlB := by
      rcases Classical.em (x.type = htmlB) with h' | h'
      · exact h'
      · exfalso
        apply ht
        unfold textsN
        rw [h3, if_neg h']
        rfl
    rw [if_pos htt] at h3
    have hlen : (textsN ns G i).length = (findE x.body).1.length := by unfold textsN; rw [h3]; simp
    obtain ⟨e1, e2, _⟩ := putE_some (ts := textsN ns G i) (h2 htt)
    rw [hts, hlen]
    unfold putE
    rw [if_neg (show ¬ 4000 < x.body.length by omega)]
    exact put_none x.body _ e1 e2
theorem bodies_same (p : PartD) (ns : List NameD) (G : List GoalD) (hg : goalsD p = some G) (h : ∀ g ∈ G, ofN ns g.find = []) : bodiesF ns G (flatD p) 0 [] = ((flatD p).map (·.body), 0) := by
  have := bodiesF_same ns G (flatD p) 0 [] (fun m x hx => by rw [Nat.zero_add]; exact body_same p ns G hg h m x hx)
  simpa using this
theorem goalsE_ok {p : PartD} {G : List GoalD} (hc : checkD p = 0) (hg : goalsD p = some G) : goalsE p = (G, 0) := by unfold goalsE; rw [if_pos hc, hg]
theorem goalsE_zero {p : PartD} (hc : checkD p = 0) (h : (goalsE p).2 = 0) : goalsD p = some (goalsE p).1 := by
  unfold goalsE at h ⊢
  rw [if_pos hc] at h ⊢
  cases hg : goalsD p with
  | none => rw [hg] at h; simp at h
  | some G => rfl
theorem putD_all (p : PartD) : putD p ((flatD p).map (·.body)) = p := by have := putD_same p []; rwa [List.append_nil] at this
/-- Without names nothing is changed; names to which nothing leads change nothing. -/
theorem names_none (p : PartD) (ns : List NameD) (hc : checkD p = 0) (hg : (goalsE p).2 = 0) (h : ∀ g ∈ (goalsE p).1, ofN ns g.find = []) :
    namesE p ns = if namesF (flatD p).length [] ns = 0 then (p, 0) else (zeroP, namesF (flatD p).length [] ns) := by
  have hG := goalsE_zero hc hg
  have hb := bodies_same p ns _ hG h
  unfold namesE
  rw [if_neg (by simp [hc])]
  by_cases hn : namesF (flatD p).length [] ns = 0
  · rw [if_neg (by simp [hn]), if_neg (by simp [hg]), hb, if_neg (by simp), if_pos hn, putD_all]
  · rw [if_pos hn, if_neg hn]
/-- What names are put in by. -/
theorem namesE_parts {p : PartD} {ns : List NameD} (h : (namesE p ns).2 = 0) : checkD p = 0 ∧ namesF (flatD p).length [] ns = 0 ∧ (goalsE p).2 = 0 ∧ goalsD p = some (goalsE p).1 ∧
    ∃ bs, bodiesF ns (goalsE p).1 (flatD p) 0 [] = (bs, 0) ∧ (namesE p ns).1 = putD p bs ∧ bs.length = (flatD p).length := by
  unfold namesE at h ⊢
  split at h
  · rename_i h1; exact absurd h h1
  · rename_i h1
    rw [if_neg h1]
    split at h
    · rename_i h2; exact absurd h h2
    · rename_i h2
      rw [if_neg h2]
      split at h
      · rename_i h3; exact absurd h h3
      · rename_i h3
        rw [if_neg h3]
        split at h
        · rename_i h4; exact absurd h h4
        · rename_i h4
          rw [if_neg h4]
          have hc : checkD p = 0 := by simpa using h1
          have hg : (goalsE p).2 = 0 := by simpa using h3
          have hb : bodiesF ns (goalsE p).1 (flatD p) 0 [] = ((bodiesF ns (goalsE p).1 (flatD p) 0 []).1, 0) := Prod.ext rfl (by simpa using h4)
          have hl := bodiesF_len ns _ _ _ _ _ hb
          exact ⟨hc, by simpa using h2, hg, goalsE_zero hc hg, _, hb, rfl, by simpa using hl⟩
/-- A part with blanks for what is in it. -/
def keyD (x : PartD) : PartD := { x with parts := List.replicate x.parts.length zeroP }
def setK (x : PartD) (b : List UInt8) : PartD := keyD { x with body := b }
theorem putsD_len : ∀ (ps : List PartD) (bs : List (List UInt8)), (putsD ps bs).length = ps.length
  | [], _ => by rw [putsD]
  | p :: ps, bs => by rw [putsD, List.length_cons, putsD_len ps, List.length_cons]
mutual
theorem putD_key : ∀ (p : PartD) (bs : List (List UInt8)), (flatD p).length ≤ bs.length → (flatD (putD p bs)).map keyD = List.zipWith setK (flatD p) bs
  | ⟨t, cs, id, loc, how, body, parts⟩, bs, h => by
    rw [flatD, List.length_cons] at h
    cases bs with
    | nil => simp at h
    | cons b bs =>
      rw [putD, flatD, flatD, List.map_cons, List.zipWith_cons_cons, List.headD_cons, List.drop_one, List.tail_cons, putsD_key parts bs (by simpa using h)]
      congr 1
      simp only [keyD, setK, putsD_len]
theorem putsD_key : ∀ (ps : List PartD) (bs : List (List UInt8)), (flatsD ps).length ≤ bs.length → (flatsD (putsD ps bs)).map keyD = List.zipWith setK (flatsD ps) bs
  | [], bs, h => by rw [putsD, flatsD]; simp
  | p :: ps, bs, h => by
    rw [flatsD, List.length_append] at h
    rw [putsD, flatsD, flatsD, List.map_append, putD_key p bs (by omega), putsD_key ps _ (by rw [List.length_drop]; omega), zip_app _ _ _ _ (by omega)]
end
mutual
theorem cnt_put : ∀ (p : PartD) (k : Nat) (bs : List (List UInt8)), cntD k (putD p bs) = cntD k p
  | ⟨t, cs, id, loc, how, body, parts⟩, 0, bs => by rw [putD, cntD, cntD]
  | ⟨t, cs, id, loc, how, body, parts⟩, k + 1, bs => by rw [putD, cntD, cntD, cnts_put parts k 1 _]
theorem cnts_put : ∀ (ps : List PartD) (k n : Nat) (bs : List (List UInt8)), cntsD k n (putsD ps bs) = cntsD k n ps
  | [], k, n, bs => by rw [putsD]
  | p :: ps, k, n, bs => by
    rw [putsD, cntsD_cons, cntsD_cons, cnt_put p k bs]
    cases cntD k p with
    | none => rfl
    | some c =>
      simp only [cntNext]
      split
      · rfl
      · exact cnts_put ps k _ _
end
theorem firstErr_zero : ∀ (L : List PartD), (∀ q ∈ L, chkD q = 0) → firstErr L = 0
  | [], _ => rfl
  | q :: r, h => by rw [firstErr, if_pos (h q (by simp)), firstErr_zero r (fun x hx => h x (by simp [hx]))]
theorem chk_key (x : PartD) : chkD (keyD x) = chkD x := by unfold chkD keyD; simp
theorem chk_zero (x : PartD) (b : List UInt8) (h : chkD x = 0) (hb : b.length ≤ 4000) (hm : manyB x.type = true → b = x.body) : chkD { x with body := b } = 0 := by
  unfold chkD chkB at h ⊢
  simp only
  split at h
  · cases h
  · rename_i h1
    rw [if_neg h1]
    split at h
    · cases h
    · rename_i h2
      rw [if_neg h2]
      split at h
      · cases h
      · rename_i h3
        rw [if_neg (show ¬ decide (4000 < b.length) = true by simpa using hb)]
        split at h
        · cases h
        · rename_i h4
          cases hmm : manyB x.type with
          | false => rw [hmm] at h4; rw [if_neg (by simpa using h4)]
          | true => rw [hm hmm] ; rw [hmm] at h4; rw [if_neg h4]
theorem many_html : manyB htmlB = false := by decide +kernel
/-- What stands in each place behind Names. -/
theorem only_at {p : PartD} {ns : List NameD} (h : (namesE p ns).2 = 0) (i : Nat) (x : PartD) (hx : (flatD p)[i]? = some x) : ∃ y, (flatD (namesE p ns).1)[i]? = some y ∧
    keyD y = setK x y.body ∧ bodyN ns (goalsE p).1 x i = (y.body, 0) ∧ y.body.length ≤ 4000 ∧ (x.type ≠ htmlB → y.body = x.body) := by
  obtain ⟨hc, hn, hg, hG, bs, hb, hq, hl⟩ := namesE_parts h
  have hi : i < (flatD p).length := by
    rcases Nat.lt_or_ge i (flatD p).length with h' | h'
    · exact h'
    · rw [List.getElem?_eq_none h'] at hx; cases hx
  have hk := putD_key p bs (by omega)
  have hlen : (flatD (putD p bs)).length = (flatD p).length := by have := congrArg List.length hk; simpa [hl] using this
  have hbi : bs[i]? = some (bs.getD i []) := by rw [List.getD_eq_getElem?_getD, List.getElem?_eq_getElem (by omega)]; rfl
  have hy := List.getElem?_eq_getElem (l := flatD (putD p bs)) (i := i) (by omega)
  obtain ⟨y, hyy⟩ : ∃ y, y = (flatD (putD p bs))[i]'(by omega) := ⟨_, rfl⟩
  rw [← hyy] at hy
  have h1 := congrArg (·[i]?) hk
  simp only [List.getElem?_map, hy, Option.map_some, List.getElem?_zipWith, hx, hbi] at h1
  have h1 := Option.some.inj h1
  have hyb : y.body = bs.getD i [] := by have := congrArg PartD.body h1; simpa [keyD, setK] using this
  have hbn := bodiesF_at ns _ _ _ _ _ hb i x hx
  simp only [List.length_nil, Nat.zero_add] at hbn
  rw [← hyb] at hbn
  have hchk := (checkD_ok p hc).2 x (List.mem_of_getElem? hx)
  have h4 := chk_body x hchk
  obtain ⟨s, _, g2, g3⟩ := goals_of p _ hG i x hx
  rw [hq]
  refine ⟨y, hy, by rw [← hyb] at h1; exact h1, hbn, ?_, ?_⟩
  · unfold bodyN at hbn
    split at hbn
    · injection hbn with hbn _
      rw [← hbn]
      exact h4
    · have hbn2 := congrArg Prod.fst hbn
      have hbn3 := congrArg Prod.snd hbn
      simp only at hbn2 hbn3
      unfold putE at hbn2 hbn3
      rw [if_neg (by omega)] at hbn2 hbn3
      unfold putB at hbn2 hbn3
      cases hf : findB x.body with
      | none => rw [hf] at hbn3; simp at hbn3
      | some l =>
        rw [hf] at hbn2 hbn3
        simp only at hbn2 hbn3
        split at hbn3
        · simp at hbn3
        · rename_i e1
          rw [if_neg e1] at hbn2
          split at hbn3
          · simp at hbn3
          · rename_i e2
            rw [if_neg e2] at hbn2
            split at hbn3
            · simp at hbn3
            · rename_i e3
              rw [if_neg e3] at hbn2
              simp only at hbn2
              rw [← hbn2]
              omega
  · intro ht
    unfold bodyN at hbn
    rw [if_pos (by unfold textsN; rw [g3, if_neg ht]; rfl)] at hbn
    injection hbn with hbn _
    exact hbn.symm
theorem only_len {p : PartD} {ns : List NameD} (h : (namesE p ns).2 = 0) : (flatD (namesE p ns).1).length = (flatD p).length := by
  obtain ⟨hc, hn, hg, hG, bs, hb, hq, hl⟩ := namesE_parts h
  have hk := putD_key p bs (by omega)
  rw [hq]
  have := congrArg List.length hk
  simpa [hl] using this
theorem key_parts {y x : PartD} {b : List UInt8} (h : keyD y = setK x b) : y.type = x.type ∧ y.cs = x.cs ∧ y.id = x.id ∧ y.loc = x.loc ∧ y.how = x.how ∧ y.parts.length = x.parts.length := by
  have h0 := congrArg PartD.type h
  have h1 := congrArg PartD.cs h
  have h2 := congrArg PartD.id h
  have h3 := congrArg PartD.loc h
  have h4 := congrArg PartD.how h
  have h5 := congrArg (fun q : PartD => q.parts.length) h
  simp only [keyD, setK, List.length_replicate] at h0 h1 h2 h3 h4 h5
  exact ⟨h0, h1, h2, h3, h4, h5⟩
/-- The bundle behind Names is one. -/
theorem only_check {p : PartD} {ns : List NameD} (h : (namesE p ns).2 = 0) : checkD (namesE p ns).1 = 0 := by
  obtain ⟨hc, hn, hg, hG, bs, hb, hq, hl⟩ := namesE_parts h
  have hcc := hc
  have hcnt : cntD 3 (namesE p ns).1 = cntD 3 p := by rw [hq, cnt_put]
  cases hct : cntD 3 p with
  | none => rw [checkD_none p hct] at hc; cases hc
  | some c =>
    rw [checkD_some _ c (by rw [hcnt, hct])]
    refine firstErr_zero _ fun y hy => ?_
    obtain ⟨i, hi, hyi⟩ := List.getElem_of_mem hy
    have hi2 : i < (flatD p).length := by rw [← only_len h]; exact hi
    obtain ⟨y', h1, h2, h3, h4, h5⟩ := only_at h i _ (List.getElem?_eq_getElem hi2)
    rw [List.getElem?_eq_getElem hi, hyi] at h1
    have h1 := Option.some.inj h1
    subst h1
    have hx := (checkD_ok p hcc).2 _ (List.getElem_mem hi2)
    rw [← chk_key y, h2]
    unfold setK
    rw [chk_key]
    exact chk_zero _ _ hx h4 (fun hm => h5 (fun e => by rw [e, many_html] at hm; cases hm))
theorem same_setB {x y : PartD} (h : keyD y = setK x y.body) : sameD (bareD x) { bareD y with body := x.body } = true := by
  obtain ⟨h0, h1, h2, h3, h4, _⟩ := key_parts h
  have : { bareD y with body := x.body } = bareD x := by
    cases x; cases y
    simp only at h0 h1 h2 h3 h4
    subst h0 h1 h2 h3 h4
    rfl
  rw [this]
  exact sameD_refl _
theorem putsL_len (b c : List UInt8) : ∀ (ls ms : List LinkD) (ts : List (List UInt8)) (x y : Nat), ls.length = ms.length → ts.length = ls.length → putsL b c x y ls ms ts = true → ∀ (n : Nat) (l m : LinkD) (t : List UInt8), ls[n]? = some l → ms[n]? = some m → ts[n]? = some t → m.text = if t = [] then l.text else t
  | [], ms, ts, x, y, _, _, _, n, l, m, t, hl, _, _ => by simp at hl
  | a :: ls, [], ts, x, y, h, _, _, n, l, m, t, _, _, _ => by simp at h
  | a :: ls, b' :: ms, [], x, y, _, h, _, n, l, m, t, _, _, _ => by simp at h
  | a :: ls, b' :: ms, t' :: ts, x, y, h1, h2, h, n, l, m, t, hl, hm, ht => by
    simp only [putsL, Bool.and_eq_true] at h
    cases n with
    | zero =>
      simp at hl hm ht
      subst hl; subst hm; subst ht
      have := h.1.1.1
      simpa using this
    | succ n => exact putsL_len b c ls ms ts _ _ (by simpa using h1) (by simpa using h2) h.2 n l m t (by simpa using hl) (by simpa using hm) (by simpa using ht)
/-- What a page says behind Names. -/
theorem only_page {p : PartD} {ns : List NameD} (h : (namesE p ns).2 = 0) (i : Nat) (x : PartD) (hx : (flatD p)[i]? = some x) (ht : x.type = htmlB) (b : List UInt8) (hb : bodyN ns (goalsE p).1 x i = (b, 0)) :
    (findE b).2 = 0 ∧ (findE b).1.length = ((goalsE p).1.filter (fun g => g.part == i)).length ∧ putE x.body (textsN ns (goalsE p).1 i) = (b, 0) ∧
    ∀ (n : Nat) (g : GoalD) (m : LinkD), ((goalsE p).1.filter (fun g => g.part == i))[n]? = some g → (findE b).1[n]? = some m → m.text = if ofN ns g.find = [] then g.l.text else ofN ns g.find := by
  obtain ⟨hc, hn, hg, hG, bs, _, hq, hl⟩ := namesE_parts h
  obtain ⟨s, _, g2, g3⟩ := goals_of p _ hG i x hx
  have h4 := chk_body x ((checkD_ok p hc).2 x (List.mem_of_getElem? hx))
  rw [if_pos ht] at g3
  have g2 := g2 ht
  have hlen : (textsN ns (goalsE p).1 i).length = (findE x.body).1.length := by unfold textsN; rw [g3]; simp
  obtain ⟨e1, e2, _⟩ := putE_some (ts := textsN ns (goalsE p).1 i) g2
  have hput : putE x.body (textsN ns (goalsE p).1 i) = (b, 0) := by
    unfold bodyN at hb
    split at hb
    · rename_i h0
      have hz : (findE x.body).1.length = 0 := by rw [← hlen, h0]; rfl
      rw [h0]
      have := put_none x.body _ e1 e2
      rw [hz] at this
      unfold putE
      rw [if_neg (by omega)]
      rw [← hb]
      exact this
    · exact hb
  have hputB : putB x.body (textsN ns (goalsE p).1 i) = (b, 0) := by unfold putE at hput; rwa [if_neg (by omega)] at hput
  obtain ⟨m, m1, m2, m3⟩ := puts_law x.body _ (textsN ns (goalsE p).1 i) e1 (by rw [hputB])
  rw [hputB] at m1 m3
  simp only at m1 m3
  have hb4 : ¬ 4000 < b.length := by
    obtain ⟨y, y1, y2, y3, y4, _⟩ := only_at h i x hx
    rw [hb] at y3
    injection y3 with y3 _
    rw [y3]
    omega
  have hfe : findE b = (m, 0) := by unfold findE; rw [if_neg hb4, m1]; rfl
  rw [hfe]
  refine ⟨rfl, by rw [g3]; simpa using m2, hput, fun n g k hg1 hm1 => ?_⟩
  have hn1 : n < (findE x.body).1.length := by
    rcases Nat.lt_or_ge n m.length with h' | h'
    · omega
    · simp only at hm1; rw [List.getElem?_eq_none h'] at hm1; cases hm1
  have hgl : g.l = (findE x.body).1[n] := by
    rw [g3, List.getElem?_map, List.getElem?_eq_getElem hn1] at hg1
    have := Option.some.inj hg1
    rw [← this]
    rfl
  have ht1 : (textsN ns (goalsE p).1 i)[n]? = some (ofN ns g.find) := by unfold textsN; rw [List.getElem?_map, hg1]; rfl
  have := putsL_len _ _ _ _ _ _ _ m2.symm hlen m3 n _ k _ (List.getElem?_eq_getElem hn1) hm1 ht1
  rw [this, hgl]
end Go.Proofs.YtlbdnohnngkapaaGreatDoor

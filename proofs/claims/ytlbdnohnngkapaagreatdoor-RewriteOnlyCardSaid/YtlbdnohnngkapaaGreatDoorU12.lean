import Derived.Test.YtlbdnohnngkapaaGreatDoorU10
import Derived.Deep.Onto
import Derived.Test.YtlbdnohnngkapaaGreatDoorU7
import Derived.Test.YtlbdnohnngkapaaGreatDoorU11
import Derived.Test.YtlbdnohnngkapaaGreatDoorU6
namespace Go.Proofs.YtlbdnohnngkapaaGreatDoor
open Go.RowKit
attribute [local go_sem high] cut_u8 mid_u8

def putE (l : List UInt8) (ts : List (List UInt8)) : List UInt8 × Nat := if 4000 < l.length then ([], 2) else putB l ts
def PutOut (T : List UInt8 × Nat) (w : World) (e : Ending) (w' : World) : Prop :=
  ∃ S c, e = .returned (.tuple #[.slice S T.1.length c, .int .i64 (T.2 : Nat)]) ∧ w'.ownsRow w.heap.size 5 1 (.slice S T.1.length c) T.1.length (Lib.byteCells T.1) ∧ Below w.heap.size w w'
def sumL (ts : List (List UInt8)) : Nat := (ts.map List.length).sum
theorem putE_none {l : List UInt8} {ts : List (List UInt8)} (h : (findE l).2 ≠ 0) : putE l ts = ([], 2) ∧ (findE l).2 = 2 := by
  unfold findE at h ⊢
  unfold putE
  split
  · exact ⟨rfl, rfl⟩
  · rename_i h4
    rw [if_neg h4] at h
    cases hf : findB l with
    | none => unfold putB; rw [hf]; exact ⟨rfl, rfl⟩
    | some ls => rw [hf] at h; exact absurd rfl h
theorem putE_some {l : List UInt8} {ts : List (List UInt8)} (h : (findE l).2 = 0) : findB l = some (findE l).1 ∧ l.length ≤ 4000 ∧ putE l ts = if ts.length ≠ (findE l).1.length then ([], 4) else if ts.any (fun t => t.any fun c => badPut c.toNat) then ([], 1) else if 4000 < (putL l 0 [] (findE l).1 ts).length then ([], 2) else (putL l 0 [] (findE l).1 ts, 0) := by
  unfold findE at h ⊢
  unfold putE
  split
  · rename_i h4; rw [if_pos h4] at h; cases h
  · rename_i h4
    rw [if_neg h4] at h
    cases hf : findB l with
    | none => rw [hf] at h; cases h
    | some ls => exact ⟨rfl, by omega, by unfold putB; rw [hf]; rfl⟩
theorem findB_len {l : List UInt8} {ls : List LinkD} (h : findB l = some ls) : ls.length ≤ 60 := by
  rw [findB_eq] at h
  split at h
  · cases h
  · have h := Option.some.inj h
    rw [← h, links_len]
    omega
def PutRel (w w1 : World) (n m : Nat) (l : List UInt8) (ls : List LinkD) (ts : List (List UInt8)) (T : Nat) (R : List UInt8) (ov av iv : Value) (wr : World) : Prop :=
  ∃ (i at_ no co : Nat) (So : Option Addr) (out : List UInt8), ov = .slice So no co ∧ av = .int .i64 (at_ : Nat) ∧ iv = .int .i64 (i : Nat) ∧ i ≤ m ∧ no = out.length ∧ wr.ownsRow w1.heap.size 5 1 (.slice So no co) no (Lib.byteCells out) ∧
    Below w1.heap.size w1 wr ∧ LOk at_ n (ls.drop i) ∧ Hid (putL l at_ out (ls.drop i) (ts.drop i) = R) ∧ Hid ((ts.take i).any (fun t => t.any fun c => badPut c.toNat) = false) ∧ no + sumL (ts.drop i) ≤ at_ + T
set_option maxRecDepth 100000 in
set_option maxHeartbeats 1000000 in
theorem Put_any (A TA : Option Addr) (n c tn tc : Nat) (l : List UInt8) (ts : List (List UInt8)) (w : World) (hM : MaxLenOk w) (hb : By w w.heap.size A n l) (hc : n ≤ c) (hcm : c ≤ maxLen) (hts : Sl w w.heap.size 1 TA tn (ts.map str)) (hT : sumL ts ≤ 1000000000000) :
    Calls Tryz.prog 50 #[.slice A n c, .slice TA tn tc] w (PutOut (putE l ts) w) := by
  obtain ⟨i0, hi0, hz0, hz1, hz2⟩ := info_parts infoByte
  have Hi0 := Lib.hid hi0
  clear hi0
  have hnl := hb.len
  have htn : ts.length = tn := by have := hts.1; simpa using this
  have hfind := Find_any A n c l w hM hb hc hcm
  have he0 := fun h => (putE_none (l := l) (ts := ts) h)
  have he1 := fun h => (putE_some (l := l) (ts := ts) h)
  unfold FindOut at hfind
  generalize findE l = F at hfind he0 he1
  obtain ⟨ls, fe⟩ := F
  simp only at hfind he0 he1
  by_cases hfe : fe = 0
  · subst hfe
    obtain ⟨e1, e2, e3⟩ := he1 rfl
    have hok := LOk.find e1
    have hm60 := findB_len e1
    have Hfind := Lib.hid hfind
    clear he0 he1 hfind
    obtain ⟨m, hm⟩ : ∃ m, m = ls.length := ⟨_, rfl⟩
    rw [← hm] at e3 hm60
    have Hm := Lib.hid hm
    have Htn := Lib.hid htn
    rw [htn] at e3
    by_cases hlen : tn = m
    · have hne : ((tn : Int) != (m : Int)) = false := by simp; omega
      rw [if_neg (by omega)] at e3
      obtain ⟨R, hR⟩ : ∃ R, R = putL l 0 [] ls ts := ⟨_, rfl⟩
      obtain ⟨bad, hbad⟩ : ∃ bad, bad = ts.any (fun t => t.any fun c => badPut c.toNat) := ⟨_, rfl⟩
      rw [← hR, ← hbad] at e3
      have hn4 : n ≤ 4000 := by omega
      rw [hnl] at hok
      have Hnl := Lib.hid hnl
      have HR := Lib.hid hR
      have Hbad := Lib.hid hbad
      have Hlen := Lib.hid hlen
      have E3 := Lib.hid e3
      clear hR hbad hlen e1 e2 e3 hm htn hnl
      go_enter Tryz.func50, Tryz.ntmps50
      go_wp2_with fail
      refine Hfind.out.mono ?_
      rw [← Hm.out]
      rintro e w1 ⟨S, cS, rfl, hown1, hb1⟩
      have hsz1 := hb1.size
      have hbP := hb.below hb1
      have htP := hts.below hb1
      have hsl := Sl.of_own hown1
      have hcap := own_cap hown1
      clear hown1 Hfind hb hts
      go_wp2_with fail
      go_loopw [8, 9, 27] (PutRel w w1 n m l ls ts (sumL ts) R) (fun _ _ iv _ => m - (intOf iv).toNat)
      case atStart => exact ⟨0, 0, 0, 0, none, [], rfl, rfl, rfl, Nat.zero_le _, rfl, World.ownsRow_nil _ _ _ _, Below.refl _ _, hok, HR.out.symm, rfl, by simp⟩
      case round =>
        obtain ⟨i, at_, no, co, So, out, rfl, rfl, rfl, hi, hno, hrow, hbel, hok, hE, hz, hT2⟩ := hrel
        have hsz := hbel.size
        by_cases hin : i < m
        · obtain ⟨b, off, x, rfl, hbS, hdx, x0, x1, x2⟩ := (hsl.belowN hbel (Nat.le_refl _)).link i hin
          obtain ⟨tb, toff, u, rfl, htb, hu, htc⟩ := (htP.belowN hbel hsz1).at_ (k := i) (by have := Hlen.out; omega)
          have hil : i < ts.length := by have := Htn.out; have := Hlen.out; omega
          have hdt := List.drop_eq_getElem_cons hil
          obtain ⟨t, ht⟩ : ∃ t, t = ts[i] := ⟨_, rfl⟩
          rw [← ht] at hdt
          have hut : u = str t := by
            rw [List.getElem?_map, List.getElem?_eq_getElem hil, ← ht] at hu
            simpa using hu.symm
          subst hut
          rw [hdx] at hok
          obtain ⟨o1, o2, o3⟩ := hok
          have o4 := o3.le
          have o5 : x.frm ≤ n := Nat.le_trans o2 o4
          have hE' : Hid (putL l at_ out (x :: ls.drop (i + 1)) (t :: ts.drop (i + 1)) = R) := by show _ = _; rw [← hdx, ← hdt]; exact hE.out
          have hT3 : no + (t.length + sumL (ts.drop (i + 1))) ≤ at_ + sumL ts := by rw [hdt] at hT2; simpa [sumL] using hT2
          have hzt : Hid ((ts.take (i + 1)).any (fun t => t.any fun c => badPut c.toNat) = (t.any fun c => badPut c.toNat)) := by
            show _ = _
            rw [List.take_add_one, List.getElem?_eq_getElem hil, ← ht, List.any_append, hz.out]
            simp
          have Ht := Lib.hid ht
          have Hno := Lib.hid hno
          have Hdt := Lib.hid hdt
          clear hu ht hdt hdx hE hT2 hno
          have htn2 : i < tn := by have := Hlen.out; omega
          obtain ⟨W, hW⟩ : ∃ W, W = wr.alloc (.cells #[.int .i64 (x.frm : Nat), .int .i64 (x.til : Nat), str x.text] 53) := ⟨_, rfl⟩
          have htcW := (World.cell?_alloc_lt wr (.cells #[.int .i64 (x.frm : Nat), .int .i64 (x.til : Nat), str x.text] 53) ⟨tb, toff + i, none⟩ (by show tb < _; omega)).trans htc
          have hbW : Below wr.heap.size wr W := by rw [hW]; exact (Below.refl _ wr).alloc (Nat.le_refl _) _
          have hbelW := hbel.trans (hbW.mono hsz)
          have hrowW := own_below hrow hbW
          have hxb : W.heap[wr.heap.size]? = some (.cells #[.int .i64 (x.frm : Nat), .int .i64 (x.til : Nat), str x.text] 53) := by rw [hW]; exact heap_alloc_new wr _
          by_cases ht0 : t = []
          · have b0 : (t == ([] : List UInt8)) = true := by rw [ht0]; rfl
            have Ht0 := Lib.hid ht0
            clear ht0
            go_wp2_with fail
            rw [← hW]
            refine ⟨⟨i + 1, at_, no, co, So, out, rfl, rfl, by go_num, by omega, Hno.out, hrowW, hbelW, ?_, ?_, ?_, by omega⟩, by simp [intOf]; omega⟩
            · cases hlsd : ls.drop (i + 1) with
              | nil => rw [hlsd] at o3; exact Nat.le_trans o1 (Nat.le_trans o2 o3)
              | cons y l' => rw [hlsd] at o3; exact ⟨by have := o3.1; omega, o3.2.1, o3.2.2⟩
            · show _ = R
              rw [← hE'.out, putL, if_pos Ht0.out]
            · show _ = _
              rw [hzt.out, Ht0.out]; rfl
          · have b0 : (t == ([] : List UInt8)) = false := by simpa using ht0
            have Ht0 := Lib.hid ht0
            have hcp := containsPut_any t W
            clear ht0
            by_cases hbt : (t.any fun c => badPut c.toNat) = true
            · rw [hbt] at hcp
              have Hcp := Lib.hid hcp
              have hbb : bad = true := by
                rw [Hbad.out, List.any_eq_true]
                exact ⟨t, by rw [Ht.out]; exact List.getElem_mem hil, hbt⟩
              have Hbb := Lib.hid hbb
              clear hcp hbt hbb
              go_wp2_with fail
              rw [← hW]
              refine Hcp.out.mono ?_
              rintro e w3 ⟨rfl, hb3⟩
              go_wp2_with fail
              go_ret2
              rw [E3.out, Hbb.out]
              exact ⟨none, 0, rfl, World.ownsRow_nil _ _ _ _, hb1.trans ((hbelW.trans (hb3.mono hbelW.size)).mono hsz1)⟩
            · have hbf : (t.any fun c => badPut c.toNat) = false := by simpa using hbt
              rw [hbf] at hcp hzt
              have Hcp := Lib.hid hcp
              clear hcp hbt hbf
              go_wp2_with fail
              rw [← hW]
              refine Hcp.out.mono ?_
              rintro e w3 ⟨rfl, hb3⟩
              have hbel3 := hbelW.trans (hb3.mono hbelW.size)
              have hrow3 := own_below hrowW hb3
              have hxb3 := (hb3.block wr.heap.size (by rw [hW]; simp)).trans hxb
              have z0 : w3.cell? ⟨wr.heap.size, 0, none⟩ = some (.int .i64 (x.frm : Nat)) := by rw [Go.Joins.cell_of_block hxb3]; rfl
              have z1 : w3.cell? ⟨wr.heap.size, 1, none⟩ = some (.int .i64 (x.til : Nat)) := by rw [Go.Joins.cell_of_block hxb3]; rfl
              obtain ⟨xb, hxbE⟩ : ∃ xb, xb = wr.heap.size := ⟨_, rfl⟩
              have hxlt : xb < w3.heap.size := by rw [hxbE]; exact Nat.lt_of_lt_of_le (by rw [hW]; simp) hb3.size
              rw [← hxbE] at z0 z1 ⊢
              have HxbE := Lib.hid hxbE
              clear hxbE
              have htW : W.cell? ⟨tb, toff + i, none⟩ = some (str t) := by rw [hW]; exact htcW
              have htc3 := (hb3.cell (p := ⟨tb, toff + i, none⟩) (by show tb < _; rw [hW]; simp; omega)).trans htW
              clear htW htcW htc x0 x1 x2
              have hbP3 : By w3 w.heap.size A n l := hbP.belowN hbel3 hsz1
              have hmid : By w3 w.heap.size (cutA A c at_ 1) (x.frm - at_) ((l.take x.frm).drop at_) := by
                have h1 := (hbP3.cut (k := at_) (by omega) hc).upto (k := x.frm - at_) (by omega)
                rw [← List.drop_take] at h1
                exact h1
              have hmn : no ≤ at_ + sumL ts := by omega
              have h63 : no + (x.frm - at_) ≤ maxLen := by unfold maxLen; omega
              have h47 : (no + (x.frm - at_)) * 1 ≤ 140737488355328 := by omega
              have hbase3 : w1.heap.size ≤ w3.heap.size := hbel3.size
              have hS3 : w3.drew.cell? ⟨xb, 0, none⟩ = some (.int .i64 (x.frm : Nat)) ∧ w3.drew.cell? ⟨tb, toff + i, none⟩ = some (str t) := ⟨z0, htc3⟩
              have hone := oneCell_byteCells ((l.take x.frm).drop at_)
              have hxo : (Value.slice So no co).ownBlock ≠ some xb := by
                intro e
                have := (hrow.lt _ e)
                have := HxbE.out
                omega
              go_wp2_with fail
              refine wp_region_held (S := fun W' => W'.cell? ⟨xb, 0, none⟩ = some (.int .i64 (x.frm : Nat)) ∧ W'.cell? ⟨tb, toff + i, none⟩ = some (str t)) (by kernel_rfl) ?_
              change wpAnyH _ _ _ _ _ _ _ _ (World.drew w3)
              refine wpAnyH_take (i := 0) (v := ?_) rfl (by kernel_rfl) (by kernel_rfl) (by kernel_rfl) (fun _ _ _ h => h) (Or.inl ⟨by kernel_rfl, ?_⟩) hS3 ?_
              rotate_left 1
              · rintro W' ⟨q0, q1⟩; go_simp; try exact rfl
              refine wpAnyH_take (i := 1) (v := ?_) rfl (by kernel_rfl) (by kernel_rfl) (by kernel_rfl) (fun _ _ _ h => h) (Or.inl ⟨by kernel_rfl, ?_⟩) hS3 ?_
              rotate_left 1
              · rintro W' ⟨q0, q1⟩; go_simp; try exact rfl
              refine wpAnyH_take (i := 2) (v := ?_) rfl (by kernel_rfl) (by kernel_rfl) (by kernel_rfl) (fun _ _ _ h => h) (Or.inl ⟨by kernel_rfl, ?_⟩) hS3 ?_
              rotate_left 1
              · rintro W' ⟨q0, q1⟩; go_simp; try exact rfl
              refine wpAnyH_take (i := 3) (v := ?_) rfl (by kernel_rfl) (by kernel_rfl) (by kernel_rfl) (fun _ _ _ h => h) (Or.inl ⟨by kernel_rfl, ?_⟩) hS3 ?_
              rotate_left 1
              · rintro W' ⟨q0, q1⟩; go_simp; try exact rfl
              refine wpAnyH_take (i := 4) (v := ?_) rfl (by kernel_rfl) (by kernel_rfl) (by kernel_rfl) (fun _ _ _ h => h) (Or.inl ⟨by kernel_rfl, ?_⟩) hS3 ?_
              rotate_left 1
              · rintro W' ⟨q0, q1⟩; go_simp; try exact rfl
              refine wpAnyH_take (i := 5) (v := ?_) rfl (by kernel_rfl) (by kernel_rfl) (by kernel_rfl) (fun _ _ _ h => h) (Or.inl ⟨by kernel_rfl, ?_⟩) hS3 ?_
              rotate_left 1
              · rintro W' ⟨q0, q1⟩; go_simp; try exact rfl
              refine wpAnyH_take (i := 7) (v := ?_) rfl (by kernel_rfl) (by kernel_rfl) (by kernel_rfl) (fun _ _ _ h => h) (Or.inl ⟨by kernel_rfl, ?_⟩) hS3 ?_
              rotate_left 1
              · rintro W' ⟨q0, q1⟩; go_simp; try exact rfl
              refine wpAnyH_take (i := 8) (v := ?_) rfl (by kernel_rfl) (by kernel_rfl) (by kernel_rfl) (fun _ _ _ h => h) (Or.inl ⟨by kernel_rfl, ?_⟩) hS3 ?_
              rotate_left 1
              · rintro W' ⟨q0, q1⟩; go_simp; try exact rfl
              refine wpAnyH_take (i := 9) (v := ?_) rfl (by kernel_rfl) (by kernel_rfl) (by kernel_rfl) (fun _ _ _ h => h) (Or.inl ⟨by kernel_rfl, ?_⟩) hS3 ?_
              rotate_left 1
              · rintro W' ⟨q0, q1⟩; go_simp; try exact rfl
              refine wpAnyH_take (i := 10) (v := ?_) rfl (by kernel_rfl) (by kernel_rfl) (by kernel_rfl) (fun _ _ _ h => h) (Or.inl ⟨by kernel_rfl, ?_⟩) hS3 ?_
              rotate_left 1
              · rintro W' ⟨q0, q1⟩; go_simp; try exact rfl
              refine wpAnyH_all (rs := [6]) (by kernel_rfl) (by simp) ?_
              intro k hk
              simp only [List.mem_singleton] at hk
              subst hk
              go_simp
              refine wpOp_app rfl rfl _ _ 22 rfl w1.heap.size 5 i0 _ 1 1 Tryz.underlying22 Hi0.out hz0 hz1 hz2 rfl (by decide) So no co (Lib.byteCells out) (by rfl) hrow3 _ (cutA A c at_ 1) (x.frm - at_) (c - at_) (Lib.byteCells ((l.take x.frm).drop at_)) (by rfl) hmid hone h63 h47 hbase3 ?_
              intro S4 c4 w4 hown4 hb4 hg4
              have hS4 : w4.cell? ⟨xb, 0, none⟩ = some (.int .i64 (x.frm : Nat)) ∧ w4.cell? ⟨tb, toff + i, none⟩ = some (str t) :=
                ⟨(World.cell?_of_block (hg4.block xb hxlt (fun e => hxo e.symm))).trans z0, (hb4.cell (p := ⟨tb, toff + i, none⟩) (by show tb < _; omega)).trans htc3⟩
              have z14 : w4.cell? ⟨xb, 1, none⟩ = some (.int .i64 (x.til : Nat)) := (World.cell?_of_block (hg4.block xb hxlt (fun e => hxo e.symm))).trans z1
              refine ⟨hS4, ?_⟩
              have hxo4 : (Value.slice S4 (no + (x.frm - at_)) c4).ownBlock ≠ some xb := by
                intro e
                rcases hown4.2 with ⟨hv, _⟩ | ⟨g, cap, cur, hv, _, hg, _⟩
                · rw [hv] at e; cases e
                · rw [hv] at e
                  injection e with e
                  simp only at e
                  subst e
                  have h5 : w4.heap[g]? = w3.heap[g]? := hg4.block g hxlt (fun e => hxo e.symm)
                  have h6 : w3.heap[g]? = some (.cells #[.int .i64 (x.frm : Nat), .int .i64 (x.til : Nat), str x.text] 53) := by rw [HxbE.out]; exact hxb3
                  rw [h5, h6] at hg
                  injection hg with hg
                  injection hg with _ hg _
                  exact absurd hg (by decide)
              have h63b : no + (x.frm - at_) + t.length ≤ maxLen := by unfold maxLen; omega
              have h47b : no + (x.frm - at_) + t.length ≤ 140737488355328 := by omega
              refine wpAnyH_all (rs := [11]) (by kernel_rfl) (by simp) ?_
              intro k hk
              simp only [List.mem_singleton] at hk
              subst hk
              go_simp
              refine wpOp_appStr rfl rfl _ _ 22 9 rfl w1.heap.size 5 i0 Tryz.underlying22 Tryz.underlying9 Hi0.out hz0 hz1 hz2 S4 (no + (x.frm - at_)) c4 _ (by rfl) hown4 t (by rfl) h63b h47b (Nat.le_trans hbase3 hb4.size) ?_
              intro S5 c5 w5 hown5 hb5 hg5
              have hS5 : w5.cell? ⟨xb, 0, none⟩ = some (.int .i64 (x.frm : Nat)) ∧ w5.cell? ⟨tb, toff + i, none⟩ = some (str t) :=
                ⟨(World.cell?_of_block (hg5.block xb (Nat.lt_of_lt_of_le hxlt hg4.size) (fun e => hxo4 e.symm))).trans hS4.1, (hb5.cell (p := ⟨tb, toff + i, none⟩) (by show tb < _; omega)).trans hS4.2⟩
              have z15 : w5.cell? ⟨xb, 1, none⟩ = some (.int .i64 (x.til : Nat)) := (World.cell?_of_block (hg5.block xb (Nat.lt_of_lt_of_le hxlt hg4.size) (fun e => hxo4 e.symm))).trans z14
              refine ⟨hS5, ?_⟩
              refine wpAnyH_all (rs := [12]) (by kernel_rfl) (by simp) ?_
              intro k hk
              simp only [List.mem_singleton] at hk
              subst hk
              go_simp
              refine wpOp_val rfl rfl (.slice S5 (no + (x.frm - at_) + t.length) c5) (by rfl) ?_
              refine ⟨hS5, ?_⟩
              refine wpAnyH_done (by kernel_rfl) ?_ _
              have hbel5 : Below w1.heap.size w1 w5 := (hbel3.trans ((Below.drew (Below.refl _ w3)).trans hb4)).trans hb5
              rw [← byteCells_append, ← byteCells_append] at hown5
              have Hown5 := Lib.hid hown5
              clear hown5 hown4 hg4 hg5 hb4 hb5 hS4 hS5 z14 z0 z1 htc3 hS3 hmid
              go_wp2_with fail
              refine ⟨⟨i + 1, x.til, no + (x.frm - at_) + t.length, c5, S5, out ++ (l.take x.frm).drop at_ ++ t, rfl, rfl, by go_num, by omega, ?_, Hown5.out, hbel5, o3, ?_, hzt, by omega⟩, by simp [intOf]; omega⟩
              · have hlx : ((l.take x.frm).drop at_).length = x.frm - at_ := by
                  rw [List.length_drop, List.length_take, Nat.min_eq_left (by have := Hnl.out; omega)]
                rw [List.length_append, List.length_append, hlx, Hno.out]
              · show _ = R
                rw [← hE'.out, putL, if_neg Ht0.out]
        · obtain rfl : i = m := by omega
          have hE2 : out ++ l.drop at_ = R := by
            have h := hE.out
            rw [List.drop_of_length_le (by have := Hm.out; omega), List.drop_of_length_le (by have := Htn.out; have := Hlen.out; omega)] at h
            rw [← h]
            rfl
          have hb0 : bad = false := by
            rw [Hbad.out]
            have h := hz.out
            rw [List.take_of_length_le (by have := Htn.out; have := Hlen.out; omega)] at h
            exact h
          have hat : at_ ≤ n := hok.le
          have hbPr := hbP.belowN hbel hsz1
          have hcutr : By wr w.heap.size (cutA A c at_ 1) (n - at_) (l.drop at_) := hbPr.cut hat hc
          have hoR : no + (n - at_) = R.length := by rw [← hE2, List.length_append, List.length_drop, ← hno]; have := Hnl.out; omega
          have hmn : no ≤ at_ + sumL ts := by omega
          have h63 : no + (n - at_) ≤ maxLen := by unfold maxLen; omega
          have h47 : (no + (n - at_)) * 1 ≤ 140737488355328 := by omega
          have hone := oneCell_byteCells (l.drop at_)
          have HoR := Lib.hid hoR
          have HE2 := Lib.hid hE2
          have Hb0 := Lib.hid hb0
          clear hE2 hb0 hoR hno
          go_wp2_with (at_builtin; refine wpList_app rfl _ _ 22 rfl w1.heap.size 5 i0 _ 1 1 Tryz.underlying22 Hi0.out hz0 hz1 hz2 rfl (by decide) So no co (Lib.byteCells out) rfl hrow _ (cutA A c at_ 1) (n - at_) (c - at_) (Lib.byteCells (l.drop at_)) rfl hcutr hone h63 h47 hsz ?_)
          intro S5 c5 w5 hown5 hb5 hg5
          rw [← byteCells_append, HE2.out] at hown5
          have hbel5 : Below w.heap.size w w5 := hb1.trans ((hbel.trans hb5).mono hsz1)
          have Hown5 := Lib.hid hown5
          clear hown5 hg5 hb5
          by_cases h4 : 4000 < no + (n - at_)
          · go_wp2_with fail
            go_ret2
            rw [E3.out, Hb0.out, if_neg (by simp), if_pos (by rw [← HoR.out]; exact h4)]
            exact ⟨none, 0, rfl, World.ownsRow_nil _ _ _ _, hbel5⟩
          · go_wp2_with fail
            go_ret2
            rw [E3.out, Hb0.out, if_neg (by simp), if_neg (by rw [← HoR.out]; exact h4)]
            have h := Hown5.out.mono (base' := w.heap.size) hsz1
            rw [HoR.out] at h
            exact ⟨S5, c5, by rw [← HoR.out]; rfl, h, hbel5⟩
    · have hne : ((tn : Int) != (m : Int)) = true := by simp; omega
      have hR : putE l ts = ([], 4) := by rw [e3, if_pos hlen]
      rw [hR]
      clear hR e3 e1 hlen hm htn
      go_enter Tryz.func50, Tryz.ntmps50
      go_wp2_with fail
      refine Hfind.out.mono ?_
      rw [← Hm.out]
      rintro e w1 ⟨S, cS, rfl, hown1, hb1⟩
      go_wp2_with fail
      go_ret2
      exact ⟨none, 0, rfl, World.ownsRow_nil _ _ _ _, hb1⟩
  · obtain ⟨hR, rfl⟩ := he0 hfe
    rw [hR]
    have Hfind := Lib.hid hfind
    clear hR he0 he1 hfe hfind hnl htn
    go_enter Tryz.func50, Tryz.ntmps50
    go_wp2_with fail
    refine Hfind.out.mono ?_
    rintro e w1 ⟨S, cS, rfl, hown1, hb1⟩
    go_wp2_with fail
    go_ret2
    exact ⟨none, 0, rfl, World.ownsRow_nil _ _ _ _, hb1⟩
end Go.Proofs.YtlbdnohnngkapaaGreatDoor

namespace Go.Proofs.YtlbdnohnngkapaaGreatDoor

/-! ### Two lists of parts, held against one another -/
def all2 (f : PartD → PartD → Bool) : List PartD → List PartD → Bool
  | [], [] => true
  | p :: ps, q :: qs => f p q && all2 f ps qs
  | [], _ :: _ => false
  | _ :: _, [] => false
theorem all2_len (f : PartD → PartD → Bool) : ∀ (ps qs : List PartD), ps.length ≠ qs.length → all2 f ps qs = false
  | [], [], h => absurd rfl h
  | [], _ :: _, _ => rfl
  | _ :: _, [], _ => rfl
  | p :: ps, q :: qs, h => by
    rw [all2, all2_len f ps qs (by simpa using h)]; simp
theorem all2_miss (f : PartD → PartD → Bool) : ∀ (ps qs : List PartD) (i : Nat) (p q : PartD), ps[i]? = some p → qs[i]? = some q → f p q = false → all2 f ps qs = false
  | [], _, i, p, q, h, _, _ => by simp at h
  | _ :: _, [], i, p, q, _, h, _ => by simp at h
  | a :: ps, b :: qs, 0, p, q, h1, h2, h3 => by
    simp at h1 h2
    rw [all2, h1, h2, h3]; rfl
  | a :: ps, b :: qs, i + 1, p, q, h1, h2, h3 => by
    rw [all2, all2_miss f ps qs i p q (by simpa using h1) (by simpa using h2) h3]; simp
theorem all2_hit (f : PartD → PartD → Bool) : ∀ (ps qs : List PartD), ps.length = qs.length → (∀ (i : Nat) (p q : PartD), ps[i]? = some p → qs[i]? = some q → f p q = true) → all2 f ps qs = true
  | [], [], _, _ => rfl
  | [], _ :: _, h, _ => by simp at h
  | _ :: _, [], h, _ => by simp at h
  | a :: ps, b :: qs, h, h2 => by
    rw [all2, h2 0 a b rfl rfl, all2_hit f ps qs (by simpa using h) (fun i p q h3 h4 => h2 (i + 1) p q (by simpa using h3) (by simpa using h4))]; rfl
theorem all2_congr (f g : PartD → PartD → Bool) : ∀ (ps qs : List PartD), (∀ p ∈ ps, ∀ q ∈ qs, f p q = g p q) → all2 f ps qs = all2 g ps qs
  | [], [], _ => rfl
  | [], _ :: _, _ => rfl
  | _ :: _, [], _ => rfl
  | a :: ps, b :: qs, h => by
    rw [all2, all2, h a (by simp) b (by simp), all2_congr f g ps qs (fun p hp q hq => h p (by simp [hp]) q (by simp [hq]))]
/-- part.Same, all tests by themselves. -/
def oneSame (p q : PartD) : Bool := p.type == q.type && (p.cs == q.cs && (p.id == q.id && (p.loc == q.loc && (p.how == q.how && p.body == q.body))))
mutual
def sameD : PartD → PartD → Bool
  | ⟨t, cs, id, loc, how, body, parts⟩, ⟨t', cs', id', loc', how', body', parts'⟩ => (t == t' && (cs == cs' && (id == id' && (loc == loc' && (how == how' && body == body'))))) && samesD parts parts'
def samesD : List PartD → List PartD → Bool
  | [], [] => true
  | p :: ps, q :: qs => sameD p q && samesD ps qs
  | [], _ :: _ => false
  | _ :: _, [] => false
end
theorem samesD_eq : ∀ (ps qs : List PartD), samesD ps qs = all2 sameD ps qs
  | [], [] => by rw [samesD, all2]
  | [], _ :: _ => by rw [samesD, all2]
  | _ :: _, [] => by rw [samesD, all2]
  | p :: ps, q :: qs => by rw [samesD, all2, samesD_eq ps qs]
theorem sameD_eq (p q : PartD) : sameD p q = (oneSame p q && all2 sameD p.parts q.parts) := by
  cases p; cases q; rw [sameD, samesD_eq]; rfl
mutual
theorem sameD_refl : ∀ (p : PartD), sameD p p = true
  | ⟨t, cs, id, loc, how, body, parts⟩ => by rw [sameD, samesD_refl parts]; simp
theorem samesD_refl : ∀ (ps : List PartD), samesD ps ps = true
  | [] => by rw [samesD]
  | p :: ps => by rw [samesD, sameD_refl p, samesD_refl ps]; rfl
end
theorem all2_refl (ps : List PartD) : all2 sameD ps ps = true := by rw [← samesD_eq]; exact samesD_refl ps

/-! ### A part put into another one -/
theorem firstErr_of : ∀ (L : List PartD), (∀ q ∈ L, chkD q = 0) → firstErr L = 0
  | [], _ => rfl
  | x :: L, h => by
    unfold firstErr
    rw [if_pos (h x (by simp))]
    exact firstErr_of L fun q hq => h q (by simp [hq])
theorem cntsD_mono (k : Nat) (ih : ∀ p c, cntD k p = some c → cntD (k + 1) p = some c) : ∀ (ps : List PartD) (n c : Nat), cntsD k n ps = some c → cntsD (k + 1) n ps = some c := by
  intro ps
  induction ps with
  | nil => intro n c h; rw [cntsD] at h ⊢; exact h
  | cons p ps ih2 =>
    intro n c h
    rw [cntsD_cons] at h ⊢
    cases hc : cntD k p with
    | none => rw [hc] at h; cases h
    | some d =>
      rw [hc] at h
      rw [ih p d hc]
      simp only [cntNext] at h ⊢
      split at h
      · cases h
      · rename_i h0
        rw [if_neg h0]
        exact ih2 _ _ h
theorem cntD_mono : ∀ (k : Nat) (p : PartD) (c : Nat), cntD k p = some c → cntD (k + 1) p = some c := by
  intro k
  induction k with
  | zero => intro p c h; obtain ⟨t, cs, id, loc, how, body, parts⟩ := p; rw [cntD] at h; cases h
  | succ k ih =>
    intro p c h
    obtain ⟨t, cs, id, loc, how, body, parts⟩ := p
    rw [cntD] at h ⊢
    exact cntsD_mono k ih parts 1 c h
def wrapD (p q : PartD) : PartD := { type := [109, 117, 108, 116, 105, 112, 97, 114, 116, 47, 109, 105, 120, 101, 100], cs := [], id := [], loc := [], how := 0, body := [], parts := [p, q] }
theorem flat_wrap (p q : PartD) : flatD (wrapD p q) = wrapD p q :: (flatD p ++ flatD q) := by
  rw [flatD_eq]; simp only [wrapD, flatsD, List.append_nil]
theorem check_parts (p q : PartD) (h : checkD (wrapD p q) = 0) : checkD p = 0 ∧ checkD q = 0 := by
  cases hc : cntD 3 (wrapD p q) with
  | none => rw [checkD_none _ hc] at h; cases h
  | some c =>
    rw [checkD_some _ c hc, flat_wrap] at h
    have hall : ∀ (L : List PartD), firstErr L = 0 → ∀ q ∈ L, chkD q = 0 := by
      intro L
      induction L with
      | nil => simp
      | cons x L ih =>
        intro h q hq
        unfold firstErr at h
        split at h
        · rename_i h0
          rcases List.mem_cons.1 hq with rfl | hq
          · exact h0
          · exact ih h q hq
        · rename_i h0; exact absurd h h0
    have hL := hall _ h
    have hp1 := firstErr_of (flatD p) fun x hx => hL x (by simp [hx])
    have hq1 := firstErr_of (flatD q) fun x hx => hL x (by simp [hx])
    rw [wrapD, cntD, cntsD_cons] at hc
    cases h1 : cntD 2 p with
    | none => rw [h1] at hc; cases hc
    | some a =>
      rw [h1] at hc
      simp only [cntNext] at hc
      split at hc
      · cases hc
      · rw [cntsD_cons] at hc
        cases h2 : cntD 2 q with
        | none => rw [h2] at hc; cases hc
        | some b =>
          exact ⟨by rw [checkD_some p a (cntD_mono 2 p a h1)]; exact hp1, by rw [checkD_some q b (cntD_mono 2 q b h2)]; exact hq1⟩
mutual
theorem wths_shift (d : Nat) : ∀ (ps : List PartD) (n me : Nat), wthsD ps (n + d) (me + d) = (wthsD ps n me).map (fun x => x + (d : Int))
  | [], _, _ => by rw [wthsD, wthsD]; rfl
  | p :: ps, n, me => by
    rw [wthsD, wthsD, List.map_append, ← wths_shift d ps, wth_shift d p n me (me : Int), show n + d + (flatD p).length = n + (flatD p).length + d from by omega, wthD_eq p n (me : Int)]
    simp
theorem wth_shift (d : Nat) : ∀ (p : PartD) (n me : Nat) (inn : Int), wthD p (n + d) ((me + d : Nat) : Int) = ((me : Int) + d) :: ((wthD p n inn).drop 1).map (fun x => x + (d : Int))
  | ⟨t, cs, id, loc, how, body, parts⟩, n, me, inn => by
    rw [wthD, wthD, show n + d + 1 = n + 1 + d from by omega, wths_shift d parts]
    simp
end
end Go.Proofs.YtlbdnohnngkapaaGreatDoor

namespace Go.Proofs.YtlbdnohnngkapaaGreatDoor
open Go.RowKit

/-! ### What package rewrite computes -/
structure NameD where
  part : Int
  name : List UInt8
def nameCells (x : NameD) : List Value := [.int .i64 x.part, str x.name]
def badN (x : Nat) : Bool := (decide (x < 97) || decide (122 < x)) && ((decide (x < 48) || decide (57 < x)) && x != 46)
def nameB (s : List UInt8) : Bool := !(s == []) && (decide (s.length ≤ 30) && (decide (97 ≤ nth s 0) && (decide (nth s 0 ≤ 122) && !s.any (fun b => badN b.toNat))))
def clashN (n : NameD) (ahead : List NameD) : Bool := ahead.any (fun m => m.name == n.name || decide (n.part ≤ m.part))
def namesF (parts : Int) : List NameD → List NameD → Nat
  | _, [] => 0
  | ahead, n :: r => if n.part < 0 ∨ parts ≤ n.part then 5 else if nameB n.name = false then 1 else if clashN n ahead then 6 else namesF parts (ahead ++ [n]) r
def ofN : List NameD → Int → List UInt8
  | [], _ => []
  | n :: r, k => if n.part = k then n.name else ofN r k
def textsN (ns : List NameD) (gs : List GoalD) (i : Nat) : List (List UInt8) := (gs.filter (fun g => g.part == i)).map (fun g => ofN ns g.find)
def bodyN (ns : List NameD) (gs : List GoalD) (x : PartD) (i : Nat) : List UInt8 × Nat := if textsN ns gs i = [] then (x.body, 0) else putE x.body (textsN ns gs i)
def bodiesF (ns : List NameD) (gs : List GoalD) : List PartD → Nat → List (List UInt8) → List (List UInt8) × Nat
  | [], _, out => (out, 0)
  | x :: xs, i, out => if (bodyN ns gs x i).2 = 0 then bodiesF ns gs xs (i + 1) (out ++ [(bodyN ns gs x i).1]) else ([], (bodyN ns gs x i).2)
mutual
def putD : PartD → List (List UInt8) → PartD
  | ⟨t, cs, id, loc, how, _, parts⟩, bs => ⟨t, cs, id, loc, how, bs.headD [], putsD parts (bs.drop 1)⟩
def putsD : List PartD → List (List UInt8) → List PartD
  | [], _ => []
  | p :: ps, bs => putD p bs :: putsD ps (bs.drop (flatD p).length)
end
def zeroP : PartD := ⟨[], [], [], [], 0, [], []⟩
def namesE (p : PartD) (ns : List NameD) : PartD × Nat :=
  if checkD p ≠ 0 then (zeroP, checkD p) else if namesF (flatD p).length [] ns ≠ 0 then (zeroP, namesF (flatD p).length [] ns) else if (goalsE p).2 ≠ 0 then (zeroP, (goalsE p).2)
  else if (bodiesF ns (goalsE p).1 (flatD p) 0 []).2 ≠ 0 then (zeroP, (bodiesF ns (goalsE p).1 (flatD p) 0 []).2) else (putD p (bodiesF ns (goalsE p).1 (flatD p) 0 []).1, 0)

/-! ### Goals, page by page -/
theorem goalsF_old (F0 : List PartD) (W0 : List (List UInt8)) : ∀ (F : List PartD) (W : List (List UInt8)) (i : Nat) (out G : List GoalD), goalsF F0 W0 F W i out = some G → ∀ m, m < i → G.filter (fun g => g.part == m) = out.filter (fun g => g.part == m)
  | [], _, i, out, G, h, m, hm => by
    rw [goalsF] at h
    injection h with h
    rw [h]
  | _ :: _, [], i, out, G, h, m, hm => by
    rw [goalsF] at h
    injection h with h
    rw [h]
  | x :: xs, s :: ss, i, out, G, h, m, hm => by
    rw [goalsF] at h
    split at h
    · split at h
      · rw [goalsF_old F0 W0 xs ss (i + 1) _ G h m (by omega), List.filter_append]
        have : ((findE x.body).1.map (goalOf F0 W0 i (fromG s))).filter (fun g => g.part == m) = [] := by
          rw [List.filter_eq_nil_iff]
          intro g hg
          obtain ⟨y, _, rfl⟩ := List.mem_map.1 hg
          simp only [goalOf, beq_iff_eq]
          omega
        rw [this, List.append_nil]
      · cases h
    · exact goalsF_old F0 W0 xs ss (i + 1) out G h m (by omega)
theorem goalsF_new (F0 : List PartD) (W0 : List (List UInt8)) : ∀ (F : List PartD) (W : List (List UInt8)) (i : Nat) (out G : List GoalD), F.length = W.length → goalsF F0 W0 F W i out = some G → ∀ m x, F[m]? = some x →
    ∃ h, W[m]? = some h ∧ (x.type = htmlB → (findE x.body).2 = 0) ∧ G.filter (fun g => g.part == i + m) = out.filter (fun g => g.part == i + m) ++ (if x.type = htmlB then (findE x.body).1.map (goalOf F0 W0 (i + m) (fromG h)) else [])
  | [], _, i, out, G, _, h, m, x, hx => by simp at hx
  | _ :: _, [], i, out, G, hl, h, m, x, hx => by simp at hl
  | y :: xs, s :: ss, i, out, G, hl, h, 0, x, hx => by
    simp at hx
    subst hx
    rw [goalsF] at h
    refine ⟨s, rfl, ?_⟩
    rw [Nat.add_zero]
    split at h
    · rename_i ht
      split at h
      · rename_i hf
        refine ⟨fun _ => hf, ?_⟩
        rw [goalsF_old F0 W0 xs ss (i + 1) _ G h i (by omega), List.filter_append, if_pos ht]
        congr 1
        rw [List.filter_eq_self]
        intro g hg
        obtain ⟨y, _, rfl⟩ := List.mem_map.1 hg
        simp [goalOf]
      · cases h
    · rename_i ht
      refine ⟨fun e => absurd e ht, ?_⟩
      rw [goalsF_old F0 W0 xs ss (i + 1) out G h i (by omega), if_neg ht, List.append_nil]
  | y :: xs, s :: ss, i, out, G, hl, h, m + 1, x, hx => by
    rw [goalsF] at h
    have hl' : xs.length = ss.length := by simpa using hl
    have hx' : xs[m]? = some x := by simpa using hx
    split at h
    · split at h
      · obtain ⟨h', h1, h2, h3⟩ := goalsF_new F0 W0 xs ss (i + 1) _ G hl' h m x hx'
        refine ⟨h', by simpa using h1, h2, ?_⟩
        rw [show i + (m + 1) = i + 1 + m by omega, h3, List.filter_append]
        have : ((findE y.body).1.map (goalOf F0 W0 i (fromG s))).filter (fun g => g.part == i + 1 + m) = [] := by
          rw [List.filter_eq_nil_iff]
          intro g hg
          obtain ⟨y, _, rfl⟩ := List.mem_map.1 hg
          simp only [goalOf, beq_iff_eq]
          omega
        rw [this, List.append_nil]
      · cases h
    · obtain ⟨h', h1, h2, h3⟩ := goalsF_new F0 W0 xs ss (i + 1) out G hl' h m x hx'
      refine ⟨h', by simpa using h1, h2, ?_⟩
      rw [show i + (m + 1) = i + 1 + m by omega, h3]
/-- The goals of one part. -/
theorem goals_of (p : PartD) (G : List GoalD) (h : goalsD p = some G) (i : Nat) (x : PartD) (hx : (flatD p)[i]? = some x) :
    ∃ s, (whereD p)[i]? = some s ∧ (x.type = htmlB → (findE x.body).2 = 0) ∧ G.filter (fun g => g.part == i) = if x.type = htmlB then (findE x.body).1.map (goalOf (flatD p) (whereD p) i (fromG s)) else [] := by
  obtain ⟨s, h1, h2, h3⟩ := goalsF_new (flatD p) (whereD p) (flatD p) (whereD p) 0 [] G (whereD_len p).symm h i x hx
  rw [Nat.zero_add] at h3
  exact ⟨s, h1, h2, by simpa using h3⟩

/-! ### Bodies put into a tree -/
theorem bodiesF_len (ns : List NameD) (gs : List GoalD) : ∀ (F : List PartD) (i : Nat) (out bs : List (List UInt8)), bodiesF ns gs F i out = (bs, 0) → bs.length = out.length + F.length
  | [], i, out, bs, h => by
    rw [bodiesF] at h
    injection h with h _
    subst h
    simp
  | x :: xs, i, out, bs, h => by
    rw [bodiesF] at h
    split at h
    · rw [bodiesF_len ns gs xs (i + 1) _ bs h]
      simp
      omega
    · rename_i h0
      injection h with _ h
      exact absurd h h0
theorem bodiesF_pre (ns : List NameD) (gs : List GoalD) : ∀ (F : List PartD) (i : Nat) (out bs : List (List UInt8)), bodiesF ns gs F i out = (bs, 0) → bs.take out.length = out
  | [], i, out, bs, h => by
    rw [bodiesF] at h
    injection h with h _
    subst h
    simp
  | x :: xs, i, out, bs, h => by
    rw [bodiesF] at h
    split at h
    · have h1 := bodiesF_pre ns gs xs (i + 1) _ bs h
      have := congrArg (List.take out.length) h1
      rw [List.take_take] at this
      simpa [Nat.min_eq_left] using this
    · rename_i h0
      injection h with _ h
      exact absurd h h0
theorem bodiesF_at (ns : List NameD) (gs : List GoalD) : ∀ (F : List PartD) (i : Nat) (out bs : List (List UInt8)), bodiesF ns gs F i out = (bs, 0) → ∀ m x, F[m]? = some x → bodyN ns gs x (i + m) = (bs.getD (out.length + m) [], 0)
  | [], i, out, bs, h, m, x, hx => by simp at hx
  | y :: xs, i, out, bs, h, 0, x, hx => by
    simp at hx
    subst hx
    rw [bodiesF] at h
    split at h
    · rename_i h0
      have h1 := congrArg (·[out.length]?) (bodiesF_pre ns gs xs (i + 1) _ bs h)
      rw [Nat.add_zero, Nat.add_zero, List.getD_eq_getElem?_getD]
      have h2 : bs[out.length]? = some (bodyN ns gs y i).1 := by simpa [List.getElem?_take] using h1
      rw [h2]
      exact Prod.ext rfl h0
    · rename_i h0
      injection h with _ h
      exact absurd h h0
  | y :: xs, i, out, bs, h, m + 1, x, hx => by
    rw [bodiesF] at h
    split at h
    · have h1 := bodiesF_at ns gs xs (i + 1) _ bs h m x (by simpa using hx)
      rw [List.length_append, List.length_singleton, show i + 1 + m = i + (m + 1) by omega, show out.length + 1 + m = out.length + (m + 1) by omega] at h1
      exact h1
    · rename_i h0
      injection h with _ h
      exact absurd h h0
theorem bodiesF_same (ns : List NameD) (gs : List GoalD) : ∀ (F : List PartD) (i : Nat) (out : List (List UInt8)), (∀ m x, F[m]? = some x → bodyN ns gs x (i + m) = (x.body, 0)) → bodiesF ns gs F i out = (out ++ F.map (·.body), 0)
  | [], i, out, h => by rw [bodiesF]; simp
  | x :: xs, i, out, h => by
    have h0 := h 0 x rfl
    rw [Nat.add_zero] at h0
    rw [bodiesF, h0, if_pos rfl, bodiesF_same ns gs xs (i + 1) _ (fun m y hy => by have := h (m + 1) y (by simpa using hy); rwa [show i + (m + 1) = i + 1 + m by omega] at this)]
    simp
mutual
theorem putD_same : ∀ (p : PartD) (r : List (List UInt8)), putD p ((flatD p).map (·.body) ++ r) = p
  | ⟨t, cs, id, loc, how, body, parts⟩, r => by
    rw [flatD, List.map_cons, List.cons_append, putD, List.headD_cons, List.drop_one, List.tail_cons, putsD_same parts r]
theorem putsD_same : ∀ (ps : List PartD) (r : List (List UInt8)), putsD ps ((flatsD ps).map (·.body) ++ r) = ps
  | [], r => by rw [putsD]
  | p :: ps, r => by
    have hl : (flatD p).length = ((flatD p).map (fun x : PartD => x.body)).length := by rw [List.length_map]
    rw [flatsD, List.map_append, List.append_assoc, putsD, putD_same p, hl, List.drop_left, putsD_same ps r]
end
theorem zip_app {α β γ : Type} (f : α → β → γ) : ∀ (a b : List α) (l : List β), a.length ≤ l.length → List.zipWith f (a ++ b) l = List.zipWith f a l ++ List.zipWith f b (l.drop a.length)
  | [], b, l, _ => by simp
  | x :: a, b, [], h => by simp at h
  | x :: a, b, y :: l, h => by
    rw [List.cons_append, List.zipWith_cons_cons, List.zipWith_cons_cons, zip_app f a b l (by simpa using h), List.length_cons, List.drop_succ_cons, List.cons_append]
end Go.Proofs.YtlbdnohnngkapaaGreatDoor

namespace Go.Proofs.YtlbdnohnngkapaaGreatDoor
open Go.RowKit

def nameC (ns : List NameD) : List Value := ns.flatMap nameCells
theorem nameC_app (a b : List NameD) : nameC (a ++ b) = nameC a ++ nameC b := by simp [nameC]
theorem nameC_len (l : List NameD) : (nameC l).length = l.length * 2 := by
  induction l with
  | nil => rfl
  | cons g l ih =>
    have : nameC (g :: l) = nameCells g ++ nameC l := rfl
    rw [this, List.length_append, ih]
    simp [nameCells]
    omega
theorem nameC_one (l : List NameD) : ∀ u ∈ nameC l, u.oneCell' = true := by
  intro u hu
  obtain ⟨g, _, hg⟩ := List.mem_flatMap.1 hu
  simp only [nameCells, List.mem_cons, List.not_mem_nil, or_false] at hg
  rcases hg with rfl | rfl <;> rfl
theorem Sl.name {w : World} {B n : Nat} {A : Option Addr} {ns : List NameD} (h : Sl w B 2 A n (nameC ns)) (i : Nat) (hi : i < n) :
    ∃ b off x, A = some ⟨b, off, none⟩ ∧ b < B ∧ ns.drop i = x :: ns.drop (i + 1) ∧ w.cell? ⟨b, off + i * 2, none⟩ = some (.int .i64 x.part) ∧ w.cell? ⟨b, off + i * 2 + 1, none⟩ = some (str x.name) := by
  obtain ⟨b, off, hA, hb, hc⟩ := h.2 (by omega)
  have hl : ns.length = n := by have := h.1; rw [nameC_len] at this; omega
  have hil : i < ns.length := by omega
  have hd := List.drop_eq_getElem_cons hil
  have hsplit : nameC ns = nameC (ns.take i) ++ nameC (ns.drop i) := by rw [← nameC_app, List.take_append_drop]
  have hat : ∀ k, k < 2 → (nameC ns)[i * 2 + k]? = [Value.int .i64 ns[i].part, str ns[i].name][k]? := by
    intro k hk
    have e : (nameC (ns.take i)).length = i * 2 := by rw [nameC_len, List.length_take, Nat.min_eq_left (by omega)]
    rw [hsplit, List.getElem?_append_right (by omega), e, Nat.add_sub_cancel_left, hd]
    rw [show nameC (ns[i] :: ns.drop (i + 1)) = [Value.int .i64 ns[i].part, str ns[i].name] ++ nameC (ns.drop (i + 1)) from rfl, List.getElem?_append_left (by simpa using hk)]
  exact ⟨b, off, ns[i], hA, hb, hd, hc _ _ (hat 0 (by omega)), hc _ _ (hat 1 (by omega))⟩
def NamesOk (ns : List NameD) : Prop := ∀ x ∈ ns, x.name.length ≤ maxLen ∧ -9223372036854775808 ≤ x.part ∧ x.part ≤ 9223372036854775807
set_option maxRecDepth 100000 in
set_option maxHeartbeats 800000 in
theorem name1_any (x : Nat) (hx : x < 256) (w : World) : Calls Tryz.prog 144 #[.int .u8 (x : Int)] w fun e w' => e = .returned (.bool (badN x)) ∧ w = w' := by
  go_enter Tryz.func144, Tryz.ntmps144
  go_wp2_with fail
  all_goals
    go_ret
    refine ⟨congrArg (fun b => Ending.returned (.bool b)) (?_ : _ = badN x), rfl⟩
    rw [Bool.eq_iff_iff]
    simp [badN]
    try omega
theorem predNm (w : World) : PredB 144 #[] badN w := fun W x hx _ =>
  (name1_any x hx W).mono fun e w' ⟨h1, h2⟩ => ⟨h1, h2 ▸ Below.refl _ _⟩
set_option maxRecDepth 100000 in
set_option maxHeartbeats 800000 in
theorem name_any (l : List UInt8) (w : World) (hl : l.length ≤ maxLen) : Calls Tryz.prog 75 #[str l] w fun e w' => e = .returned (.bool (nameB l)) ∧ Below w.heap.size w w' := by
  unfold maxLen at hl
  obtain ⟨r, hr⟩ : ∃ r, r = nameB l := ⟨_, rfl⟩
  rw [← hr]
  unfold nameB at hr
  by_cases h0 : l = []
  · have d0 : (l == []) = true := by rw [h0]; rfl
    rw [d0] at hr
    simp only [Bool.not_true, Bool.false_and] at hr
    subst hr
    have H0 := Lib.hid h0
    clear h0
    go_enter Tryz.func75, Tryz.ntmps75
    go_wp2_with fail
    go_ret
    exact ⟨rfl, Below.refl _ _⟩
  · have d0 : (l == []) = false := by simpa using h0
    have hpos : 0 < l.length := List.length_pos_iff.2 h0
    have hpos' : (0 : Int) < l.length := by omega
    rw [d0] at hr
    have H0 := Lib.hid h0
    clear h0
    simp only [Bool.not_false, Bool.true_and] at hr
    by_cases h30 : l.length ≤ 30
    · have d30 : decide ((l.length : Int) ≤ 30) = true := by simp; omega
      rw [decide_eq_true h30, Bool.true_and] at hr
      by_cases h97 : 97 ≤ nth l 0
      · have d97 : decide ((97 : Int) ≤ (nth l 0 : Int)) = true := by simp; omega
        rw [decide_eq_true h97, Bool.true_and] at hr
        by_cases h122 : nth l 0 ≤ 122
        · have d122 : decide ((nth l 0 : Int) ≤ 122) = true := by simp; omega
          rw [decide_eq_true h122, Bool.true_and] at hr
          obtain ⟨A, c, w1, hconv, hby, hnc, hb1, hlt1⟩ := run_toBytes (P := Tryz.prog) w 9 22 5 l Tryz.underlying9 Tryz.underlying22 Tryz.underlying5
          have hcf := ContainsFunc_bytes 144 #[] (enters_of Tryz.func144 (by kernel_rfl) rfl) badN A l.length c _ l w1 hby (Nat.le_refl _) (by unfold maxLen; omega) (predNm w1)
          generalize l.any (fun b => badN b.toNat) = r' at hcf hr
          have Hcf := Lib.hid hcf
          have HR := Lib.hid hr
          clear hcf hby hr
          go_enter Tryz.func75, Tryz.ntmps75
          go_wp2_with fail
          refine Hcf.out.mono ?_
          rintro e w2 ⟨rfl, hb2⟩
          go_wp2_with fail
          go_ret
          exact ⟨by rw [HR.out]; rfl, hb1.trans (hb2.mono hb1.size)⟩
        · have d122 : decide ((nth l 0 : Int) ≤ 122) = false := by simp; omega
          rw [decide_eq_false h122, Bool.false_and] at hr
          subst hr
          go_enter Tryz.func75, Tryz.ntmps75
          go_wp2_with fail
          go_ret
          exact ⟨rfl, Below.refl _ _⟩
      · have d97 : decide ((97 : Int) ≤ (nth l 0 : Int)) = false := by simp; omega
        rw [decide_eq_false h97, Bool.false_and] at hr
        subst hr
        go_enter Tryz.func75, Tryz.ntmps75
        go_wp2_with fail
        go_ret
        exact ⟨rfl, Below.refl _ _⟩
    · have d30 : decide ((l.length : Int) ≤ 30) = false := by simp; omega
      rw [decide_eq_false h30, Bool.false_and] at hr
      subst hr
      go_enter Tryz.func75, Tryz.ntmps75
      go_wp2_with fail
      go_ret
      exact ⟨rfl, Below.refl _ _⟩
set_option maxRecDepth 100000 in
set_option maxHeartbeats 2000000 in
theorem of_any (A : Option Addr) (n c : Nat) (ns : List NameD) (k : Int) (w : World) (h : Sl w w.heap.size 2 A n (nameC ns)) (hn : n ≤ maxLen) :
    Calls Tryz.prog 66 #[.slice A n c, .int .i64 k] w fun e w' => e = .returned (str (ofN ns k)) ∧ Below w.heap.size w w' := by
  unfold maxLen at hn
  have hl : ns.length = n := by have := h.1; rw [nameC_len] at this; omega
  obtain ⟨R, hR⟩ : ∃ R, R = ofN ns k := ⟨_, rfl⟩
  rw [← hR]
  have H := Lib.hid h
  have HR := Lib.hid hR
  have Hl := Lib.hid hl
  clear h hR hl
  go_enter Tryz.func66, Tryz.ntmps66
  go_wp2_with fail
  go_loopw [9] (fun iv wr => ∃ i : Nat, iv = .int .i64 (i : Nat) ∧ i ≤ n ∧ Below w.heap.size w wr ∧ Hid (ofN (ns.drop i) k = R)) (fun iv _ => n - (intOf iv).toNat)
  case atStart => exact ⟨0, rfl, Nat.zero_le _, Below.refl _ _, Lib.hid (by rw [List.drop_zero]; exact HR.out.symm)⟩
  case round =>
    obtain ⟨i, rfl, hi, hbel, HS⟩ := hrel
    by_cases hin : i < n
    · obtain ⟨b, off, x, rfl, hb, hd, x0, x1⟩ := (Sl.below H.out hbel).name i hin
      have hs := HS.out
      rw [hd, ofN] at hs
      have hbelA := hbel.alloc hbel.size (.cells #[.int .i64 x.part, str x.name] 79)
      by_cases hk : x.part = k
      · have e1 : (x.part == k) = true := by simpa using hk
        rw [if_pos hk] at hs
        have Hs := Lib.hid hs
        have Hk := Lib.hid hk
        clear hs hk hd
        go_wp2_with fail
        go_ret
        exact ⟨by rw [Hs.out]; rfl, hbelA⟩
      · have e1 : (x.part == k) = false := by simpa using hk
        rw [if_neg hk] at hs
        have Hs := Lib.hid hs
        have Hk := Lib.hid hk
        clear hs hk hd
        go_wp2_with fail
        exact ⟨⟨i + 1, by go_num, by omega, hbelA, Hs⟩, by simp [intOf]; omega⟩
    · obtain rfl : i = n := by omega
      have hs := HS.out
      rw [List.drop_of_length_le (by rw [Hl.out]; exact Nat.le_refl _), ofN] at hs
      have Hs := Lib.hid hs
      clear hs
      go_wp2_with fail
      go_ret
      exact ⟨by rw [← Hs.out]; rfl, hbel⟩
theorem upto_Name (X : World) (b off n c i : Nat) (hi : i ≤ n) (hc : n ≤ c) : (Instr.slice 26 (.slice (some ⟨b, off, none⟩) n c) none (some (.int .i64 (i : Int))) none).run Tryz.prog X = .ok (.slice (some ⟨b, off, none⟩) i c) X := by
  rw [run_upto X _ _ 2 Tryz.underlying26 (Tryz.sizeOf79 X) (some ⟨b, off, none⟩) n c .i64 i (by omega) (by omega) hc]
  unfold cutA
  split
  · rfl
  · rw [Option.map_some, Addr.add_lit]
    simp
theorem clash_cons (x y : NameD) (r : List NameD) : clashN x (y :: r) = ((y.name == x.name || decide (x.part ≤ y.part)) || clashN x r) := by simp [clashN]
theorem drop_takeN {ns : List NameD} {i j : Nat} {y : NameD} (hj : j < i) (h : ns.drop j = y :: ns.drop (j + 1)) : (ns.take i).drop j = y :: (ns.take i).drop (j + 1) := by
  rw [List.drop_take, List.drop_take, h, show i - j = (i - (j + 1)) + 1 by omega, List.take_succ_cons]
def CkRel (n : Nat) (ns : List NameD) (parts : Int) (R : Nat) (w : World) (iv : Value) (wr : World) : Prop :=
  ∃ i : Nat, iv = .int .i64 (i : Nat) ∧ i ≤ n ∧ Below w.heap.size w wr ∧ Hid (namesF parts (ns.take i) (ns.drop i) = R)
def CkRel2 (i : Nat) (ahead : List NameD) (x : NameD) (cl : Bool) (w1 : World) (jv : Value) (wr : World) : Prop :=
  ∃ j : Nat, jv = .int .i64 (j : Nat) ∧ j ≤ i ∧ Below w1.heap.size w1 wr ∧ Hid (clashN x (ahead.drop j) = cl)
set_option maxRecDepth 100000 in
set_option maxHeartbeats 4000000 in
theorem CheckNames_any (A : Option Addr) (n c : Nat) (ns : List NameD) (parts : Int) (w : World) (h : Sl w w.heap.size 2 A n (nameC ns)) (hn : n ≤ c) (hc : c ≤ maxLen) (hok : NamesOk ns) :
    Calls Tryz.prog 18 #[.slice A n c, .int .i64 parts] w fun e w' => e = .returned (.int .i64 (namesF parts [] ns : Nat)) ∧ Below w.heap.size w w' := by
  unfold maxLen at hc
  have hl : ns.length = n := by have := h.1; rw [nameC_len] at this; omega
  obtain ⟨R, hR⟩ : ∃ R, R = namesF parts [] ns := ⟨_, rfl⟩
  rw [← hR]
  have H := Lib.hid h
  have HR := Lib.hid hR
  have Hl := Lib.hid hl
  have Hok := Lib.hid hok
  clear h hR hl hok
  go_enter Tryz.func18, Tryz.ntmps18
  go_wp2_with fail
  go_loopw [11] (CkRel n ns parts R w) (fun iv _ => n - (intOf iv).toNat)
  case atStart => exact ⟨0, rfl, Nat.zero_le _, Below.refl _ _, Lib.hid (by rw [List.drop_zero, List.take_zero]; exact HR.out.symm)⟩
  case round =>
    obtain ⟨i, rfl, hi, hbel, HS⟩ := hrel
    by_cases hin : i < n
    · obtain ⟨b, off, x, rfl, hb, hd, x0, x1⟩ := (Sl.below H.out hbel).name i hin
      have hxm : x ∈ ns := List.mem_of_mem_drop (by rw [hd]; simp)
      have hxk := Hok.out x hxm
      have hs := HS.out
      have htk : ns.take i ++ [x] = ns.take (i + 1) := by
        have := congrArg (fun l => l[0]?) hd
        simp at this
        rw [List.take_add_one, this]
        rfl
      rw [hd, namesF, htk] at hs
      have Hs := Lib.hid hs
      have hsl := fun X => upto_Name X b off n c i (by omega) hn
      have KN := Lib.hid (fun X => name_any x.name X hxk.1)
      obtain ⟨W1, hW1⟩ : ∃ W1, W1 = wr.alloc (.cells #[.int .i64 x.part, str x.name] 79) := ⟨_, rfl⟩
      have hb1 : Below wr.heap.size wr W1 := by rw [hW1]; exact (Below.refl _ _).alloc (Nat.le_refl _) _
      have hnb : W1.heap[wr.heap.size]? = some (.cells #[.int .i64 x.part, str x.name] 79) := by rw [hW1]; exact heap_alloc_new wr _
      have hbel1 := hbel.trans (hb1.mono hbel.size)
      have c0 : W1.cell? ⟨wr.heap.size, 0, none⟩ = some (.int .i64 x.part) := by unfold World.cell?; rw [hnb]; rfl
      have c1 : W1.cell? ⟨wr.heap.size, 1, none⟩ = some (str x.name) := by unfold World.cell?; rw [hnb]; rfl
      have hlt1 : wr.heap.size < W1.heap.size := by rw [hW1]; simp
      obtain ⟨hx1, hx2, hx3⟩ := hxk
      clear hs hd htk hxm hx1 hnb
      go_upto_region 4 with fail
      rw [← hW1]
      clear hW1 x0 x1
      by_cases hp0 : x.part < 0
      · have d0 : decide (x.part < 0) = true := by simpa using hp0
        have hs := Hs.out
        rw [if_pos (Or.inl hp0)] at hs
        subst hs
        go_wp2_with fail
        go_ret
        exact ⟨rfl, hbel1⟩
      · have d0 : decide (x.part < 0) = false := by simpa using hp0
        by_cases hp1 : parts ≤ x.part
        · have d1 : decide (parts ≤ x.part) = true := by simpa using hp1
          have hs := Hs.out
          rw [if_pos (Or.inr hp1)] at hs
          subst hs
          go_wp2_with fail
          go_ret
          exact ⟨rfl, hbel1⟩
        · have d1 : decide (parts ≤ x.part) = false := by simpa using hp1
          have hs := Hs.out
          rw [if_neg (by rintro (h | h); exact hp0 h; exact hp1 h)] at hs
          have Hs2 := Lib.hid hs
          clear hs Hs
          generalize hnm : nameB x.name = nm at KN Hs2
          clear hnm
          cases nm
          · have hs := Hs2.out
            rw [if_pos rfl] at hs
            subst hs
            go_wp2_with fail
            refine (KN.out _).mono ?_
            rintro e w2 ⟨rfl, hb2⟩
            go_wp2_with fail
            go_ret
            exact ⟨rfl, hbel1.trans (hb2.mono hbel1.size)⟩
          · have hs := Hs2.out
            rw [if_neg (by decide)] at hs
            have Hs3 := Lib.hid hs
            clear hs Hs2
            go_wp2_with fail
            refine (KN.out _).mono ?_
            rintro e w2 ⟨rfl, hb2⟩
            have hbel2 := hbel1.trans (hb2.mono hbel1.size)
            have e0 := (hb2.cell (p := ⟨wr.heap.size, 0, none⟩) hlt1).trans c0
            have e1 := (hb2.cell (p := ⟨wr.heap.size, 1, none⟩) hlt1).trans c1
            have hlt2 : wr.heap.size < w2.heap.size := Nat.lt_of_lt_of_le hlt1 hb2.size
            obtain ⟨cl, hcl⟩ : ∃ cl, cl = clashN x (ns.take i) := ⟨_, rfl⟩
            rw [← hcl] at Hs3
            have Hcl := Lib.hid hcl
            clear hcl c0 c1 hb1 hb2 hbel hbel1 hlt1
            go_wp2_with fail
            have E0 := Lib.hid (And.intro e0 e1)
            clear e0 e1 hsl
            obtain ⟨tb, htb⟩ : ∃ tb, tb = wr.heap.size := ⟨_, rfl⟩
            rw [← htb] at E0 hlt2 ⊢
            clear htb
            go_loopw [33] (CkRel2 i (ns.take i) x cl w2) (fun jv _ => i - (intOf jv).toNat)
            case atStart => exact ⟨0, rfl, Nat.zero_le _, Below.refl _ _, Lib.hid (by rw [List.drop_zero]; exact Hcl.out.symm)⟩
            case round =>
              obtain ⟨j, rfl, hj, hbelj, HJ⟩ := hrel
              by_cases hji : j < i
              · have hbelk := hbel2.trans (hbelj.mono hbel2.size)
                obtain ⟨b', off', y, hA, _, hdy, y0, y1⟩ := (Sl.below H.out hbelk).name j (by omega)
                injection hA with hA
                injection hA with hA1 hA2
                subst hA1
                subst hA2
                have hcl := HJ.out
                rw [drop_takeN hji hdy, clash_cons] at hcl
                have k0 : wr.cell? ⟨tb, 0, none⟩ = some (.int .i64 x.part) := (hbelj.cell (p := ⟨tb, 0, none⟩) hlt2).trans E0.out.1
                have k1 : wr.cell? ⟨tb, 1, none⟩ = some (str x.name) := (hbelj.cell (p := ⟨tb, 1, none⟩) hlt2).trans E0.out.2
                have hltb : tb < wr.heap.size := Nat.lt_of_lt_of_le hlt2 hbelj.size
                obtain ⟨W3, hW3⟩ : ∃ W3, W3 = wr.alloc (.cells #[.int .i64 y.part, str y.name] 79) := ⟨_, rfl⟩
                have hb3 : Below wr.heap.size wr W3 := by rw [hW3]; exact (Below.refl _ _).alloc (Nat.le_refl _) _
                have hnb : W3.heap[wr.heap.size]? = some (.cells #[.int .i64 y.part, str y.name] 79) := by rw [hW3]; exact heap_alloc_new wr _
                have z0 : W3.cell? ⟨wr.heap.size, 0, none⟩ = some (.int .i64 y.part) := by unfold World.cell?; rw [hnb]; rfl
                have z1 : W3.cell? ⟨wr.heap.size, 1, none⟩ = some (str y.name) := by unfold World.cell?; rw [hnb]; rfl
                have k0' := (hb3.cell (p := ⟨tb, 0, none⟩) hltb).trans k0
                have k1' := (hb3.cell (p := ⟨tb, 1, none⟩) hltb).trans k1
                have hbel3 := hbelj.trans (hb3.mono hbelj.size)
                have Hclx := Lib.hid hcl
                clear hcl hdy hnb k0 k1
                go_upto_region 11 with fail
                rw [← hW3]
                clear hW3 y0 y1
                by_cases hnn : y.name = x.name
                · have d1 : (y.name == x.name) = true := by simpa using hnn
                  have hcl := Hclx.out
                  rw [d1] at hcl
                  simp only [Bool.true_or] at hcl
                  have hs := Hs3.out
                  rw [← hcl, if_pos rfl] at hs
                  subst hs
                  have Hnn := Lib.hid hnn
                  clear hnn hcl
                  go_wp2_with fail
                  go_ret
                  exact ⟨rfl, hbel2.trans (hbel3.mono hbel2.size)⟩
                · have d1 : (y.name == x.name) = false := by simpa using hnn
                  have hcl := Hclx.out
                  rw [d1] at hcl
                  have Hnn := Lib.hid hnn
                  clear hnn
                  by_cases hpp : x.part ≤ y.part
                  · have d2 : decide (x.part ≤ y.part) = true := by simpa using hpp
                    rw [d2] at hcl
                    simp only [Bool.false_or, Bool.true_or] at hcl
                    have hs := Hs3.out
                    rw [← hcl, if_pos rfl] at hs
                    subst hs
                    clear hcl
                    go_wp2_with fail
                    go_ret
                    exact ⟨rfl, hbel2.trans (hbel3.mono hbel2.size)⟩
                  · have d2 : decide (x.part ≤ y.part) = false := by simpa using hpp
                    rw [d2] at hcl
                    simp only [Bool.false_or] at hcl
                    have Hc2 := Lib.hid hcl
                    clear hcl
                    go_wp2_with fail
                    exact ⟨⟨j + 1, by go_num, by omega, hbel3, Hc2⟩, by simp [intOf]; omega⟩
              · obtain rfl : j = i := by omega
                have hcl := HJ.out
                rw [List.drop_of_length_le (List.length_take_le _ _)] at hcl
                have hs := Hs3.out
                rw [← hcl, if_neg (by simp [clashN])] at hs
                have Hs4 := Lib.hid hs
                have hbel9 := hbel2.trans (hbelj.mono hbel2.size)
                clear hs hcl
                go_wp2_with fail
                exact ⟨⟨j + 1, by go_num, by omega, hbel9, Hs4⟩, by simp [intOf]; omega⟩
    · obtain rfl : i = n := by omega
      have hs := HS.out
      rw [List.drop_of_length_le (by rw [Hl.out]; exact Nat.le_refl _), namesF] at hs
      have Hs := Lib.hid hs
      clear hs
      go_wp2_with fail
      go_ret
      exact ⟨by rw [← Hs.out]; rfl, hbel⟩
end Go.Proofs.YtlbdnohnngkapaaGreatDoor

namespace Go.Proofs.YtlbdnohnngkapaaGreatDoor
open Go.RowKit

/-! ### A tree of parts, each row of which lies by itself -/
mutual
def TrAt (w : World) : Nat → Nat → PartD → List Value → Prop
  | lo, hi, ⟨t, cs, id, loc, how, body, parts⟩, v => ∃ A c A2 c2 rows lo2, v = [str t, str cs, str id, str loc, .int .i64 how, .slice A body.length c, .slice A2 parts.length c2] ∧
      (t.length ≤ maxLen ∧ cs.length ≤ maxLen ∧ id.length ≤ maxLen ∧ loc.length ≤ maxLen ∧ -9223372036854775808 ≤ how ∧ how ≤ 9223372036854775807) ∧ parts.length ≤ c2 ∧ c2 ≤ maxLen ∧
      w.ownsRow lo 25 7 (.slice A2 parts.length c2) parts.length (List.flatten rows) ∧ (∀ g, Value.ownBlock (.slice A2 parts.length c2) = some g → g < lo2) ∧ lo ≤ lo2 ∧ lo2 ≤ hi ∧ TrsAt w lo2 hi parts rows
def TrsAt (w : World) : Nat → Nat → List PartD → List (List Value) → Prop
  | lo, hi, [], rows => rows = [] ∧ lo ≤ hi
  | lo, hi, p :: ps, rows => ∃ r rs mid, rows = r :: rs ∧ lo ≤ mid ∧ mid ≤ hi ∧ TrAt w lo mid p r ∧ TrsAt w mid hi ps rs
end
theorem own_keep {w w' : World} {base : Nat} {e : TypeId} {size : Nat} {v : Value} {n : Nat} {xs : List Value} (h : w.ownsRow base e size v n xs) (hk : ∀ g, v.ownBlock = some g → w'.heap[g]? = w.heap[g]?) : w'.ownsRow base e size v n xs := by
  refine ⟨h.1, ?_⟩
  rcases h.2 with h2 | ⟨g, cap, cur, rfl, h3, h4, h5⟩
  · exact .inl h2
  · exact .inr ⟨g, cap, cur, rfl, h3, (hk g rfl).trans h4, h5⟩
section
variable {w w' : World}
theorem TrsAt.le : ∀ (ps : List PartD) (rows : List (List Value)) (lo hi : Nat), TrsAt w lo hi ps rows → lo ≤ hi
  | [], _, _, _, h => h.2
  | p :: ps, _, lo, hi, h => by
    obtain ⟨r, rs, mid, _, h1, h2, _⟩ := h
    omega
mutual
theorem TrAt.keep : ∀ (p : PartD) (v : List Value) (lo hi : Nat), (∀ b, lo ≤ b → b < hi → w'.heap[b]? = w.heap[b]?) → TrAt w lo hi p v → TrAt w' lo hi p v
  | ⟨t, cs, id, loc, how, body, parts⟩, v, lo, hi, hk, h => by
    obtain ⟨A, c, A2, c2, rows, lo2, h1, h2, h3, h4, h5, h6, h7, h8, h9⟩ := h
    have h10 : ∀ g, Value.ownBlock (.slice A2 parts.length c2) = some g → lo ≤ g := fun g hg => (h5.lt g hg).1
    exact ⟨A, c, A2, c2, rows, lo2, h1, h2, h3, h4, own_keep h5 (fun g hg => hk g (h10 g hg) (by have := h6 g hg; omega)), h6, h7, h8, TrsAt.keep parts rows lo2 hi (fun b hb hb' => hk b (by omega) hb') h9⟩
theorem TrsAt.keep : ∀ (ps : List PartD) (rows : List (List Value)) (lo hi : Nat), (∀ b, lo ≤ b → b < hi → w'.heap[b]? = w.heap[b]?) → TrsAt w lo hi ps rows → TrsAt w' lo hi ps rows
  | [], _, _, _, _, h => h
  | p :: ps, _, lo, hi, hk, h => by
    obtain ⟨r, rs, mid, h1, h2, h3, h4, h5⟩ := h
    exact ⟨r, rs, mid, h1, h2, h3, TrAt.keep p r lo mid (fun b hb hb' => hk b hb (by omega)) h4, TrsAt.keep ps rs mid hi (fun b hb hb' => hk b (by omega) hb') h5⟩
end
mutual
theorem TrAt.wide : ∀ (p : PartD) (v : List Value) (lo hi lo' hi' : Nat), lo' ≤ lo → hi ≤ hi' → TrAt w lo hi p v → TrAt w lo' hi' p v
  | ⟨t, cs, id, loc, how, body, parts⟩, v, lo, hi, lo', hi', h1, h2, h => by
    obtain ⟨A, c, A2, c2, rows, lo2, g1, g2, g3, g4, g5, g6, g7, g8, g9⟩ := h
    exact ⟨A, c, A2, c2, rows, lo2, g1, g2, g3, g4, own_base g5 h1, g6, by omega, by omega, TrsAt.wide parts rows lo2 hi lo2 hi' (Nat.le_refl _) h2 g9⟩
theorem TrsAt.wide : ∀ (ps : List PartD) (rows : List (List Value)) (lo hi lo' hi' : Nat), lo' ≤ lo → hi ≤ hi' → TrsAt w lo hi ps rows → TrsAt w lo' hi' ps rows
  | [], _, lo, hi, lo', hi', h1, h2, h => ⟨h.1, by have := h.2; omega⟩
  | p :: ps, _, lo, hi, lo', hi', h1, h2, h => by
    obtain ⟨r, rs, mid, g1, g2, g3, g4, g5⟩ := h
    exact ⟨r, rs, mid, g1, by omega, by omega, TrAt.wide p r lo mid lo' mid h1 (Nat.le_refl _) g4, TrsAt.wide ps rs mid hi mid hi' (Nat.le_refl _) h2 g5⟩
end
theorem TrsAt.snoc : ∀ (ps : List PartD) (rows : List (List Value)) (lo mid mid' hi : Nat) (q : PartD) (r : List Value), TrsAt w lo mid ps rows → mid ≤ mid' → mid' ≤ hi → TrAt w mid' hi q r → TrsAt w lo hi (ps ++ [q]) (rows ++ [r])
  | [], _, lo, mid, mid', hi, q, r, h, h1, h2, h3 => by
    obtain ⟨rfl, h⟩ := h
    exact ⟨r, [], hi, rfl, by omega, Nat.le_refl _, TrAt.wide q r mid' hi lo hi (by omega) (Nat.le_refl _) h3, rfl, Nat.le_refl _⟩
  | p :: ps, _, lo, mid, mid', hi, q, r, h, h1, h2, h3 => by
    obtain ⟨x, xs, m, rfl, g2, g3, g4, g5⟩ := h
    exact ⟨x, xs ++ [r], m, rfl, g2, by omega, g4, TrsAt.snoc ps xs m mid mid' hi q r g5 h1 h2 h3⟩
theorem TrAt.row7 {p : PartD} {v : List Value} {lo hi : Nat} (h : TrAt w lo hi p v) : v.length = 7 := by
  obtain ⟨t, cs, id, loc, how, body, parts⟩ := p
  obtain ⟨A, c, A2, c2, rows, lo2, rfl, _⟩ := h
  rfl
theorem TrsAt.rows7 : ∀ (ps : List PartD) (rows : List (List Value)) (lo hi : Nat), TrsAt w lo hi ps rows → ∀ r ∈ rows, r.length = 7
  | [], _, _, _, h => by rw [h.1]; simp
  | p :: ps, _, lo, hi, h => by
    obtain ⟨r, rs, mid, rfl, _, _, h4, h5⟩ := h
    intro x hx
    rcases List.mem_cons.1 hx with rfl | hx
    · exact h4.row7
    · exact TrsAt.rows7 ps rs mid hi h5 x hx
theorem TrsAt.len : ∀ (ps : List PartD) (rows : List (List Value)) (lo hi : Nat), TrsAt w lo hi ps rows → rows.length = ps.length
  | [], _, _, _, h => by rw [h.1]; rfl
  | p :: ps, _, lo, hi, h => by
    obtain ⟨r, rs, mid, rfl, _, _, _, h5⟩ := h
    simp [TrsAt.len ps rs mid hi h5]
theorem TrAt.open {p : PartD} {v : List Value} {lo hi : Nat} (h : TrAt w lo hi p v) : ∃ A c A2 c2 rows lo2, v = [str p.type, str p.cs, str p.id, str p.loc, .int .i64 p.how, .slice A p.body.length c, .slice A2 p.parts.length c2] ∧
      (p.type.length ≤ maxLen ∧ p.cs.length ≤ maxLen ∧ p.id.length ≤ maxLen ∧ p.loc.length ≤ maxLen ∧ -9223372036854775808 ≤ p.how ∧ p.how ≤ 9223372036854775807) ∧ p.parts.length ≤ c2 ∧ c2 ≤ maxLen ∧
      w.ownsRow lo 25 7 (.slice A2 p.parts.length c2) p.parts.length (List.flatten rows) ∧ (∀ g, Value.ownBlock (.slice A2 p.parts.length c2) = some g → g < lo2) ∧ lo ≤ lo2 ∧ lo2 ≤ hi ∧ TrsAt w lo2 hi p.parts rows := by
  obtain ⟨t, cs, id, loc, how, body, parts⟩ := p
  exact h
end
end Go.Proofs.YtlbdnohnngkapaaGreatDoor

namespace Go.Proofs.YtlbdnohnngkapaaGreatDoor
open Go.RowKit

def CopyRes2 (p : PartD) (w : World) (e : Ending) (w' : World) : Prop :=
  ∃ v : List Value, e = .returned (.agg v.toArray) ∧ TrAt w' w.heap.size w'.heap.size p v ∧ Below w.heap.size w w'
def CopyRel2 (p : PartD) (rows : List (List Value)) (n2 h lo2 : Nat) (S1 S2 : Option Addr) (d1 d2 : Nat) (w0 : World) (iv : Value) (wr : World) : Prop :=
  ∃ i done, iv = .int .i64 (i : Nat) ∧ i ≤ n2 ∧ done.length = i ∧ wr.ownsRow (h + 2) 25 7 (.slice S2 n2 d2) n2 (done ++ rows.drop i).flatten ∧
    TrsAt wr lo2 wr.heap.size (p.parts.take i) done ∧ lo2 ≤ wr.heap.size ∧
    BoxF wr h (str p.type) (str p.cs) (str p.id) (str p.loc) (.int .i64 p.how) (.slice S1 p.body.length d1) (.slice S2 n2 d2) ∧
    (∃ v0 v1 v2 v3 v4 v5 v6, BoxF wr (h + 1) v0 v1 v2 v3 v4 v5 v6) ∧ Below h w0 wr ∧ h + 2 ≤ wr.heap.size
set_option maxRecDepth 100000 in
set_option maxHeartbeats 4000000 in
theorem Copy_tree (k : Nat) : ∀ (p : PartD) (v : List Value) (w : World), (flatD p).length ≤ k → k ≤ 1000 → (∀ q ∈ flatD p, q.body.length ≤ 4000) → PartAt (· < w.heap.size) w p v →
    Calls Tryz.prog 69 #[.agg v.toArray] w (CopyRes2 p w) := by
  induction k with
  | zero => intro p v w h; rw [flatD_eq] at h; simp at h
  | succ k ih =>
    intro p v w hk hk1 hbod hp
    obtain ⟨A, c, A2, c2, rfl, hbds, hby, hnc, hcm, hP, hc2, hcm2⟩ := hp.open
    obtain ⟨W, hW⟩ : ∃ W, W = (w.alloc (.cells #[str p.type, str p.cs, str p.id, str p.loc, .int .i64 p.how, .slice A p.body.length c, .slice A2 p.parts.length c2] 25)).alloc (.cells #[.string ⟨#[]⟩, .string ⟨#[]⟩, .string ⟨#[]⟩, .string ⟨#[]⟩, .int .i64 0, .slice none 0 0, .slice none 0 0] 25) := ⟨_, rfl⟩
    have hbW : Below w.heap.size w W := by rw [hW]; exact ((Below.refl _ w).alloc (Nat.le_refl _) _).alloc (by simp) _
    have hsW : W.heap.size = w.heap.size + 2 := by rw [hW]; simp
    have hx1 : BoxF W w.heap.size (str p.type) (str p.cs) (str p.id) (str p.loc) (.int .i64 p.how) (.slice A p.body.length c) (.slice A2 p.parts.length c2) := by
      refine BoxF.of_block (t := 25) ?_
      rw [hW, Lib.alloc_old _ _ _ (by simp)]
      exact heap_alloc_new w _
    have hx2 : BoxF W (w.heap.size + 1) (.string ⟨#[]⟩) (.string ⟨#[]⟩) (.string ⟨#[]⟩) (.string ⟨#[]⟩) (.int .i64 0) (.slice none 0 0) (.slice none 0 0) := by
      refine BoxF.of_block (t := 25) ?_
      rw [hW]
      have := heap_alloc_new (w.alloc (.cells #[str p.type, str p.cs, str p.id, str p.loc, .int .i64 p.how, .slice A p.body.length c, .slice A2 p.parts.length c2] 25)) (.cells #[.string ⟨#[]⟩, .string ⟨#[]⟩, .string ⟨#[]⟩, .string ⟨#[]⟩, .int .i64 0, .slice none 0 0, .slice none 0 0] 25)
      simpa using this
    have hnb : p.body.length ≤ 1000000000 := by have := hbod p (by rw [flatD_eq]; simp); omega
    have hfl : (flatsD p.parts).length ≤ k := by rw [flatD_eq, List.length_cons] at hk; omega
    have hnp : p.parts.length ≤ 1000000000 := by have := flatsD_len p.parts; omega
    obtain ⟨rows, hrs, hrp⟩ := hP
    have hc1 : ∀ W', Below w.heap.size w W' → Calls Tryz.prog 67 #[.slice A p.body.length c] W' (CloResbyte (Lib.byteCells p.body) p.body.length W') :=
      fun W' hb => Clone_byte A _ c w.heap.size _ W' (Sl.below hby hb) hb.size (oneCell_byteCells _) hnb
    have hc2 : ∀ W', Below w.heap.size w W' → Calls Tryz.prog 139 #[.slice A2 p.parts.length c2] W' (CloResPart rows.flatten p.parts.length W') :=
      fun W' hb => Clone_Part A2 _ c2 w.heap.size _ W' (Sl.below hrs hb) hb.size (PartsAt.one _ _ hrp) hnp
    have Hc1 := Lib.hid hc1
    have Hc2 := Lib.hid hc2
    have Hx1 := Lib.hid (show BoxF W.drew _ _ _ _ _ _ _ _ from hx1)
    have Hx2 := Lib.hid (show BoxF W.drew _ _ _ _ _ _ _ _ from hx2)
    have HsW := Lib.hid hsW
    have hszW : w.heap.size + 2 ≤ W.drew.heap.size := by show _ ≤ W.heap.size; omega
    have Hby := Lib.hid hby
    have Hrs := Lib.hid hrs
    have Hrp := Lib.hid hrp
    have Hih := Lib.hid ih
    have Hbod := Lib.hid hbod
    have Hbds := Lib.hid hbds
    clear hbds
    clear hc1 hc2 hsW hx2 hby hrs hrp ih hbod hp
    obtain ⟨⟨x0, x1, x2, x3, x4, x5, x6⟩, hf⟩ := hx1
    go_enter Tryz.func69, Tryz.ntmps69
    go_wp2_with fail
    rw [← hW]
    clear hW
    go_region_with (first
      | (go_at_call 67; refine (Hc1.out _ hbW.drew).mono ?_; rintro e w1 ⟨S1, d1, rfl, hown1, hb1⟩; have hbel1 := hbW.drew.trans (hb1.mono hbW.drew.size); have hB1 := hb1.mono hszW; obtain ⟨⟨y0, y1, y2, y3, y4, y5, y6⟩, yf⟩ := Hx1.out.below hB1 (by omega))
      | (go_at_call 139; refine (Hc2.out _ hbel1).mono ?_; rintro e w2 ⟨S2, d2, rfl, hown2, hb2⟩; have hbel2 := hbel1.trans (hb2.mono hbel1.size); have hB2 := hB1.trans (hb2.mono (Nat.le_trans hszW hb1.size)); obtain ⟨⟨z0, z1, z2, z3, z4, z5, z6⟩, zf⟩ := Hx1.out.below hB2 (by omega)))
    all_goals
      generalize hW3 : (w2.setCell ⟨w.heap.size, 5, none⟩ (Value.slice S1 p.body.length d1)).setCell ⟨w.heap.size, 6, none⟩ (Value.slice S2 p.parts.length d2) = w3
      have hsz3 : w3.heap.size = w2.heap.size := by rw [← hW3]; simp
      have hz1 := hb1.size
      have hz2 := hb2.size
      have hown2b := own_base hown2 (show w.heap.size + 2 ≤ _ by omega)
      have hlo2 : ∀ g, Value.ownBlock (.slice S2 p.parts.length d2) = some g → g < w3.heap.size := fun g hg => by rw [hsz3]; exact (hown2.lt g hg).2
      obtain ⟨lo2, hlo⟩ : ∃ lo2, lo2 = w3.heap.size := ⟨_, rfl⟩
      rw [← hlo] at hlo2
      have hrel0 : CopyRel2 p rows p.parts.length w.heap.size lo2 S1 S2 d1 d2 w (.int .i64 0) w3 := by
        have hne : Value.ownBlock (.slice S2 p.parts.length d2) ≠ some w.heap.size := fun e => by have := (hown2.lt _ e).1; have := hb1.size; omega
        refine ⟨0, [], rfl, Nat.zero_le _, rfl, ?_, ⟨rfl, by rw [hlo]; exact Nat.le_refl _⟩, by rw [hlo]; exact Nat.le_refl _, ?_, ?_, ?_, by omega⟩
        · rw [← hW3]
          exact own_setFar (own_setFar hown2b hne _) hne _
        · rw [← hW3]
          exact BoxF.set56 (Hx1.out.below hB2 (by omega)) _ _
        · rw [← hW3]
          exact ⟨_, _, _, _, _, _, _, ((Hx2.out.below hB2 (by omega)).setFar (by simp) _).setFar (by simp) _⟩
        · rw [← hW3]
          exact (hbel2.setCell (Nat.le_refl _) _).setCell (Nat.le_refl _) _
      have hloh : w.heap.size + 2 ≤ lo2 := by rw [hlo]; omega
      have Hlo2 := Lib.hid hlo2
      have hdd : p.body.length ≤ d1 ∧ d1 ≤ maxLen ∧ p.parts.length ≤ d2 ∧ d2 ≤ maxLen := ⟨own_cap hown1, own_capmax hown1, own_cap hown2, own_capmax hown2⟩
      have Hdd := Lib.hid hdd
      have Hrel0 := Lib.hid hrel0
      have hx6 : w3.cell? ⟨w.heap.size, 6, none⟩ = some (.slice S2 p.parts.length d2) := by
        obtain ⟨i, done, _, _, _, _, _, _, hbx, _⟩ := hrel0
        exact hbx.1.2.2.2.2.2.2
      clear hW3 hrel0 hdd hown1 hown2 hown2b hlo hlo2 hsz3 hz1 hz2 y0 y1 y2 y3 y4 y5 y6 yf z0 z1 z2 z3 z4 z5 z6 zf x0 x1 x2 x3 x4 x5 x6 hf
      clear hb1 hb2 hbel1 hbel2 hB1 hB2
      go_wp2_with fail
      go_loopw [16] (CopyRel2 p rows p.parts.length w.heap.size lo2 S1 S2 d1 d2 w) (fun iv _ => p.parts.length - (intOf iv).toNat)
      case atStart => exact Hrel0.out
      case round =>
        obtain ⟨i, done, rfl, hi, hdl, hown, hpd, hs1, hbx, hb1x, hbel, hsz⟩ := hrel
        have hgl2 := Hlo2.out
        by_cases hin : i < p.parts.length
        · obtain ⟨g, cap, hv, hgb, hgl⟩ := hown.form (by omega)
          injection hv with hS2 _ hcap
          subst hS2
          subst hcap
          obtain ⟨r, hr, hpr⟩ := PartsAt.get _ _ Hrp.out i hin
          have hri : i < rows.length := by rw [PartsAt.len _ _ Hrp.out]; exact hin
          have hrd : rows.drop i = r :: rows.drop (i + 1) := by
            rw [List.drop_eq_getElem_cons hri]
            rw [List.getElem?_eq_getElem hri] at hr
            injection hr with hr
            rw [hr]
          have hpd7 := TrsAt.rows7 _ _ _ _ hpd
          have hrw7 : ∀ x ∈ done ++ rows.drop i, x.length = 7 := by
            intro x hx
            rcases List.mem_append.1 hx with hx | hx
            · exact hpd7 x hx
            · exact PartsAt.rows _ _ Hrp.out x (List.mem_of_mem_drop hx)
          have hcell : ∀ k u, k < 7 → r[k]? = some u → wr.cell? ⟨g, i * 7 + k, none⟩ = some u := by
            intro k u hk hu
            rw [hown.cellAt _ (by omega), flat7_at _ hrw7 i k r ?_ hk]
            · exact hu
            · rw [List.getElem?_append_right (by omega), hdl, Nat.sub_self, hrd]; rfl
          generalize hq : p.parts[i] = q at hpr
          obtain ⟨A', c', A2', c2', rfl, _⟩ := hpr.open
          have q0 := hcell 0 _ (by omega) rfl
          have q1 := hcell 1 _ (by omega) rfl
          have q2 := hcell 2 _ (by omega) rfl
          have q3 := hcell 3 _ (by omega) rfl
          have q4 := hcell 4 _ (by omega) rfl
          have q5 := hcell 5 _ (by omega) rfl
          have q6 := hcell 6 _ (by omega) rfl
          simp only [Nat.add_zero] at q0
          obtain ⟨W5, hW5⟩ : ∃ W5, W5 = wr.alloc (.cells #[str q.type, str q.cs, str q.id, str q.loc, .int .i64 q.how, .slice A' q.body.length c', .slice A2' q.parts.length c2'] 25) := ⟨_, rfl⟩
          have hbA : Below wr.heap.size wr W5 := by rw [hW5]; exact (Below.refl _ wr).alloc (Nat.le_refl _) _
          have hbel5 : Below w.heap.size w W5 := hbel.trans (hbA.mono hbel.size)
          have hbx5 : BoxF W5 w.heap.size _ _ _ _ _ _ _ := hbx.below hbA (by omega)
          have hk5 : BoxF W5 wr.heap.size (str q.type) (str q.cs) (str q.id) (str q.loc) (.int .i64 q.how) (.slice A' q.body.length c') (.slice A2' q.parts.length c2') := by
            refine BoxF.of_block (t := 25) ?_
            rw [hW5]; exact heap_alloc_new wr _
          have hs5 : W5.heap.size = wr.heap.size + 1 := by rw [hW5]; simp
          have hr5 : Row7 W5.drew g (i * 7) (str q.type) (str q.cs) (str q.id) (str q.loc) (.int .i64 q.how) (.slice A' q.body.length c') (.slice A2' q.parts.length c2') := Row7.below (w := wr) ⟨q0, q1, q2, q3, q4, q5, q6⟩ hbA.drew hgl
          have Hr5 := Lib.hid hr5
          have hgl5 : g < W5.drew.heap.size := by show g < W5.heap.size; omega
          have Hbx5 := Lib.hid (show BoxF W5.drew _ _ _ _ _ _ _ _ from hbx5)
          have hh5 : w.heap.size < W5.drew.heap.size := by show w.heap.size < W5.heap.size; omega
          obtain ⟨⟨_, _, _, _, _, _, x6⟩, _⟩ := hbx5
          obtain ⟨⟨k0, k1, k2, k3, k4, k5, k6⟩, _⟩ := hk5
          have hflq : (flatD q).length ≤ k ∧ ∀ x ∈ flatD q, x.body.length ≤ 4000 := by
            have h1 := flatsD_get p.parts i hin
            rw [hq] at h1
            exact ⟨by omega, fun x hx => Hbod.out x (by rw [flatD_eq]; exact List.mem_cons_of_mem _ (h1.2 x hx))⟩
          have hcl := Hih.out q _ W5.drew hflq.1 (by omega) hflq.2 ((hpr.belowN (w' := W5.drew) hbel5.drew (Nat.le_refl _)).more hbel5.size)
          have hown5 := own_below hown hbA
          have Hcl := Lib.hid hcl
          have Hown := Lib.hid hown5
          have Hq := Lib.hid hq
          have Hpd := Lib.hid hpd
          have Hs1 := Lib.hid hs1
          have Hbx := Lib.hid hbx
          have Hb1x := Lib.hid hb1x
          have Hdl := Lib.hid hdl
          have Hs5 := Lib.hid hs5
          have Hrd := Lib.hid hrd
          have Hpd7 := Lib.hid hpd7
          have hin1 : (i : Int) < p.parts.length := by omega
          have hin0 : 0 ≤ (i : Int) := by omega
          clear hr5 hcl hown5 hown hq hpd hs1 hbx hb1x hdl hs5 hrd hrw7 hpd7 hcell hr hri hpr hflq
          go_wp2_with fail
          rw [← hW5]
          clear hW5 q0 q1 q2 q3 q4 q5 q6
          go_region_with (first
            | (go_at_call 69; refine Hcl.out.mono ?_; rintro e w6 ⟨v6, rfl, hpv, hb6⟩; obtain ⟨A6, d6, A7, d7, rows6, lo6, rfl, _⟩ := hpv.open; have hown6 := own_below (show World.ownsRow W5.drew _ _ _ _ _ _ from Hown.out) hb6; have f6 : ∀ j, w6.frozen? ⟨g, j, none⟩ = false := fun j => hown6.frozenAt j; obtain ⟨c0, c1, c2, c3, c4, c5, c6⟩ := Hr5.out.below hb6 hgl5; obtain ⟨⟨_, _, _, _, _, _, y6⟩, _⟩ := Hbx5.out.below hb6 hh5; have Hown6 := Lib.hid hown6; have Hpv := Lib.hid hpv; clear hown6 hpv))
          all_goals
            generalize hW7 : (((((((w6.setCell ⟨g, i * 7, none⟩ (str q.type)).setCell ⟨g, i * 7 + 1, none⟩ (str q.cs)).setCell ⟨g, i * 7 + 2, none⟩ (str q.id)).setCell ⟨g, i * 7 + 3, none⟩ (str q.loc)).setCell ⟨g, i * 7 + 4, none⟩ (.int .i64 q.how)).setCell ⟨g, i * 7 + 5, none⟩ (.slice A6 q.body.length d6)).setCell ⟨g, i * 7 + 6, none⟩ (.slice A7 q.parts.length d7)) = w7
            have HW7 := Lib.hid hW7
            clear hW7
            go_wp2_with fail
            refine ⟨?_, by simp [intOf]; omega⟩
            have hs5 := Hs5.out
            have hb65 : Below W5.heap.size W5 w6 := ⟨hb6.os, hb6.tape, hb6.output, hb6.size, hb6.block⟩
            have hgb6 : W5.heap.size ≤ w6.heap.size := hb65.size
            have hbr6 : Below wr.heap.size wr w6 := hbA.trans (hb65.mono hbA.size)
            have hd7 := Hpd7.out
            have hown7 := own_set7 (g := g) (i := i) (done := done) (rest := rows.drop (i + 1)) (by have := Hown6.out; rw [Hrd.out] at this; exact this) hd7 Hdl.out (str q.type) (str q.cs) (str q.id) (str q.loc) (.int .i64 q.how) (.slice A6 q.body.length d6) (.slice A7 q.parts.length d7)
            rw [HW7.out] at hown7
            have hsz7 : w7.heap.size = w6.heap.size := by rw [← HW7.out]; simp
            have far7 : ∀ a : Addr, a.block ≠ g → w7.cell? a = w6.cell? a := fun a ha => by rw [← HW7.out]; exact set7_far _ _ _ _ _ _ _ ha
            have hg2 : g < lo2 := Hlo2.out g rfl
            have hblk7 : ∀ b, b ≠ g → w7.heap[b]? = w6.heap[b]? := by
              intro b hb
              rw [← HW7.out]
              simp only [World.setCell, Array.getElem?_modify]
              simp [Ne.symm hb]
            have keep7 : ∀ b, lo2 ≤ b → b < wr.heap.size → w7.heap[b]? = wr.heap[b]? := fun b h1 h2 => (hblk7 b (by omega)).trans (hbr6.block b h2)
            refine ⟨i + 1, done ++ [[str q.type, str q.cs, str q.id, str q.loc, .int .i64 q.how, .slice A6 q.body.length d6, .slice A7 q.parts.length d7]], by go_num, by omega, by simp [Hdl.out], by rw [List.append_assoc]; exact hown7, ?_, by have := Hs1.out; omega, ?_, ?_, ?_, by omega⟩
            · have ht : p.parts.take (i + 1) = p.parts.take i ++ [q] := by rw [List.take_succ_eq_append_getElem hin, Hq.out]
              rw [ht]
              refine TrsAt.snoc _ _ _ _ _ _ _ _ (TrsAt.keep _ _ _ _ keep7 Hpd.out) (show wr.heap.size ≤ W5.heap.size by omega) (by omega) (TrAt.keep (w := w6) _ _ _ _ (fun b h1 h2 => ?_) (TrAt.wide _ _ _ _ W5.heap.size w7.heap.size (Nat.le_refl _) (by omega) Hpv.out))
              have h1' : W5.heap.size ≤ b := h1
              have := Hs1.out
              exact hblk7 b (by omega)
            · have h1 := Hbx5.out.below hb6 hh5
              rw [← HW7.out]
              exact ((((((h1.setFar (by simp; omega) _).setFar (by simp; omega) _).setFar (by simp; omega) _).setFar (by simp; omega) _).setFar (by simp; omega) _).setFar (by simp; omega) _).setFar (by simp; omega) _
            · obtain ⟨v0, v1, v2, v3, v4, v5, v6, hbr⟩ := Hb1x.out
              have h1 := hbr.below hbr6 (by omega)
              rw [← HW7.out]
              exact ⟨_, _, _, _, _, _, _, ((((((h1.setFar (by simp; omega) _).setFar (by simp; omega) _).setFar (by simp; omega) _).setFar (by simp; omega) _).setFar (by simp; omega) _).setFar (by simp; omega) _).setFar (by simp; omega) _⟩
            · rw [← HW7.out]
              exact set7_below (hbel5.trans (hb65.mono hbel5.size)) (by omega) _ _ _ _ _ _ _
        · obtain rfl : i = p.parts.length := by omega
          obtain ⟨⟨x0, x1, x2, x3, x4, x5, x6⟩, _⟩ := id hbx
          obtain ⟨r0, r1, r2, r3, r4, r5, r6, ⟨y0, y1, y2, y3, y4, y5, y6⟩, yf⟩ := hb1x
          have hdr : rows.drop p.parts.length = [] := List.drop_of_length_le (by rw [PartsAt.len _ _ Hrp.out]; exact Nat.le_refl _)
          rw [hdr, List.append_nil] at hown
          rw [List.take_length] at hpd
          have Hown := Lib.hid hown
          have Hpd := Lib.hid hpd
          have Hs1 := Lib.hid hs1
          have Hdl := Lib.hid hdl
          clear hown hpd hs1 hdl hdr hgl2
          go_wp2_with fail
          have hbx9 := BoxF.set7 (w := wr) (b := w.heap.size + 1) ⟨⟨y0, y1, y2, y3, y4, y5, y6⟩, yf⟩ (str p.type) (str p.cs) (str p.id) (str p.loc) (.int .i64 p.how) (.slice S1 p.body.length d1) (.slice S2 p.parts.length d2)
          have far9 : ∀ a : Addr, a.block ≠ w.heap.size + 1 → (((((((wr.setCell ⟨w.heap.size + 1, 0, none⟩ (str p.type)).setCell ⟨w.heap.size + 1, 1, none⟩ (str p.cs)).setCell ⟨w.heap.size + 1, 2, none⟩ (str p.id)).setCell ⟨w.heap.size + 1, 3, none⟩ (str p.loc)).setCell ⟨w.heap.size + 1, 4, none⟩ (.int .i64 p.how)).setCell ⟨w.heap.size + 1, 5, none⟩ (.slice S1 p.body.length d1)).setCell ⟨w.heap.size + 1, 6, none⟩ (.slice S2 p.parts.length d2)).cell? a = wr.cell? a := by
            intro a ha
            have h : ∀ (w' : World) k u, (w'.setCell ⟨w.heap.size + 1, k, none⟩ u).cell? a = w'.cell? a := fun w' k u => World.cell?_setCell_other _ _ _ _ (by rintro rfl; exact ha rfl)
            rw [h, h, h, h, h, h, h]
          have hbel9 : Below w.heap.size w (((((((wr.setCell ⟨w.heap.size + 1, 0, none⟩ (str p.type)).setCell ⟨w.heap.size + 1, 1, none⟩ (str p.cs)).setCell ⟨w.heap.size + 1, 2, none⟩ (str p.id)).setCell ⟨w.heap.size + 1, 3, none⟩ (str p.loc)).setCell ⟨w.heap.size + 1, 4, none⟩ (.int .i64 p.how)).setCell ⟨w.heap.size + 1, 5, none⟩ (.slice S1 p.body.length d1)).setCell ⟨w.heap.size + 1, 6, none⟩ (.slice S2 p.parts.length d2)) :=
            ((((((hbel.setCell (Nat.le_succ _) _).setCell (Nat.le_succ _) _).setCell (Nat.le_succ _) _).setCell (Nat.le_succ _) _).setCell (Nat.le_succ _) _).setCell (Nat.le_succ _) _).setCell (Nat.le_succ _) _
          have hsz9 : (((((((wr.setCell ⟨w.heap.size + 1, 0, none⟩ (str p.type)).setCell ⟨w.heap.size + 1, 1, none⟩ (str p.cs)).setCell ⟨w.heap.size + 1, 2, none⟩ (str p.id)).setCell ⟨w.heap.size + 1, 3, none⟩ (str p.loc)).setCell ⟨w.heap.size + 1, 4, none⟩ (.int .i64 p.how)).setCell ⟨w.heap.size + 1, 5, none⟩ (.slice S1 p.body.length d1)).setCell ⟨w.heap.size + 1, 6, none⟩ (.slice S2 p.parts.length d2)).heap.size = wr.heap.size := by simp
          have hblk9 : ∀ b, b ≠ w.heap.size + 1 → (((((((wr.setCell ⟨w.heap.size + 1, 0, none⟩ (str p.type)).setCell ⟨w.heap.size + 1, 1, none⟩ (str p.cs)).setCell ⟨w.heap.size + 1, 2, none⟩ (str p.id)).setCell ⟨w.heap.size + 1, 3, none⟩ (str p.loc)).setCell ⟨w.heap.size + 1, 4, none⟩ (.int .i64 p.how)).setCell ⟨w.heap.size + 1, 5, none⟩ (.slice S1 p.body.length d1)).setCell ⟨w.heap.size + 1, 6, none⟩ (.slice S2 p.parts.length d2)).heap[b]? = wr.heap[b]? := by
            intro b hb
            simp only [World.setCell, Array.getElem?_modify]
            simp [Ne.symm hb]
          have HB9 := Lib.hid hblk9
          clear hblk9
          generalize (((((((wr.setCell ⟨w.heap.size + 1, 0, none⟩ (str p.type)).setCell ⟨w.heap.size + 1, 1, none⟩ (str p.cs)).setCell ⟨w.heap.size + 1, 2, none⟩ (str p.id)).setCell ⟨w.heap.size + 1, 3, none⟩ (str p.loc)).setCell ⟨w.heap.size + 1, 4, none⟩ (.int .i64 p.how)).setCell ⟨w.heap.size + 1, 5, none⟩ (.slice S1 p.body.length d1)).setCell ⟨w.heap.size + 1, 6, none⟩ (.slice S2 p.parts.length d2)) = w9 at hbx9 far9 hbel9 hsz9 HB9 ⊢
          obtain ⟨c0, c1, c2, c3, c4, c5, c6⟩ := hbx9
          refine bodyPost_ret (v := .agg #[str p.type, str p.cs, str p.id, str p.loc, .int .i64 p.how, .slice S1 p.body.length d1, .slice S2 p.parts.length d2]) (by simp [results, Tryz.results69, go_sem, c0, c1, c2, c3, c4, c5, c6]) rfl ?_
          have hblk9 : ∀ b, b ≠ w.heap.size + 1 → w9.heap[b]? = wr.heap[b]? := HB9.out
          obtain ⟨hd1, hd2, hd3, hd4⟩ := Hdd.out
          refine ⟨_, rfl, ?_, hbel9⟩
          have hown9 := own_keep (w' := w9) Hown.out (fun g hg => hblk9 g (by have := (Hown.out.lt g hg).1; omega))
          have htr9 := TrsAt.keep (w' := w9) _ _ _ _ (fun b h1 h2 => hblk9 b (by omega)) Hpd.out
          have hbb := Hbds.out
          have hll := Hlo2.out
          have hle := Hs1.out
          obtain ⟨t, cs, id, loc, how, body, parts⟩ := p
          exact ⟨S1, d1, S2, d2, done, lo2, rfl, hbb, hd3, hd4, own_base hown9 (by omega), hll, by omega, by omega, by rw [hsz9]; exact htr9⟩
end Go.Proofs.YtlbdnohnngkapaaGreatDoor

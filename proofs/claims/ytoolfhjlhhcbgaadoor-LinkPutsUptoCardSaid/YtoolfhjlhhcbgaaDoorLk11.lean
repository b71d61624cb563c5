import Derived.Test.YtoolfhjlhhcbgaaDoorLk10
import Derived.Deep.Onto
namespace Go.Proofs.YtoolfhjlhhcbgaaDoor
open Go.RowKit
attribute [local go_sem high] cut_u8 mid_u8

def putE (l : List UInt8) (ts : List (List UInt8)) : List UInt8 × Nat := if 4000 < l.length then ([], 2) else putB l ts
def PutOut (T : List UInt8 × Nat) (w : World) (e : Ending) (w' : World) : Prop :=
  ∃ S c, e = .returned (.tuple #[.slice S T.1.length c, .int .i64 (T.2 : Nat)]) ∧ w'.ownsRow w.heap.size 5 1 (.slice S T.1.length c) T.1.length (Lib.byteCells T.1) ∧ Below w.heap.size w w'
def sumL (ts : List (List UInt8)) : Nat := (ts.map List.length).sum
theorem putE_none {l : List UInt8} {ts : List (List UInt8)} (h : (findE l).2 ≠ 0) : putE l ts = ([], 2) ∧ (findE l).2 = 2 := by
  unfold findE at h ⊢
  unfold putE
  split
  · exact ⟨rfl, rfl⟩
  · rename_i h4
    rw [if_neg h4] at h
    cases hf : findB l with
    | none => unfold putB; rw [hf]; exact ⟨rfl, rfl⟩
    | some ls => rw [hf] at h; exact absurd rfl h
theorem putE_some {l : List UInt8} {ts : List (List UInt8)} (h : (findE l).2 = 0) : findB l = some (findE l).1 ∧ l.length ≤ 4000 ∧ putE l ts = if ts.length ≠ (findE l).1.length then ([], 4) else if ts.any (fun t => t.any fun c => badPut c.toNat) then ([], 1) else if 4000 < (putL l 0 [] (findE l).1 ts).length then ([], 2) else (putL l 0 [] (findE l).1 ts, 0) := by
  unfold findE at h ⊢
  unfold putE
  split
  · rename_i h4; rw [if_pos h4] at h; cases h
  · rename_i h4
    rw [if_neg h4] at h
    cases hf : findB l with
    | none => rw [hf] at h; cases h
    | some ls => exact ⟨rfl, by omega, by unfold putB; rw [hf]; rfl⟩
theorem findB_len {l : List UInt8} {ls : List LinkD} (h : findB l = some ls) : ls.length ≤ 60 := by
  rw [findB_eq] at h
  split at h
  · cases h
  · have h := Option.some.inj h
    rw [← h, links_len]
    omega
def PutRel (w w1 : World) (n m : Nat) (l : List UInt8) (ls : List LinkD) (ts : List (List UInt8)) (T : Nat) (R : List UInt8) (ov av iv : Value) (wr : World) : Prop :=
  ∃ (i at_ no co : Nat) (So : Option Addr) (out : List UInt8), ov = .slice So no co ∧ av = .int .i64 (at_ : Nat) ∧ iv = .int .i64 (i : Nat) ∧ i ≤ m ∧ no = out.length ∧ wr.ownsRow w1.heap.size 5 1 (.slice So no co) no (Lib.byteCells out) ∧
    Below w1.heap.size w1 wr ∧ LOk at_ n (ls.drop i) ∧ Hid (putL l at_ out (ls.drop i) (ts.drop i) = R) ∧ Hid ((ts.take i).any (fun t => t.any fun c => badPut c.toNat) = false) ∧ no + sumL (ts.drop i) ≤ at_ + T
set_option maxRecDepth 100000 in
set_option maxHeartbeats 1000000 in
theorem Put_any (A TA : Option Addr) (n c tn tc : Nat) (l : List UInt8) (ts : List (List UInt8)) (w : World) (hM : MaxLenOk w) (hb : By w w.heap.size A n l) (hc : n ≤ c) (hcm : c ≤ maxLen) (hts : Sl w w.heap.size 1 TA tn (ts.map str)) (hT : sumL ts ≤ 1000000000000) :
    Calls Tryd.prog 34 #[.slice A n c, .slice TA tn tc] w (PutOut (putE l ts) w) := by
  obtain ⟨i0, hi0, hz0, hz1, hz2⟩ := info_parts infoByte
  have Hi0 := Lib.hid hi0
  clear hi0
  have hnl := hb.len
  have htn : ts.length = tn := by have := hts.1; simpa using this
  have hfind := Find_any A n c l w hM hb hc hcm
  have he0 := fun h => (putE_none (l := l) (ts := ts) h)
  have he1 := fun h => (putE_some (l := l) (ts := ts) h)
  unfold FindOut at hfind
  generalize findE l = F at hfind he0 he1
  obtain ⟨ls, fe⟩ := F
  simp only at hfind he0 he1
  by_cases hfe : fe = 0
  · subst hfe
    obtain ⟨e1, e2, e3⟩ := he1 rfl
    have hok := LOk.find e1
    have hm60 := findB_len e1
    have Hfind := Lib.hid hfind
    clear he0 he1 hfind
    obtain ⟨m, hm⟩ : ∃ m, m = ls.length := ⟨_, rfl⟩
    rw [← hm] at e3 hm60
    have Hm := Lib.hid hm
    have Htn := Lib.hid htn
    rw [htn] at e3
    by_cases hlen : tn = m
    · have hne : ((tn : Int) != (m : Int)) = false := by simp; omega
      rw [if_neg (by omega)] at e3
      obtain ⟨R, hR⟩ : ∃ R, R = putL l 0 [] ls ts := ⟨_, rfl⟩
      obtain ⟨bad, hbad⟩ : ∃ bad, bad = ts.any (fun t => t.any fun c => badPut c.toNat) := ⟨_, rfl⟩
      rw [← hR, ← hbad] at e3
      have hn4 : n ≤ 4000 := by omega
      rw [hnl] at hok
      have Hnl := Lib.hid hnl
      have HR := Lib.hid hR
      have Hbad := Lib.hid hbad
      have Hlen := Lib.hid hlen
      have E3 := Lib.hid e3
      clear hR hbad hlen e1 e2 e3 hm htn hnl
      go_enter Tryd.func34, Tryd.ntmps34
      go_wp2_with fail
      refine Hfind.out.mono ?_
      rw [← Hm.out]
      rintro e w1 ⟨S, cS, rfl, hown1, hb1⟩
      have hsz1 := hb1.size
      have hbP := hb.below hb1
      have htP := hts.below hb1
      have hsl := Sl.of_own hown1
      have hcap := own_cap hown1
      clear hown1 Hfind hb hts
      go_wp2_with fail
      go_loopw [8, 9, 27] (PutRel w w1 n m l ls ts (sumL ts) R) (fun _ _ iv _ => m - (intOf iv).toNat)
      case atStart => exact ⟨0, 0, 0, 0, none, [], rfl, rfl, rfl, Nat.zero_le _, rfl, World.ownsRow_nil _ _ _ _, Below.refl _ _, hok, HR.out.symm, rfl, by simp⟩
      case round =>
        obtain ⟨i, at_, no, co, So, out, rfl, rfl, rfl, hi, hno, hrow, hbel, hok, hE, hz, hT2⟩ := hrel
        have hsz := hbel.size
        by_cases hin : i < m
        · obtain ⟨b, off, x, rfl, hbS, hdx, x0, x1, x2⟩ := (hsl.belowN hbel (Nat.le_refl _)).link i hin
          obtain ⟨tb, toff, u, rfl, htb, hu, htc⟩ := (htP.belowN hbel hsz1).at_ (k := i) (by have := Hlen.out; omega)
          have hil : i < ts.length := by have := Htn.out; have := Hlen.out; omega
          have hdt := List.drop_eq_getElem_cons hil
          obtain ⟨t, ht⟩ : ∃ t, t = ts[i] := ⟨_, rfl⟩
          rw [← ht] at hdt
          have hut : u = str t := by
            rw [List.getElem?_map, List.getElem?_eq_getElem hil, ← ht] at hu
            simpa using hu.symm
          subst hut
          rw [hdx] at hok
          obtain ⟨o1, o2, o3⟩ := hok
          have o4 := o3.le
          have o5 : x.frm ≤ n := Nat.le_trans o2 o4
          have hE' : Hid (putL l at_ out (x :: ls.drop (i + 1)) (t :: ts.drop (i + 1)) = R) := by show _ = _; rw [← hdx, ← hdt]; exact hE.out
          have hT3 : no + (t.length + sumL (ts.drop (i + 1))) ≤ at_ + sumL ts := by rw [hdt] at hT2; simpa [sumL] using hT2
          have hzt : Hid ((ts.take (i + 1)).any (fun t => t.any fun c => badPut c.toNat) = (t.any fun c => badPut c.toNat)) := by
            show _ = _
            rw [List.take_add_one, List.getElem?_eq_getElem hil, ← ht, List.any_append, hz.out]
            simp
          have Ht := Lib.hid ht
          have Hno := Lib.hid hno
          have Hdt := Lib.hid hdt
          clear hu ht hdt hdx hE hT2 hno
          have htn2 : i < tn := by have := Hlen.out; omega
          obtain ⟨W, hW⟩ : ∃ W, W = wr.alloc (.cells #[.int .i64 (x.frm : Nat), .int .i64 (x.til : Nat), str x.text] 54) := ⟨_, rfl⟩
          have htcW := (World.cell?_alloc_lt wr (.cells #[.int .i64 (x.frm : Nat), .int .i64 (x.til : Nat), str x.text] 54) ⟨tb, toff + i, none⟩ (by show tb < _; omega)).trans htc
          have hbW : Below wr.heap.size wr W := by rw [hW]; exact (Below.refl _ wr).alloc (Nat.le_refl _) _
          have hbelW := hbel.trans (hbW.mono hsz)
          have hrowW := own_below hrow hbW
          have hxb : W.heap[wr.heap.size]? = some (.cells #[.int .i64 (x.frm : Nat), .int .i64 (x.til : Nat), str x.text] 54) := by rw [hW]; exact heap_alloc_new wr _
          by_cases ht0 : t = []
          · have b0 : (t == ([] : List UInt8)) = true := by rw [ht0]; rfl
            have Ht0 := Lib.hid ht0
            clear ht0
            go_wp2_with fail
            rw [← hW]
            refine ⟨⟨i + 1, at_, no, co, So, out, rfl, rfl, by go_num, by omega, Hno.out, hrowW, hbelW, ?_, ?_, ?_, by omega⟩, by simp [intOf]; omega⟩
            · cases hlsd : ls.drop (i + 1) with
              | nil => rw [hlsd] at o3; exact Nat.le_trans o1 (Nat.le_trans o2 o3)
              | cons y l' => rw [hlsd] at o3; exact ⟨by have := o3.1; omega, o3.2.1, o3.2.2⟩
            · show _ = R
              rw [← hE'.out, putL, if_pos Ht0.out]
            · show _ = _
              rw [hzt.out, Ht0.out]; rfl
          · have b0 : (t == ([] : List UInt8)) = false := by simpa using ht0
            have Ht0 := Lib.hid ht0
            have hcp := containsPut_any t W
            clear ht0
            by_cases hbt : (t.any fun c => badPut c.toNat) = true
            · rw [hbt] at hcp
              have Hcp := Lib.hid hcp
              have hbb : bad = true := by
                rw [Hbad.out, List.any_eq_true]
                exact ⟨t, by rw [Ht.out]; exact List.getElem_mem hil, hbt⟩
              have Hbb := Lib.hid hbb
              clear hcp hbt hbb
              go_wp2_with fail
              rw [← hW]
              refine Hcp.out.mono ?_
              rintro e w3 ⟨rfl, hb3⟩
              go_wp2_with fail
              go_ret2
              rw [E3.out, Hbb.out]
              exact ⟨none, 0, rfl, World.ownsRow_nil _ _ _ _, hb1.trans ((hbelW.trans (hb3.mono hbelW.size)).mono hsz1)⟩
            · have hbf : (t.any fun c => badPut c.toNat) = false := by simpa using hbt
              rw [hbf] at hcp hzt
              have Hcp := Lib.hid hcp
              clear hcp hbt hbf
              go_wp2_with fail
              rw [← hW]
              refine Hcp.out.mono ?_
              rintro e w3 ⟨rfl, hb3⟩
              have hbel3 := hbelW.trans (hb3.mono hbelW.size)
              have hrow3 := own_below hrowW hb3
              have hxb3 := (hb3.block wr.heap.size (by rw [hW]; simp)).trans hxb
              have z0 : w3.cell? ⟨wr.heap.size, 0, none⟩ = some (.int .i64 (x.frm : Nat)) := by rw [Go.Joins.cell_of_block hxb3]; rfl
              have z1 : w3.cell? ⟨wr.heap.size, 1, none⟩ = some (.int .i64 (x.til : Nat)) := by rw [Go.Joins.cell_of_block hxb3]; rfl
              obtain ⟨xb, hxbE⟩ : ∃ xb, xb = wr.heap.size := ⟨_, rfl⟩
              have hxlt : xb < w3.heap.size := by rw [hxbE]; exact Nat.lt_of_lt_of_le (by rw [hW]; simp) hb3.size
              rw [← hxbE] at z0 z1 ⊢
              have HxbE := Lib.hid hxbE
              clear hxbE
              have htW : W.cell? ⟨tb, toff + i, none⟩ = some (str t) := by rw [hW]; exact htcW
              have htc3 := (hb3.cell (p := ⟨tb, toff + i, none⟩) (by show tb < _; rw [hW]; simp; omega)).trans htW
              clear htW htcW htc x0 x1 x2
              have hbP3 : By w3 w.heap.size A n l := hbP.belowN hbel3 hsz1
              have hmid : By w3 w.heap.size (cutA A c at_ 1) (x.frm - at_) ((l.take x.frm).drop at_) := by
                have h1 := (hbP3.cut (k := at_) (by omega) hc).upto (k := x.frm - at_) (by omega)
                rw [← List.drop_take] at h1
                exact h1
              have hmn : no ≤ at_ + sumL ts := by omega
              have h63 : no + (x.frm - at_) ≤ maxLen := by unfold maxLen; omega
              have h47 : (no + (x.frm - at_)) * 1 ≤ 140737488355328 := by omega
              have hbase3 : w1.heap.size ≤ w3.heap.size := hbel3.size
              have hS3 : w3.drew.cell? ⟨xb, 0, none⟩ = some (.int .i64 (x.frm : Nat)) ∧ w3.drew.cell? ⟨tb, toff + i, none⟩ = some (str t) := ⟨z0, htc3⟩
              have hone := oneCell_byteCells ((l.take x.frm).drop at_)
              have hxo : (Value.slice So no co).ownBlock ≠ some xb := by
                intro e
                have := (hrow.lt _ e)
                have := HxbE.out
                omega
              go_wp2_with fail
              refine wp_region_held (S := fun W' => W'.cell? ⟨xb, 0, none⟩ = some (.int .i64 (x.frm : Nat)) ∧ W'.cell? ⟨tb, toff + i, none⟩ = some (str t)) (by kernel_rfl) ?_
              change wpAnyH _ _ _ _ _ _ _ _ (World.drew w3)
              refine wpAnyH_take (i := 0) (v := ?_) rfl (by kernel_rfl) (by kernel_rfl) (by kernel_rfl) (fun _ _ _ h => h) (Or.inl ⟨by kernel_rfl, ?_⟩) hS3 ?_
              rotate_left 1
              · rintro W' ⟨q0, q1⟩; go_simp; try exact rfl
              refine wpAnyH_take (i := 1) (v := ?_) rfl (by kernel_rfl) (by kernel_rfl) (by kernel_rfl) (fun _ _ _ h => h) (Or.inl ⟨by kernel_rfl, ?_⟩) hS3 ?_
              rotate_left 1
              · rintro W' ⟨q0, q1⟩; go_simp; try exact rfl
              refine wpAnyH_take (i := 2) (v := ?_) rfl (by kernel_rfl) (by kernel_rfl) (by kernel_rfl) (fun _ _ _ h => h) (Or.inl ⟨by kernel_rfl, ?_⟩) hS3 ?_
              rotate_left 1
              · rintro W' ⟨q0, q1⟩; go_simp; try exact rfl
              refine wpAnyH_take (i := 3) (v := ?_) rfl (by kernel_rfl) (by kernel_rfl) (by kernel_rfl) (fun _ _ _ h => h) (Or.inl ⟨by kernel_rfl, ?_⟩) hS3 ?_
              rotate_left 1
              · rintro W' ⟨q0, q1⟩; go_simp; try exact rfl
              refine wpAnyH_take (i := 4) (v := ?_) rfl (by kernel_rfl) (by kernel_rfl) (by kernel_rfl) (fun _ _ _ h => h) (Or.inl ⟨by kernel_rfl, ?_⟩) hS3 ?_
              rotate_left 1
              · rintro W' ⟨q0, q1⟩; go_simp; try exact rfl
              refine wpAnyH_take (i := 5) (v := ?_) rfl (by kernel_rfl) (by kernel_rfl) (by kernel_rfl) (fun _ _ _ h => h) (Or.inl ⟨by kernel_rfl, ?_⟩) hS3 ?_
              rotate_left 1
              · rintro W' ⟨q0, q1⟩; go_simp; try exact rfl
              refine wpAnyH_take (i := 7) (v := ?_) rfl (by kernel_rfl) (by kernel_rfl) (by kernel_rfl) (fun _ _ _ h => h) (Or.inl ⟨by kernel_rfl, ?_⟩) hS3 ?_
              rotate_left 1
              · rintro W' ⟨q0, q1⟩; go_simp; try exact rfl
              refine wpAnyH_take (i := 8) (v := ?_) rfl (by kernel_rfl) (by kernel_rfl) (by kernel_rfl) (fun _ _ _ h => h) (Or.inl ⟨by kernel_rfl, ?_⟩) hS3 ?_
              rotate_left 1
              · rintro W' ⟨q0, q1⟩; go_simp; try exact rfl
              refine wpAnyH_take (i := 9) (v := ?_) rfl (by kernel_rfl) (by kernel_rfl) (by kernel_rfl) (fun _ _ _ h => h) (Or.inl ⟨by kernel_rfl, ?_⟩) hS3 ?_
              rotate_left 1
              · rintro W' ⟨q0, q1⟩; go_simp; try exact rfl
              refine wpAnyH_take (i := 10) (v := ?_) rfl (by kernel_rfl) (by kernel_rfl) (by kernel_rfl) (fun _ _ _ h => h) (Or.inl ⟨by kernel_rfl, ?_⟩) hS3 ?_
              rotate_left 1
              · rintro W' ⟨q0, q1⟩; go_simp; try exact rfl
              refine wpAnyH_all (rs := [6]) (by kernel_rfl) (by simp) ?_
              intro k hk
              simp only [List.mem_singleton] at hk
              subst hk
              go_simp
              refine wpOp_app rfl rfl _ _ 22 rfl w1.heap.size 5 i0 _ 1 1 Tryd.underlying22 Hi0.out hz0 hz1 hz2 rfl (by decide) So no co (Lib.byteCells out) (by rfl) hrow3 _ (cutA A c at_ 1) (x.frm - at_) (c - at_) (Lib.byteCells ((l.take x.frm).drop at_)) (by rfl) hmid hone h63 h47 hbase3 ?_
              intro S4 c4 w4 hown4 hb4 hg4
              have hS4 : w4.cell? ⟨xb, 0, none⟩ = some (.int .i64 (x.frm : Nat)) ∧ w4.cell? ⟨tb, toff + i, none⟩ = some (str t) :=
                ⟨(World.cell?_of_block (hg4.block xb hxlt (fun e => hxo e.symm))).trans z0, (hb4.cell (p := ⟨tb, toff + i, none⟩) (by show tb < _; omega)).trans htc3⟩
              have z14 : w4.cell? ⟨xb, 1, none⟩ = some (.int .i64 (x.til : Nat)) := (World.cell?_of_block (hg4.block xb hxlt (fun e => hxo e.symm))).trans z1
              refine ⟨hS4, ?_⟩
              have hxo4 : (Value.slice S4 (no + (x.frm - at_)) c4).ownBlock ≠ some xb := by
                intro e
                rcases hown4.2 with ⟨hv, _⟩ | ⟨g, cap, cur, hv, _, hg, _⟩
                · rw [hv] at e; cases e
                · rw [hv] at e
                  injection e with e
                  simp only at e
                  subst e
                  have h5 : w4.heap[g]? = w3.heap[g]? := hg4.block g hxlt (fun e => hxo e.symm)
                  have h6 : w3.heap[g]? = some (.cells #[.int .i64 (x.frm : Nat), .int .i64 (x.til : Nat), str x.text] 54) := by rw [HxbE.out]; exact hxb3
                  rw [h5, h6] at hg
                  injection hg with hg
                  injection hg with _ hg _
                  exact absurd hg (by decide)
              have h63b : no + (x.frm - at_) + t.length ≤ maxLen := by unfold maxLen; omega
              have h47b : no + (x.frm - at_) + t.length ≤ 140737488355328 := by omega
              refine wpAnyH_all (rs := [11]) (by kernel_rfl) (by simp) ?_
              intro k hk
              simp only [List.mem_singleton] at hk
              subst hk
              go_simp
              refine wpOp_appStr rfl rfl _ _ 22 9 rfl w1.heap.size 5 i0 Tryd.underlying22 Tryd.underlying9 Hi0.out hz0 hz1 hz2 S4 (no + (x.frm - at_)) c4 _ (by rfl) hown4 t (by rfl) h63b h47b (Nat.le_trans hbase3 hb4.size) ?_
              intro S5 c5 w5 hown5 hb5 hg5
              have hS5 : w5.cell? ⟨xb, 0, none⟩ = some (.int .i64 (x.frm : Nat)) ∧ w5.cell? ⟨tb, toff + i, none⟩ = some (str t) :=
                ⟨(World.cell?_of_block (hg5.block xb (Nat.lt_of_lt_of_le hxlt hg4.size) (fun e => hxo4 e.symm))).trans hS4.1, (hb5.cell (p := ⟨tb, toff + i, none⟩) (by show tb < _; omega)).trans hS4.2⟩
              have z15 : w5.cell? ⟨xb, 1, none⟩ = some (.int .i64 (x.til : Nat)) := (World.cell?_of_block (hg5.block xb (Nat.lt_of_lt_of_le hxlt hg4.size) (fun e => hxo4 e.symm))).trans z14
              refine ⟨hS5, ?_⟩
              refine wpAnyH_all (rs := [12]) (by kernel_rfl) (by simp) ?_
              intro k hk
              simp only [List.mem_singleton] at hk
              subst hk
              go_simp
              refine wpOp_val rfl rfl (.slice S5 (no + (x.frm - at_) + t.length) c5) (by rfl) ?_
              refine ⟨hS5, ?_⟩
              refine wpAnyH_done (by kernel_rfl) ?_ _
              have hbel5 : Below w1.heap.size w1 w5 := (hbel3.trans ((Below.drew (Below.refl _ w3)).trans hb4)).trans hb5
              rw [← byteCells_append, ← byteCells_append] at hown5
              have Hown5 := Lib.hid hown5
              clear hown5 hown4 hg4 hg5 hb4 hb5 hS4 hS5 z14 z0 z1 htc3 hS3 hmid
              go_wp2_with fail
              refine ⟨⟨i + 1, x.til, no + (x.frm - at_) + t.length, c5, S5, out ++ (l.take x.frm).drop at_ ++ t, rfl, rfl, by go_num, by omega, ?_, Hown5.out, hbel5, o3, ?_, hzt, by omega⟩, by simp [intOf]; omega⟩
              · have hlx : ((l.take x.frm).drop at_).length = x.frm - at_ := by
                  rw [List.length_drop, List.length_take, Nat.min_eq_left (by have := Hnl.out; omega)]
                rw [List.length_append, List.length_append, hlx, Hno.out]
              · show _ = R
                rw [← hE'.out, putL, if_neg Ht0.out]
        · obtain rfl : i = m := by omega
          have hE2 : out ++ l.drop at_ = R := by
            have h := hE.out
            rw [List.drop_of_length_le (by have := Hm.out; omega), List.drop_of_length_le (by have := Htn.out; have := Hlen.out; omega)] at h
            rw [← h]
            rfl
          have hb0 : bad = false := by
            rw [Hbad.out]
            have h := hz.out
            rw [List.take_of_length_le (by have := Htn.out; have := Hlen.out; omega)] at h
            exact h
          have hat : at_ ≤ n := hok.le
          have hbPr := hbP.belowN hbel hsz1
          have hcutr : By wr w.heap.size (cutA A c at_ 1) (n - at_) (l.drop at_) := hbPr.cut hat hc
          have hoR : no + (n - at_) = R.length := by rw [← hE2, List.length_append, List.length_drop, ← hno]; have := Hnl.out; omega
          have hmn : no ≤ at_ + sumL ts := by omega
          have h63 : no + (n - at_) ≤ maxLen := by unfold maxLen; omega
          have h47 : (no + (n - at_)) * 1 ≤ 140737488355328 := by omega
          have hone := oneCell_byteCells (l.drop at_)
          have HoR := Lib.hid hoR
          have HE2 := Lib.hid hE2
          have Hb0 := Lib.hid hb0
          clear hE2 hb0 hoR hno
          go_wp2_with (at_builtin; refine wpList_app rfl _ _ 22 rfl w1.heap.size 5 i0 _ 1 1 Tryd.underlying22 Hi0.out hz0 hz1 hz2 rfl (by decide) So no co (Lib.byteCells out) rfl hrow _ (cutA A c at_ 1) (n - at_) (c - at_) (Lib.byteCells (l.drop at_)) rfl hcutr hone h63 h47 hsz ?_)
          intro S5 c5 w5 hown5 hb5 hg5
          rw [← byteCells_append, HE2.out] at hown5
          have hbel5 : Below w.heap.size w w5 := hb1.trans ((hbel.trans hb5).mono hsz1)
          have Hown5 := Lib.hid hown5
          clear hown5 hg5 hb5
          by_cases h4 : 4000 < no + (n - at_)
          · go_wp2_with fail
            go_ret2
            rw [E3.out, Hb0.out, if_neg (by simp), if_pos (by rw [← HoR.out]; exact h4)]
            exact ⟨none, 0, rfl, World.ownsRow_nil _ _ _ _, hbel5⟩
          · go_wp2_with fail
            go_ret2
            rw [E3.out, Hb0.out, if_neg (by simp), if_neg (by rw [← HoR.out]; exact h4)]
            have h := Hown5.out.mono (base' := w.heap.size) hsz1
            rw [HoR.out] at h
            exact ⟨S5, c5, by rw [← HoR.out]; rfl, h, hbel5⟩
    · have hne : ((tn : Int) != (m : Int)) = true := by simp; omega
      have hR : putE l ts = ([], 4) := by rw [e3, if_pos hlen]
      rw [hR]
      clear hR e3 e1 hlen hm htn
      go_enter Tryd.func34, Tryd.ntmps34
      go_wp2_with fail
      refine Hfind.out.mono ?_
      rw [← Hm.out]
      rintro e w1 ⟨S, cS, rfl, hown1, hb1⟩
      go_wp2_with fail
      go_ret2
      exact ⟨none, 0, rfl, World.ownsRow_nil _ _ _ _, hb1⟩
  · obtain ⟨hR, rfl⟩ := he0 hfe
    rw [hR]
    have Hfind := Lib.hid hfind
    clear hR he0 he1 hfe hfind hnl htn
    go_enter Tryd.func34, Tryd.ntmps34
    go_wp2_with fail
    refine Hfind.out.mono ?_
    rintro e w1 ⟨S, cS, rfl, hown1, hb1⟩
    go_wp2_with fail
    go_ret2
    exact ⟨none, 0, rfl, World.ownsRow_nil _ _ _ _, hb1⟩
end Go.Proofs.YtoolfhjlhhcbgaaDoor

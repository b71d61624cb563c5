import Derived.Test.YtacecobfhaihhaaDoorU5
import Derived.Test.YtacecobfhaihhaaDoorU6
import Derived.Test.YtacecobfhaihhaaDoorU9
namespace Go.Proofs.YtacecobfhaihhaaDoor
open Go.RowKit

/-! ### The document's PutIn -/
theorem run_toBytesA {P : Program} (w : World) (src dst e : TypeId) (l : List UInt8) (hs : P.underlying src = some .string) (hd : P.underlying dst = some (.slice e)) (he : P.underlying e = some (.int .u8)) :
    ∃ c w', (convert src dst (str l)).run P w = .ok (.slice (some ⟨w.heap.size, 0, none⟩) l.length c) w' ∧ By w' w'.heap.size (some ⟨w.heap.size, 0, none⟩) l.length l ∧ Below w.heap.size w w' := by
  refine ⟨_, _, run_bytes_of_string w src dst e ⟨l.toArray⟩ hs hd he, ?_, ?_⟩
  · refine Sl.of_block (g := w.heap.size) (heap_alloc_new w.drew _) (by simp [Lib.byteCells]) fun j u hu => ?_
    rw [Nat.zero_add]
    have hj : j < l.length := by
      rcases Nat.lt_or_ge j l.length with h | h
      · exact h
      · simp [Lib.byteCells, List.getElem?_eq_none h] at hu
    rw [bytesRow_at ⟨l.toArray⟩ _ j (by simpa using hj)]
    simp [Lib.byteCells, hj] at hu
    simpa using hu
  · exact (Below.drew (Below.refl _ w)).alloc (Nat.le_refl _) _
theorem okB_bad : ∀ b : Fin 256, okB 33 126 [34, 39, 60, 62, 38, 61] b.val = !(badPut b.val) := by decide +kernel
theorem between_put (t : List UInt8) : t.all (fun b => okB 33 126 [34, 39, 60, 62, 38, 61] b.toNat) = !(t.any fun c => badPut c.toNat) := by
  rw [List.all_eq_not_any_not]
  congr 2
  funext b
  rw [okB_bad ⟨b.toNat, b.toNat_lt⟩, Bool.not_not]
theorem repL_pos (b : List UInt8) (hb : b ≠ []) : ∀ (ls : List LinkD) (ts : List (List UInt8)), repL b ls ts ≠ []
  | [], _ => by rw [repL]; exact hb
  | _ :: _, [] => by rw [repL]; exact hb
  | x :: ls, t :: ts => by
    rw [repL]
    unfold repB
    split
    · exact repL_pos b hb ls ts
    · rename_i ht
      intro h
      have h1 := congrArg List.length h
      rw [List.length_append, List.length_append, List.length_nil] at h1
      have h2 : t.length = 0 := by omega
      exact ht (List.eq_nil_of_length_eq_zero h2)
def TxRel (w2 : World) (tn : Nat) (ts : List (List UInt8)) (iv : Value) (wr : World) : Prop :=
  ∃ i : Nat, iv = .int .i64 (i : Nat) ∧ i ≤ tn ∧ wr = w2 ∧ Hid ((ts.take i).any (fun t => t.any fun c => badPut c.toNat) = false)
def DnRel (w1 : World) (m : Nat) (l : List UInt8) (ls : List LinkD) (ts : List (List UInt8)) (ov sv : Value) (wr : World) : Prop :=
  ∃ (k no co : Nat) (So : Option Addr) (out : List UInt8), sv = .int .i64 ((k : Int) - 1) ∧ k ≤ m ∧ ov = .slice So no co ∧ Hid (no = out.length) ∧ wr.ownsRow w1.heap.size 5 1 (.slice So no co) no (Lib.byteCells out) ∧ Below w1.heap.size w1 wr ∧
    Hid (out = repL l (ls.drop k) (ts.drop k))
set_option maxRecDepth 100000 in
set_option maxHeartbeats 20000000 in
theorem PutIn_any (A TA : Option Addr) (n c tn tc : Nat) (l : List UInt8) (ts : List (List UInt8)) (w : World) (hM : MaxLenOk w) (hb : By w w.heap.size A n l) (h4 : n ≤ 4000) (hts : Sl w w.heap.size 1 TA tn (ts.map str)) (hT : sumL ts ≤ 1000000000000) :
    Calls Tryd.prog 9 #[.slice A n c, .slice TA tn tc] w (PutOut (putE l ts) w) := by
  obtain ⟨i0, hi0, hz0, hz1, hz2⟩ := info_parts infoByte
  have Hi0 := Lib.hid hi0
  clear hi0
  have hnl := hb.len
  have htn : ts.length = tn := by have := hts.1; simpa using this
  have hfind := LinksOf_any A n c l w hM hb h4
  have he0 := fun h => (putE_none (l := l) (ts := ts) h)
  have he1 := fun h => (putE_some (l := l) (ts := ts) h)
  unfold FindOut at hfind
  generalize findE l = F at hfind he0 he1
  obtain ⟨ls, fe⟩ := F
  simp only at hfind he0 he1
  by_cases hfe : fe = 0
  · subst hfe
    obtain ⟨e1, e2, e3⟩ := he1 rfl
    have hok := LOk.find e1
    have hm60 := findB_len e1
    have Hfind := Lib.hid hfind
    clear he0 he1 hfind
    obtain ⟨m, hm⟩ : ∃ m, m = ls.length := ⟨_, rfl⟩
    rw [← hm] at e3 hm60
    have Hm := Lib.hid hm
    have Htn := Lib.hid htn
    rw [htn] at e3
    by_cases hlen : tn = m
    · have hne : ((m : Int) != (tn : Int)) = false := by simp; omega
      rw [if_neg (by omega), put_repL e1 ts (by omega)] at e3
      obtain ⟨R, hR⟩ : ∃ R, R = repL l ls ts := ⟨_, rfl⟩
      obtain ⟨bad, hbad⟩ : ∃ bad, bad = ts.any (fun t => t.any fun c => badPut c.toNat) := ⟨_, rfl⟩
      rw [← hR, ← hbad] at e3
      have hpos : 0 < m → l ≠ [] := by
        intro h0 hl0
        subst hl0
        have : findB [] = some [] := rfl
        rw [this] at e1
        have e1 := Option.some.inj e1
        rw [hm, ← e1] at h0
        simp at h0
      have htl : ∀ t ∈ ts, t.length ≤ 1000000000000 := by
        intro t ht
        obtain ⟨j, hj, rfl⟩ := List.getElem_of_mem ht
        have h1 : sumL ts = sumL (ts.take j) + (ts[j].length + sumL (ts.drop (j + 1))) := by
          conv => lhs; rw [← List.take_append_drop j ts, List.drop_eq_getElem_cons hj]
          unfold sumL
          rw [List.map_append, List.sum_append, List.map_cons, List.sum_cons]
        omega
      have htn60 : tn ≤ 60 := by omega
      have HT := Lib.hid hT
      have Hnl := Lib.hid hnl
      have HR := Lib.hid hR
      have Hbad := Lib.hid hbad
      have Hlen := Lib.hid hlen
      have E3 := Lib.hid e3
      have E1 := Lib.hid e1
      have Hok := Lib.hid hok
      have Hpos := Lib.hid hpos
      have Htl := Lib.hid htl
      have HM := Lib.hid hM
      have Hts := Lib.hid hts
      have Hb := Lib.hid hb
      clear hR hbad hlen e1 e2 e3 hm htn hnl hok hpos htl hT hM hts hb
      go_enter Tryd.func9, Tryd.ntmps9
      go_wp2_with fail
      refine Hfind.out.mono ?_
      rw [← Hm.out]
      rintro e w1 ⟨S, cS, rfl, hown1, hb1⟩
      have hsz1 := hb1.size
      have Hb1 := Lib.hid hb1
      have hsl := Sl.of_own hown1
      have Hsl := Lib.hid hsl
      have hone := oneCell_byteCells l
      have h63 : 0 + n ≤ maxLen := by unfold maxLen; omega
      have h47 : (0 + n) * 1 ≤ 140737488355328 := by omega
      have hbs : By (w1.alloc (.cells #[] 5)) w.heap.size A n l := (Hb.out.below hb1).alloc hsz1 _
      have Hbs := Lib.hid hbs
      have hmk := World.ownsRow_made (base := w1.heap.size) (e := 5) (size := 1) w1 #[] 0 (Nat.le_refl _) (Nat.zero_le _) rfl
      have Hmk := Lib.hid hmk
      clear hown1 Hfind hsl hb1 hbs hmk
      go_wp2_with (at_builtin; refine wpList_app rfl _ _ 22 rfl w1.heap.size 5 i0 _ 1 1 Tryd.underlying22 Hi0.out hz0 hz1 hz2 rfl (by decide) (some ⟨w1.heap.size, 0, none⟩) 0 0 [] rfl Hmk.out _ A n c (Lib.byteCells l) rfl Hbs.out hone h63 h47 (by simp) ?_)
      intro S2 c2 w2 hown2 hb2 hg2
      have hbel2 : Below w1.heap.size w1 w2 := ((Below.refl _ w1).alloc (Nat.le_refl _) _).trans hb2
      have hn0 : n = l.length := Hnl.out.symm
      have Hown2 := Lib.hid hown2
      have Hbel2 := Lib.hid hbel2
      have Hn0 := Lib.hid hn0
      have htW := (Hts.out.below Hb1.out).belowN hbel2 hsz1
      have HtW := Lib.hid htW
      clear hown2 hb2 hg2 hbel2 hn0 htW
      go_wp2_with fail
      go_loopw [4, 5, 30] (fun v4 v5 iv wr => v4 = .slice none 0 0 ∧ v5 = .int .i64 0 ∧ TxRel w2 tn ts iv wr) (fun _ _ iv _ => tn - (intOf iv).toNat)
      case atStart => exact ⟨rfl, rfl, 0, rfl, Nat.zero_le _, rfl, Lib.hid rfl⟩
      case round => as_aux_lemma =>
        obtain ⟨rfl, rfl, i, rfl, hi, rfl, hz⟩ := hrel
        by_cases hin : i < tn
        · obtain ⟨tb, toff, u, hTA, htb, hu, htc⟩ := HtW.out.at_ (k := i) hin
          subst hTA
          have hil : i < ts.length := by have := Htn.out; omega
          obtain ⟨t, ht⟩ : ∃ t, t = ts[i] := ⟨_, rfl⟩
          have hut : u = str t := by
            rw [List.getElem?_map, List.getElem?_eq_getElem hil, ← ht] at hu
            simpa using hu.symm
          subst hut
          have htlen := Htl.out t (by rw [ht]; exact List.getElem_mem hil)
          have hbt := between_any t 33 126 ⟨#[34, 39, 60, 62, 38, 61]⟩ wr (by unfold maxLen; omega) (by omega) (by omega)
          rw [show t.all (fun b => okB 33 126 (⟨#[34, 39, 60, 62, 38, 61]⟩ : ByteArray).data.toList b.toNat) = !(t.any fun c => badPut c.toNat) from between_put t] at hbt
          have hzt : Hid ((ts.take (i + 1)).any (fun t => t.any fun c => badPut c.toNat) = (t.any fun c => badPut c.toNat)) := by
            show _ = _
            rw [List.take_add_one, List.getElem?_eq_getElem hil, ← ht, List.any_append, hz.out]
            simp
          have hbb : (t.any fun c => badPut c.toNat) = true → bad = true := by
            intro hbt
            rw [Hbad.out, List.any_eq_true]
            exact ⟨t, by rw [ht]; exact List.getElem_mem hil, hbt⟩
          have Hbt := Lib.hid hbt
          have Hbb := Lib.hid hbb
          clear hu ht hbt hbb
          generalize (t.any fun c => badPut c.toNat) = bt at Hbt hzt Hbb
          cases bt with
          | true =>
            have hb1 := Hbb.out rfl
            have Hbb1 := Lib.hid hb1
            clear hb1
            go_wp2_with fail
            refine Hbt.out.mono ?_
            rintro e w3 ⟨rfl, hw3⟩
            subst hw3
            go_wp2_with fail
            go_ret2
            rw [E3.out, Hbb1.out]
            exact ⟨none, 0, rfl, World.ownsRow_nil _ _ _ _, Hb1.out.trans (Hbel2.out.mono hsz1)⟩
          | false =>
            go_wp2_with fail
            refine Hbt.out.mono ?_
            rintro e w3 ⟨rfl, hw3⟩
            subst hw3
            go_wp2_with fail
            exact ⟨⟨rfl, rfl, i + 1, by go_num, by omega, rfl, hzt⟩, by simp [intOf]; omega⟩
        · obtain rfl : tn = i := by omega
          have hb0 : bad = false := by
            rw [Hbad.out]
            have h := hz.out
            rw [List.take_of_length_le (by have := Htn.out; omega)] at h
            exact h
          have Hb0 := Lib.hid hb0
          have w13 : IntKind.i64.wrap ((m : Int) - 1) = (m : Int) - 1 := by rw [IntKind.wrap_i64]; omega
          clear hb0 hz
          go_wp2_with fail
          go_loopw [8, 11] (fun ov sv wr => DnRel w1 m l ls ts ov sv wr) (fun _ sv _ => (intOf sv + 1).toNat)
          case atStart =>
            refine ⟨m, n, c2, S2, l, rfl, Nat.le_refl _, rfl, Hn0, Hown2.out, Hbel2.out, Lib.hid ?_⟩
            rw [List.drop_of_length_le (by rw [← Hm.out]; exact Nat.le_refl _), repL]
          case round => as_aux_lemma =>
            obtain ⟨k, no, co, So, out, rfl, hkm, rfl, hno, hown, hbel, hout⟩ := hrel
            have Hown := Lib.hid hown
            have Hbel := Lib.hid hbel
            clear hown
            cases k with
            | zero => as_aux_lemma =>
              have d0 : decide ((0 : Int) ≤ ((0 : Nat) : Int) - 1) = false := by decide
              have hRo : R = out := by rw [HR.out, hout.out, List.drop_zero, List.drop_zero]
              have HRo := Lib.hid hRo
              have hbelF : Below w.heap.size w wr := Hb1.out.trans (hbel.mono hsz1)
              have HbelF := Lib.hid hbelF
              clear hRo hbel hbelF
              by_cases h4 : 4000 < no
              · go_wp2_with fail
                go_ret2
                rw [E3.out, Hb0.out, if_neg (by simp), if_pos (by rw [HRo.out, ← hno.out]; exact h4)]
                exact ⟨none, 0, rfl, World.ownsRow_nil _ _ _ _, HbelF.out⟩
              · go_wp2_with fail
                go_ret2
                rw [E3.out, Hb0.out, if_neg (by simp), if_neg (by rw [HRo.out, ← hno.out]; exact h4), HRo.out]
                have h := Hown.out.mono (base' := w.heap.size) hsz1
                rw [hno.out] at h
                exact ⟨So, co, by rw [hno.out]; rfl, h, HbelF.out⟩
            | succ i => as_aux_lemma =>
              have e1 : (((i + 1 : Nat) : Int) - 1) = ((i : Nat) : Int) := by omega
              simp only [e1]
              have him : i < m := by omega
              have hitn : i < tn := by have := Hlen.out; omega
              have j0 : (0 : Int) ≤ (i : Int) := by omega
              have d0 : decide ((0 : Int) ≤ ((i : Nat) : Int)) = true := by simp
              have w11 : IntKind.i64.wrap ((i : Int) - 1) = (i : Int) - 1 := by rw [IntKind.wrap_i64]; omega
              obtain ⟨x, t, hd1, hd2, hx1, ht1, hrep, hx2, hx3, hx4⟩ := repL_step (b := l) (ts := ts) Hok.out (by have := Htn.out; have := Hlen.out; have := Hm.out; omega) i (by have := Hm.out; omega)
              rw [← hout.out] at hrep hx3 hx4
              obtain ⟨b, off, x', hS, hbS, hdx, x0, x1, x2⟩ := (Hsl.out.belowN hbel (Nat.le_refl _)).link i him
              subst hS
              have hxx : x' = x := by
                rw [hd1] at hdx
                injection hdx with hdx
                exact hdx.symm
              subst hxx
              obtain ⟨tb, toff, u, hTA, htb, hu, htc⟩ := ((Hts.out.below Hb1.out).belowN hbel hsz1).at_ (k := i) hitn
              subst hTA
              have hut : u = str t := by
                rw [List.getElem?_map, ht1] at hu
                simpa using hu.symm
              subst hut
              have htlen := Htl.out t (List.mem_of_getElem? ht1)
              have hop : 0 < no := by
                have h1 := repL_pos l (Hpos.out (by omega)) (ls.drop (i + 1)) (ts.drop (i + 1))
                rw [← hout.out] at h1
                have := List.length_pos_iff.2 h1
                rw [hno.out]; exact this
              have Hrep := Lib.hid hrep
              have Hlx := Lib.hid hx4
              have hxno : x'.til ≤ no := by rw [hno.out]; exact hx3
              clear e1 hd1 hd2 hx1 ht1 hrep hdx hu hx3 hx4 x2
              by_cases ht0 : t = []
              · have b0 : (t == ([] : List UInt8)) = true := by rw [ht0]; rfl
                have Ht0 := Lib.hid ht0
                clear ht0
                go_wp2_with fail
                refine ⟨⟨i, no, co, So, out, rfl, by omega, rfl, hno, Hown.out, hbel, Lib.hid ?_⟩, by simp [intOf]⟩
                rw [Hrep.out]
                unfold repB
                rw [if_pos Ht0.out]
              · have b0 : (t == ([] : List UInt8)) = false := by simpa using ht0
                have Ht0 := Lib.hid ht0
                have htp : 0 < t.length := List.length_pos_iff.2 ht0
                clear ht0
                obtain ⟨g, cur, hSo, hbf, hgb, hnco, hcom, hcl, htk⟩ := own_bf Hown.out hop
                subst hSo
                have hglt := hbf.lt
                obtain ⟨c9, w9, hrun, hby9, hb9⟩ := run_toBytesA (P := Tryd.prog) (World.drew wr) 9 22 5 t Tryd.underlying9 Tryd.underlying22 Tryd.underlying5
                have hs9 : (World.drew wr).heap.size = wr.heap.size := rfl
                rw [hs9] at hrun hby9
                have hri : RepIn w9 w1.heap.size g no co x'.frm wr.heap.size 0 t.length cur out t := by
                  refine ⟨?_, hgb, hnco, hcom, hcl, htk, hno.out.symm, by omega, htp, rfl, ?_, by omega, ?_⟩
                  · exact (hb9.block g hglt).trans hbf
                  · obtain ⟨b', off', e9, _, hc9⟩ := hby9.2 htp
                    injection e9 with e9
                    injection e9 with e9 e10
                    subst e9; subst e10
                    intro j v hj
                    exact hc9 j v hj
                  · have := Hlx.out
                    have := Hnl.out
                    have := HT.out
                    have h1 := hno.out
                    omega
                have hrp := Replace_any w1.heap.size g no co x'.frm x'.til wr.heap.size 0 t.length c9 cur out t w9 hri hx2 hxno
                unfold RepOut at hrp
                obtain ⟨nxt, hnxt⟩ : ∃ nxt, nxt = out.take x'.frm ++ (t ++ out.drop x'.til) := ⟨_, rfl⟩
                rw [← hnxt] at hrp
                obtain ⟨N, hN⟩ : ∃ N, N = nxt.length := ⟨_, rfl⟩
                rw [← hN] at hrp
                have hnx : nxt = repL l (ls.drop i) (ts.drop i) := by
                  rw [Hrep.out, hnxt]
                  unfold repB
                  rw [if_neg Ht0.out]
                have Hnx := Lib.hid hnx
                have HN := Lib.hid hN
                have Hrp := Lib.hid hrp
                clear hnxt hN hnx
                have hS3 : (World.drew wr).cell? ⟨b, off + i * 3, none⟩ = some (.int .i64 (x'.frm : Nat)) ∧ (World.drew wr).cell? ⟨b, off + i * 3 + 1, none⟩ = some (.int .i64 (x'.til : Nat)) ∧ (World.drew wr).cell? ⟨tb, toff + i, none⟩ = some (str t) := ⟨x0, x1, htc⟩
                have hbelD : Below w1.heap.size w1 w9 := hbel.trans (Below.mono (Below.drew (Below.refl wr.heap.size wr)) hbel.size |>.trans (hb9.mono hbel.size))
                have hbl3 : b < wr.heap.size := by have := hbel.size; omega
                have htb3 : tb < wr.heap.size := by have := hbel.size; omega
                have hS9 : w9.cell? ⟨b, off + i * 3, none⟩ = some (.int .i64 (x'.frm : Nat)) ∧ w9.cell? ⟨b, off + i * 3 + 1, none⟩ = some (.int .i64 (x'.til : Nat)) ∧ w9.cell? ⟨tb, toff + i, none⟩ = some (str t) :=
                  ⟨(hb9.cell (p := ⟨b, _, none⟩) hbl3).trans x0, (hb9.cell (p := ⟨b, _, none⟩) hbl3).trans x1, (hb9.cell (p := ⟨tb, _, none⟩) htb3).trans htc⟩
                have HbelD := Lib.hid hbelD
                have HS9 := Lib.hid hS9
                clear hri hrp hbf hcl htk hby9 hbelD hS9
                go_upto_region 17 with fail
                clear x0 x1 htc
                refine wp_region_held (S := fun W' => W'.cell? ⟨b, off + i * 3, none⟩ = some (.int .i64 (x'.frm : Nat)) ∧ W'.cell? ⟨b, off + i * 3 + 1, none⟩ = some (.int .i64 (x'.til : Nat)) ∧ W'.cell? ⟨tb, toff + i, none⟩ = some (str t)) (by kernel_rfl) ?_
                change wpAnyH _ _ _ _ _ _ _ _ (World.drew wr)
                refine wpAnyH_take (i := 0) (v := ?_) rfl (by kernel_rfl) (by kernel_rfl) (by kernel_rfl) (fun _ _ _ h => h) (Or.inl ⟨by kernel_rfl, ?_⟩) hS3 ?_
                rotate_left 1
                · rintro W' ⟨q0, q1, q2⟩; go_simp; try exact rfl
                refine wpAnyH_take (i := 1) (v := ?_) rfl (by kernel_rfl) (by kernel_rfl) (by kernel_rfl) (fun _ _ _ h => h) (Or.inl ⟨by kernel_rfl, ?_⟩) hS3 ?_
                rotate_left 1
                · rintro W' ⟨q0, q1, q2⟩; go_simp; try exact rfl
                refine wpAnyH_take (i := 2) (v := ?_) rfl (by kernel_rfl) (by kernel_rfl) (by kernel_rfl) (fun _ _ _ h => h) (Or.inl ⟨by kernel_rfl, ?_⟩) hS3 ?_
                rotate_left 1
                · rintro W' ⟨q0, q1, q2⟩; go_simp; try exact rfl
                refine wpAnyH_take (i := 3) (v := ?_) rfl (by kernel_rfl) (by kernel_rfl) (by kernel_rfl) (fun _ _ _ h => h) (Or.inl ⟨by kernel_rfl, ?_⟩) hS3 ?_
                rotate_left 1
                · rintro W' ⟨q0, q1, q2⟩; go_simp; try exact rfl
                refine wpAnyH_take (i := 4) (v := ?_) rfl (by kernel_rfl) (by kernel_rfl) (by kernel_rfl) (fun _ _ _ h => h) (Or.inl ⟨by kernel_rfl, ?_⟩) hS3 ?_
                rotate_left 1
                · rintro W' ⟨q0, q1, q2⟩; go_simp; try exact rfl
                go_simp
                refine wpAnyH_take (i := 5) (v := ?_) rfl (by kernel_rfl) (by kernel_rfl) (by kernel_rfl) (fun _ _ _ h => h) (Or.inl ⟨by kernel_rfl, ?_⟩) hS3 ?_
                rotate_left 1
                · rintro W' ⟨q0, q1, q2⟩; go_simp; try exact rfl
                refine wpAnyH_take (i := 6) (v := ?_) rfl (by kernel_rfl) (by kernel_rfl) (by kernel_rfl) (fun _ _ _ h => h) (Or.inl ⟨by kernel_rfl, ?_⟩) hS3 ?_
                rotate_left 1
                · rintro W' ⟨q0, q1, q2⟩; go_simp; try exact rfl
                refine wpAnyH_take (i := 7) (v := ?_) rfl (by kernel_rfl) (by kernel_rfl) (by kernel_rfl) (fun _ _ _ h => h) (Or.inl ⟨by kernel_rfl, ?_⟩) hS3 ?_
                rotate_left 1
                · rintro W' ⟨q0, q1, q2⟩; go_simp; try exact rfl
                refine wpAnyH_take (i := 8) (v := ?_) rfl (by kernel_rfl) (by kernel_rfl) (by kernel_rfl) (fun _ _ _ h => h) (Or.inl ⟨by kernel_rfl, ?_⟩) hS3 ?_
                rotate_left 1
                · rintro W' ⟨q0, q1, q2⟩; go_simp; try exact rfl
                refine wpAnyH_take (i := 9) (v := ?_) rfl (by kernel_rfl) (by kernel_rfl) (by kernel_rfl) (fun _ _ _ h => h) (Or.inl ⟨by kernel_rfl, ?_⟩) hS3 ?_
                rotate_left 1
                · rintro W' ⟨q0, q1, q2⟩; go_simp; try exact rfl
                go_simp
                refine wpAnyH_take (i := 10) (v := ?_) rfl (by kernel_rfl) (by kernel_rfl) (by kernel_rfl) (fun _ _ _ h => h) (Or.inl ⟨by kernel_rfl, ?_⟩) hS3 ?_
                rotate_left 1
                · rintro W' ⟨q0, q1, q2⟩; go_simp; try exact rfl
                refine wpAnyH_take (i := 11) (v := ?_) rfl (by kernel_rfl) (by kernel_rfl) (by kernel_rfl) (fun _ _ _ h => h) (Or.inl ⟨by kernel_rfl, ?_⟩) hS3 ?_
                rotate_left 1
                · rintro W' ⟨q0, q1, q2⟩; go_simp; try exact rfl
                refine wpAnyH_take (i := 12) (v := ?_) rfl (by kernel_rfl) (by kernel_rfl) (by kernel_rfl) (fun _ _ _ h => h) (Or.inl ⟨by kernel_rfl, ?_⟩) hS3 ?_
                rotate_left 1
                · rintro W' ⟨q0, q1, q2⟩; go_simp; try exact rfl
                refine wpAnyH_take (i := 13) (v := ?_) rfl (by kernel_rfl) (by kernel_rfl) (by kernel_rfl) (fun _ _ _ h => h) (Or.inl ⟨by kernel_rfl, ?_⟩) hS3 ?_
                rotate_left 1
                · rintro W' ⟨q0, q1, q2⟩; go_simp; try exact rfl
                refine wpAnyH_take (i := 14) (v := ?_) rfl (by kernel_rfl) (by kernel_rfl) (by kernel_rfl) (fun _ _ _ h => h) (Or.inl ⟨by kernel_rfl, ?_⟩) hS3 ?_
                rotate_left 1
                · rintro W' ⟨q0, q1, q2⟩; go_simp; try exact rfl
                go_simp
                refine wpAnyH_all (rs := [15]) (by kernel_rfl) (by simp) ?_
                intro kk hkk
                simp only [List.mem_singleton] at hkk
                subst hkk
                go_simp
                refine wpOp_runv rfl (by kernel_rfl) (.slice (some ⟨wr.heap.size, 0, none⟩) t.length c9) w9 (by go_simp) ?_
                refine ⟨HS9.out, ?_⟩
                refine wpAnyH_all (rs := [16]) (by kernel_rfl) (by simp) ?_
                intro kk hkk
                simp only [List.mem_singleton] at hkk
                subst hkk
                go_simp
                refine wpOp_callP rfl (by kernel_rfl) 48 #[.slice (some ⟨g, 0, none⟩) no co, .int .i64 (x'.frm : Nat), .int .i64 (x'.til : Nat), .slice (some ⟨wr.heap.size, 0, none⟩) t.length c9] (by go_simp; try rfl) _ Hrp.out ?_
                rintro e w10 ⟨S', c', rfl, ho10, hb10⟩
                refine ⟨_, rfl, ?_⟩
                have hS10 : w10.cell? ⟨b, off + i * 3, none⟩ = some (.int .i64 (x'.frm : Nat)) ∧ w10.cell? ⟨b, off + i * 3 + 1, none⟩ = some (.int .i64 (x'.til : Nat)) ∧ w10.cell? ⟨tb, toff + i, none⟩ = some (str t) :=
                  ⟨(hb10.cell (p := ⟨b, _, none⟩) hbS).trans HS9.out.1, (hb10.cell (p := ⟨b, _, none⟩) hbS).trans HS9.out.2.1, (hb10.cell (p := ⟨tb, _, none⟩) (Nat.lt_of_lt_of_le htb hsz1)).trans HS9.out.2.2⟩
                refine ⟨hS10, ?_⟩
                refine wpAnyH_all (rs := [17]) (by kernel_rfl) (by simp) ?_
                intro kk hkk
                simp only [List.mem_singleton] at hkk
                subst hkk
                go_simp
                refine wpOp_val rfl rfl (.slice S' N c') (by rfl) ?_
                refine ⟨hS10, ?_⟩
                refine wpAnyH_done (by kernel_rfl) ?_ _
                have hbelE := HbelD.out.trans hb10
                have Hfin := Lib.hid (And.intro ho10 hbelE)
                clear ho10 hb10 hbelE hS10 hS3
                go_simp
                go_wp2_with fail
                refine ⟨⟨i, N, c', S', nxt, rfl, by omega, rfl, HN, Hfin.out.1, Hfin.out.2, Hnx⟩, by simp [intOf]⟩
    · have hne : ((m : Int) != (tn : Int)) = true := by simp; omega
      have hR : putE l ts = ([], 4) := by rw [e3, if_pos hlen]
      rw [hR]
      clear hR e3 e1 hlen hm htn
      go_enter Tryd.func9, Tryd.ntmps9
      go_wp2_with fail
      refine Hfind.out.mono ?_
      rw [← Hm.out]
      rintro e w1 ⟨S, cS, rfl, hown1, hb1⟩
      go_wp2_with fail
      go_ret2
      exact ⟨none, 0, rfl, World.ownsRow_nil _ _ _ _, hb1⟩
  · obtain ⟨hR, rfl⟩ := he0 hfe
    rw [hR]
    have Hfind := Lib.hid hfind
    clear hR he0 he1 hfe hfind hnl htn
    go_enter Tryd.func9, Tryd.ntmps9
    go_wp2_with fail
    refine Hfind.out.mono ?_
    rintro e w1 ⟨S, cS, rfl, hown1, hb1⟩
    go_wp2_with fail
    go_ret2
    exact ⟨none, 0, rfl, World.ownsRow_nil _ _ _ _, hb1⟩
end Go.Proofs.YtacecobfhaihhaaDoor

namespace Go.Proofs.YtacecobfhaihhaaDoor
open Go.RowKit

/-! ### The law LinkSays -/
theorem findE_le (l : List UInt8) : (findE l).1.length ≤ 60 ∧ (4000 < l.length → findE l = ([], 2)) := by
  constructor
  · unfold findE
    split
    · simp
    · cases h : findB l with
      | none => simp [findEnd]
      | some ls => exact findB_len h
  · intro h
    unfold findE
    rw [if_pos h]
theorem putE_le (l : List UInt8) (ts : List (List UInt8)) : (putE l ts).1.length ≤ 4000 ∧ (4000 < l.length → putE l ts = ([], 2)) := by
  constructor
  · unfold putE
    split
    · simp
    · unfold putB
      cases findB l with
      | none => simp
      | some ls =>
        simp only
        split
        · simp
        · split
          · simp
          · split
            · simp
            · simp only
              omega
  · intro h
    unfold putE
    rw [if_pos h]
set_option maxRecDepth 100000 in
set_option maxHeartbeats 4000000 in
theorem linkSays_walk (a0 a1 : Option Addr) (len0 cap0 len1 cap1 : Nat) (l0 : List UInt8) (ts1 : List (List UInt8)) (w : World) (hM : MaxLenOk w) (b0 : By w w.heap.size a0 len0 l0) (le0 : len0 ≤ cap0) (mx0 : cap0 ≤ maxLen) (s1 : Sl w w.heap.size 1 a1 len1 (ts1.map str)) (hT : sumL ts1 ≤ 1000000000000) :
    Calls Tryd.prog 3 #[.slice a0 len0 cap0, .slice a1 len1 cap1] w fun e w' => e = .returned (.bool true) ∧ Below w.heap.size w w' := by
  have hl0 := b0.len
  obtain ⟨hf60, hf4⟩ := findE_le l0
  obtain ⟨hp60, hp4⟩ := putE_le l0 ts1
  have KF := Lib.hid (fun X (h : Below w.heap.size w X) => Find_any a0 len0 cap0 l0 X (hM.below h) ((b0.below h).more h.size) le0 mx0)
  have KP := Lib.hid (fun X (h : Below w.heap.size w X) => Put_any a0 a1 len0 cap0 len1 cap1 l0 ts1 X (hM.below h) ((b0.below h).more h.size) le0 mx0 ((s1.below h).more h.size) hT)
  have KRF := Lib.hid (fun X (h4 : len0 ≤ 4000) (h : Below w.heap.size w X) => LinksOf_any a0 len0 cap0 l0 X (hM.below h) ((b0.below h).more h.size) h4)
  have KRP := Lib.hid (fun X (h4 : len0 ≤ 4000) (h : Below w.heap.size w X) => PutIn_any a0 a1 len0 cap0 len1 cap1 l0 ts1 X (hM.below h) ((b0.below h).more h.size) h4 ((s1.below h).more h.size) hT)
  have KL := Lib.hid (fun X (h : Below w.heap.size w X) => linked_any X (hM.below h))
  unfold FindOut at KF KRF
  unfold PutOut at KP KRP
  have hb0 := Below.refl w.heap.size w
  generalize findE l0 = F at *
  generalize putE l0 ts1 = P at *
  obtain ⟨ls, fe⟩ := F
  obtain ⟨pb, pe⟩ := P
  simp only at hf60 hp60 KF KP KRF KRP
  rw [hl0] at hf4 hp4
  clear hl0 hM b0 s1 mx0
  by_cases h4 : 4000 < len0
  · obtain ⟨rfl, rfl⟩ := Prod.mk.inj (hf4 h4)
    obtain ⟨rfl, rfl⟩ := Prod.mk.inj (hp4 h4)
    have d4 : decide ((4000 : Int) < (len0 : Int)) = true := by simp; omega
    have i4 : (4000 : Int) < (len0 : Int) := by omega
    clear hf4 hp4 KRF KRP hf60 hp60
    go_enter Tryd.func3, Tryd.ntmps3
    go_wp2_with fail
    refine (KF.out _ hb0).mono ?_
    rintro e w1 ⟨S1, c1, rfl, ho1, hb1⟩
    have hbel1 := hb0.trans (hb1.mono hb0.size)
    clear ho1 hb1
    go_wp2_with fail
    refine (KP.out _ hbel1).mono ?_
    rintro e w2 ⟨S2, c2, rfl, ho2, hb2⟩
    have hbel2 := hbel1.trans (hb2.mono hbel1.size)
    clear ho2 hb2
    go_wp2_with fail
    refine (KL.out _ hbel2).mono ?_
    rintro e w3 ⟨rfl, hb3⟩
    have hbel3 := hbel2.trans (hb3.mono hbel2.size)
    clear hb3
    go_wp2_with fail
    refine (KL.out _ hbel3).mono ?_
    rintro e w4 ⟨rfl, hb4⟩
    have hbel4 := hbel3.trans (hb4.mono hbel3.size)
    clear hb4
    go_wp2_with fail
    go_ret
    exact ⟨rfl, hbel4⟩
  · have h4' : len0 ≤ 4000 := by omega
    have d4 : decide ((4000 : Int) < (len0 : Int)) = false := by simp; omega
    have i4 : ¬ ((4000 : Int) < (len0 : Int)) := by omega
    have hll : (ls == ls) = true := by simp
    have hpp : (pb == pb) = true := by simp
    obtain ⟨n1, hn1⟩ : ∃ n1, n1 = ls.length := ⟨_, rfl⟩
    obtain ⟨n2, hn2⟩ : ∃ n2, n2 = pb.length := ⟨_, rfl⟩
    rw [← hn1] at hf60 KF KRF
    rw [← hn2] at hp60 KP KRP
    have Hll := Lib.hid hll
    have Hpp := Lib.hid hpp
    clear hf4 hp4 hll hpp hn1 hn2
    go_enter Tryd.func3, Tryd.ntmps3
    go_wp2_with fail
    refine (KF.out _ hb0).mono ?_
    rintro e w1 ⟨S1, c1, rfl, ho1, hb1⟩
    have hbel1 := hb0.trans (hb1.mono hb0.size)
    have hs1 := Lib.hid (Sl.of_own ho1)
    clear ho1 hb1
    go_wp2_with fail
    refine (KP.out _ hbel1).mono ?_
    rintro e w2 ⟨S2, c2, rfl, ho2, hb2⟩
    have hbel2 := hbel1.trans (hb2.mono hbel1.size)
    have hs2 := Lib.hid (By.of_own ho2)
    have hs1 := Lib.hid ((Sl.below hs1.out hb2).more hb2.size)
    clear ho2 hb2
    go_wp2_with fail
    refine (KL.out _ hbel2).mono ?_
    rintro e w3 ⟨rfl, hb3⟩
    have hbel3 := hbel2.trans (hb3.mono hbel2.size)
    have hs1 := Lib.hid ((Sl.below hs1.out hb3).more hb3.size)
    have hs2 := Lib.hid ((By.below hs2.out hb3).more hb3.size)
    clear hb3
    go_wp2_with fail
    refine (KRF.out _ h4' hbel3).mono ?_
    rintro e w4 ⟨S4, c4, rfl, ho4, hb4⟩
    have hbel4 := hbel3.trans (hb4.mono hbel3.size)
    have hs1 := Lib.hid ((Sl.below hs1.out hb4).more hb4.size)
    have hs2 := Lib.hid ((By.below hs2.out hb4).more hb4.size)
    have hs4 := Lib.hid (Sl.of_own ho4)
    clear ho4 hb4
    go_wp2_with fail
    refine (KRP.out _ h4' hbel4).mono ?_
    rintro e w5 ⟨S5, c5, rfl, ho5, hb5⟩
    have hbel5 := hbel4.trans (hb5.mono hbel4.size)
    have hs1 := Lib.hid ((Sl.below hs1.out hb5).more hb5.size)
    have hs2 := Lib.hid ((By.below hs2.out hb5).more hb5.size)
    have hs4 := Lib.hid ((Sl.below hs4.out hb5).more hb5.size)
    have hs5 := Lib.hid (By.of_own ho5)
    clear ho5 hb5
    have hE1 := Equal_links S1 S4 n1 c1 n1 c4 _ _ ls ls w5 hs1.out hs4.out (by omega) (by omega)
    rw [Hll.out] at hE1
    have HE1 := Lib.hid hE1
    have HE2 := Lib.hid (fun q => Equal_bytes S2 S5 n2 c2 n2 c5 _ _ pb pb (w5.drewN q) (hs2.out.drewN q) (hs5.out.drewN q) (by unfold maxLen; omega))
    clear hE1
    go_wp2_with fail
    refine HE1.out.mono ?_
    rintro e w6 ⟨rfl, q6, rfl⟩
    have hbel6 := belN hbel5 q6
    go_wp2_with fail
    refine (HE2.out q6).mono ?_
    rintro e w7 ⟨rfl, q7, rfl⟩
    rw [Hpp.out]
    have hbel7 := belN hbel6 q7
    go_wp2_with fail
    go_ret
    exact ⟨rfl, belN hbel5 _⟩
end Go.Proofs.YtacecobfhaihhaaDoor

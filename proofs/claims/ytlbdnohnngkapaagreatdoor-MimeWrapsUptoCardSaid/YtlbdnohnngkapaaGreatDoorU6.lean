import Derived.Test.YtlbdnohnngkapaaGreatDoorU5
import Derived.Test.YtlbdnohnngkapaaGreatDoorU4
import Derived.Test.YtlbdnohnngkapaaGreatDoorU2
import Derived.Test.YtlbdnohnngkapaaGreatDoorU1
import Derived.Test.YtlbdnohnngkapaaGreatDoorU3
namespace Go.Proofs.YtlbdnohnngkapaaGreatDoor
open Go.RowKit

theorem infoStrM : (Tryz.prog.info? 9).map (fun i => (i.zero, i.size, i.bytes)) = some (some (.string ⟨#[]⟩), 1, 16) := by kernel_rfl
theorem take_one {α : Type} {l : List α} {i : Nat} {x : α} (h : l.drop i = x :: l.drop (i + 1)) : l.take (i + 1) = l.take i ++ [x] := by
  have hi : i < l.length := by
    rcases Nat.lt_or_ge i l.length with h' | h'
    · exact h'
    · rw [List.drop_of_length_le h'] at h; cases h
  rw [List.drop_eq_getElem_cons hi] at h
  injection h with h _
  rw [List.take_succ_eq_append_getElem hi, h]
theorem flats_in : ∀ (ps : List PartD) (q : PartD), q ∈ ps → (flatD q).length ≤ (flatsD ps).length ∧ ∀ x ∈ flatD q, x ∈ flatsD ps
  | [], q, h => by simp at h
  | p :: ps, q, h => by
    rw [flatsD, List.length_append]
    rcases List.mem_cons.1 h with rfl | h
    · exact ⟨by omega, fun x hx => by simp [hx]⟩
    · obtain ⟨h1, h2⟩ := flats_in ps q h
      exact ⟨by omega, fun x hx => by simp [h2 x hx]⟩
def txsM (ps : List PartD) (i : Nat) : List Value := ((ps.take i).map textM).map str
/-- The loop that writes the parts. -/
def TxRelM (W : World) (n2 : Nat) (ps : List PartD) (lv iv : Value) (wr : World) : Prop :=
  ∃ i S c, lv = .slice S i c ∧ iv = .int .i64 (i : Nat) ∧ i ≤ n2 ∧ wr.ownsRow W.heap.size 9 1 (.slice S i c) i (txsM ps i) ∧ Below W.heap.size W wr
/-- The loop that looks for a border. -/
def BdRelM (w : World) (N : Nat) (nv : Value) (wr : World) : Prop := ∃ n : Nat, nv = .int .i64 (n : Nat) ∧ 1 ≤ n ∧ n ≤ N ∧ Below w.heap.size w wr
/-- The loop that puts the texts between borders. -/
def WrRelM (w : World) (n : Nat) (border T : List UInt8) (L : List (List UInt8)) (sv iv : Value) (wr : World) : Prop :=
  ∃ (i : Nat) (acc : List UInt8), sv = str acc ∧ iv = .int .i64 (i : Nat) ∧ i ≤ n ∧ w = wr ∧ Hid (acc ++ wrapM border (L.drop i) = T)
set_option maxRecDepth 100000 in
set_option maxHeartbeats 4000000 in
theorem mtext_any (k : Nat) : ∀ (p : PartD) (v : List Value) (w : World), (flatD p).length ≤ k → (flatD p).length ≤ 12 → goodP p → PartAt (· < w.heap.size) w p v → MaxLenOk w → PowOk w →
    Calls Tryz.prog 77 #[.agg v.toArray] w fun e w' => e = .returned (str (textM p)) ∧ Below w.heap.size w w' := by
  obtain ⟨i0, hi0, hz0, hz1, hz2⟩ := info_parts infoStrM
  induction k with
  | zero => intro p v w h; rw [flatD_eq] at h; simp at h
  | succ k ih =>
    intro p v w hk h12 hg hp hM hW0
    have h0 := hg p (by rw [flatD_eq]; simp)
    unfold chkD at h0
    obtain ⟨ht, hcs, hid, hloc, hw0, hw2, hbo, hm1, hm0⟩ := chkB_zero h0
    have hcs' : p.cs = [] ∨ tokB p.cs = true := by
      rcases hcs with h | h
      · exact .inl (by simpa using h)
      · exact .inr h
    have htl := (typ_parts ht).2.1
    have hcl : p.cs.length ≤ 30 := by
      rcases hcs' with h | h
      · rw [h]; simp
      · exact (tok_mem h).2.1
    have hil := (wordP_mem hid).1
    have hll := (wordP_mem hloc).1
    have htm := textM_len p hg
    obtain ⟨A, c, A2, c2, rfl, hbds, hB, hn, hcm, hP, hc2, hcm2⟩ := hp.open
    have hBy : By w w.heap.size A p.body.length p.body := hB
    obtain ⟨T, hT⟩ : ∃ T, T = textM p := ⟨_, rfl⟩
    rw [← hT] at htm ⊢
    obtain ⟨n1, hn1⟩ : ∃ n1, n1 = p.body.length := ⟨_, rfl⟩
    obtain ⟨n2, hn2⟩ : ∃ n2, n2 = p.parts.length := ⟨_, rfl⟩
    obtain ⟨W, hW⟩ : ∃ W, W = w.alloc (.cells #[str p.type, str p.cs, str p.id, str p.loc, .int .i64 p.how, .slice A n1 c, .slice A2 n2 c2] 25) := ⟨_, rfl⟩
    have hbW : Below w.heap.size w W := by rw [hW]; exact (Below.refl _ w).alloc (Nat.le_refl _) _
    have hbx : Box7 W w.heap.size (str p.type) (str p.cs) (str p.id) (str p.loc) (.int .i64 p.how) (.slice A n1 c) (.slice A2 n2 c2) := by rw [hW]; exact Box7.new w _ _ _ _ _ _ _ _
    have ⟨x0, x1, x2, x3, x4, x5, x6⟩ := hbx
    have hm := Many_any p.type
    rw [← hn1] at hBy hn hbo ⊢
    rw [← hn2] at hP hc2 ⊢
    have hByW := (hBy.below hbW).more hbW.size
    have hMW := hM.below hbW
    have hPW := hW0.below hbW
    have hps := (hP.below hbW).more hbW.size
    have hsW : W.heap.size = w.heap.size + 1 := by rw [hW]; simp
    have HT := Lib.hid hT
    have HW := Lib.hid hW
    have Hn1 := Lib.hid hn1
    have Hn2 := Lib.hid hn2
    have HBy := Lib.hid hByW
    have HM := Lib.hid hMW
    have HP := Lib.hid hPW
    have Hps := Lib.hid hps
    have HsW := Lib.hid hsW
    have Hg := Lib.hid hg
    have Hih := Lib.hid ih
    have Hcs := Lib.hid hcs'
    have Ht := Lib.hid ht
    have Hid' := Lib.hid hid
    have Hloc := Lib.hid hloc
    have Hbx := Lib.hid hbx
    have Hk := Lib.hid hk
    clear hT hW hn1 hn2 hByW hMW hPW hps hsW hg ih hcs' hcs ht hid hloc hp hB hBy hP hM hW0 h0 hbds hk hbx
    by_cases hmp : manyB p.type = true
    · rw [hmp] at hm
      obtain ⟨_, hb0, hh0, hc0⟩ := hm1 hmp
      have hTl : T = textF (fieldsM p.type p.cs p.id p.loc p.how (bordP p)) ++ wrapM (bordP p) (textsM p.parts) := by rw [HT.out]; exact text_many p hmp
      have hbk : bordOk (bordP p) := bordM_ok _
      have hbl : (bordP p).length ≤ 9 := bord_len _
      have hfl := fields_text (how := p.how) Ht.out Hcs.out Hid'.out Hloc.out (.inr hbk)
      have hf4 := fields_len p.type p.cs p.id p.loc (bordP p) p.how
      have hcon := fun W' => fields_any p.type p.cs p.id p.loc (bordP p) p.how A A2 n1 c n2 c2 W' (by omega) (by omega) (by omega) (by omega) (by omega) hw0 hw2
      obtain ⟨F, hF⟩ : ∃ F, F = fieldsM p.type p.cs p.id p.loc p.how (bordP p) := ⟨_, rfl⟩
      rw [← hF] at hTl hfl hf4 hcon
      obtain ⟨L, hL⟩ : ∃ L, L = textsM p.parts := ⟨_, rfl⟩
      have hLm : L = p.parts.map textM := by rw [hL, texts_map]
      have hsum := textsM_len p.parts (fun q hq => Hg.out q (by rw [flatD_eq]; simp [hq]))
      have hns := nl_sum (textsM p.parts)
      have hfl2 : (flatD p).length = 1 + (flatsD p.parts).length := by rw [flatD_eq, List.length_cons]; omega
      have hJ : (nlJ L).length ≤ 204000 := by rw [hL]; omega
      have hbd := bordN_spec (nlJ L) (by omega)
      obtain ⟨N, hN⟩ : ∃ N, N = bordN (nlJ L) := ⟨_, rfl⟩
      have hbp : bordP p = [61, 95] ++ Lib.decDigits N := by rw [hN, hL]; rfl
      have hLn : L.length = n2 := by rw [hLm, List.length_map, Hn2.out]
      have hn12 : n2 ≤ 11 := by
        have := flatsD_len p.parts
        rw [← Hn2.out] at this
        omega
      rw [← hL] at hTl
      rw [← hN] at hbd
      obtain ⟨hbd1, hbd2, hbd3, hbd4⟩ := hbd
      obtain ⟨bd, hbdd⟩ : ∃ bd, bd = bordP p := ⟨_, rfl⟩
      rw [← hbdd] at hTl hbl hcon hbp
      have Hih2 := Lib.hid Hih.out
      have Hcon := Lib.hid hcon
      have HTl := Lib.hid hTl
      have Hm := Lib.hid hm
      have HL := Lib.hid hLm
      have HLn := Lib.hid hLn
      have Hbp := Lib.hid hbp
      have Hbd3 := Lib.hid hbd3
      have Hbd4 := Lib.hid hbd4
      have Hfl2 := Lib.hid hfl2
      have hTb : T.length ≤ 204000 := by omega
      clear hcon hTl hm hL hLm hLn hbp hbd3 hbd4 hfl2 hmp hm1 hm0 hF hbdd hN hsum hns hbk hb0 hh0 hc0 htm
      go_enter Tryz.func77, Tryz.ntmps77
      go_wp2_with fail
      rw [← HW.out]
      refine (Hm.out _).mono ?_
      rintro e w1 ⟨rfl, rfl⟩
      go_wp2_with fail
      go_loopw [4, 39] (TxRelM W n2 p.parts) (fun _ iv _ => n2 - (intOf iv).toNat)
      case atStart => exact ⟨0, none, 0, rfl, rfl, Nat.zero_le _, World.ownsRow_nil _ _ _ _, Below.refl _ _⟩
      case round =>
        obtain ⟨i, S, cs, rfl, rfl, hi, hown, hbel⟩ := hrel
        by_cases hin : i < n2
        · have hPr := Hps.out.below hbel
          obtain ⟨b, off, q, A', n', c', A2', n2', c2', rfl, hbS, hq, hqa, y0, y1, y2, y3, y4, y5, y6⟩ := hPr.cells7 hin
          have hqm : q ∈ p.parts := List.mem_of_mem_drop (by rw [hq]; simp)
          obtain ⟨f1, f2⟩ := flats_in p.parts q hqm
          obtain ⟨V, hV⟩ : ∃ V, V = wr.alloc (.cells #[str q.type, str q.cs, str q.id, str q.loc, .int .i64 q.how, .slice A' n' c', .slice A2' n2' c2'] 25) := ⟨_, rfl⟩
          have hbV : Below wr.heap.size wr V := by rw [hV]; exact (Below.refl _ wr).alloc (Nat.le_refl _) _
          have hbelV := hbel.trans (hbV.mono hbel.size)
          have hqV : PartAt (· < V.heap.size) V q [str q.type, str q.cs, str q.id, str q.loc, .int .i64 q.how, .slice A' n' c', .slice A2' n2' c2'] := (hqa.belowN hbV hbel.size).more hbelV.size
          have hfl2 := Hfl2.out
          have hk := Hk.out
          have hcl := Hih2.out q _ V (by omega) (by omega) (fun x hx => Hg.out x (by rw [flatD_eq]; simp [f2 x hx])) hqV (HM.out.below hbelV) (HP.out.below hbelV)
          have htk := take_one hq
          have hownV := own_below hown hbV
          obtain ⟨tq, htq⟩ : ∃ t, t = textM q := ⟨_, rfl⟩
          rw [← htq] at hcl
          have Hcl := Lib.hid hcl
          have Htq := Lib.hid htq
          have Htk := Lib.hid htk
          have HV := Lib.hid hV
          have hi11 : i ≤ 11 := by omega
          clear hq hqa hqV hPr hown hbV hbel hcl htq htk hV hqm f1 f2 hfl2 hk
          go_wp2_with fail
          rw [← HV.out]
          clear y0 y1 y2 y3 y4 y5 y6
          refine Hcl.out.mono ?_
          rintro e w1 ⟨rfl, hb1⟩
          have hown1 := own_below hownV hb1
          have hbel1 := hbelV.trans (hb1.mono hbelV.size)
          clear hownV hb1 hbelV Hcl
          go_wp2_with (at_builtin; refine wpList_app rfl _ _ 57 rfl W.heap.size 9 i0 (.string ⟨#[]⟩) 1 16 Tryz.underlying57 hi0 hz0 hz1 hz2 rfl (by decide) S i cs (txsM p.parts i) rfl (hown1.alloc _) _ _ 1 1 [str tq] rfl (Sl.one _ _ _) (fun u hu => by rw [List.mem_singleton.1 hu]; rfl) (by unfold maxLen; omega) (by omega) (by have := hbel1.size; simp; omega) ?_)
          intro S' c' w4 hown4 hb4 _
          have hbel4 := ((hbel1.alloc hbel1.size (.cells #[str tq] 9))).trans hb4
          have hown5 : w4.ownsRow W.heap.size 9 1 (.slice S' (i + 1) c') (i + 1) (txsM p.parts (i + 1)) := by
            unfold txsM at hown4 ⊢
            rw [Htk.out, List.map_append, List.map_append]
            rw [Htq.out] at hown4
            exact hown4
          have Hown5 := Lib.hid hown5
          clear hown4 hown5 hb4 hown1 hbel1
          go_wp2_with fail
          exact ⟨⟨i + 1, S', c', rfl, by go_num, by omega, Hown5.out, hbel4⟩, by simp [intOf]; omega⟩
        · obtain rfl : i = n2 := by omega
          have hsl : Sl wr wr.heap.size 1 S L.length (L.map str) := by
            have h := Sl.of_own hown
            unfold txsM at h
            have e : p.parts.take i = p.parts := List.take_of_length_le (by rw [← Hn2.out]; exact Nat.le_refl _)
            rw [e, ← HL.out] at h
            rw [HLn.out]
            exact h
          have hcs := own_cap hown
          have Hsl := Lib.hid hsl
          clear hsl hown
          obtain ⟨wo, rfl⟩ : ∃ x, x = wr := ⟨_, rfl⟩
          go_wp2_with fail
          go_loopw [7] (BdRelM wo N) (fun nv _ => N - (intOf nv).toNat)
          case atStart => exact ⟨1, rfl, Nat.le_refl _, by omega, Below.refl _ _⟩
          case round =>
            obtain ⟨n, rfl, hn1, hn2, hbel2⟩ := hrel
            have hbel3 := hbel.trans (hbel2.mono hbel.size)
            have hsl2 := (Hsl.out.below hbel2).more hbel2.size
            have hjn := JoinNl_any L S cs wr.heap.size wr hsl2 (Nat.le_refl _) (by rw [HLn.out]; exact hcs) (by rw [HLn.out]; omega) (by omega)
            rw [HLn.out] at hjn
            have hit := fun W' (hb : Below wr.heap.size wr W') => Itoa_any n (by omega) W' (HP.out.below (hbel3.trans (hb.mono hbel3.size)))
            have hco := fun W' (hb : Below wr.heap.size wr W') => Contains_any (nlJ L) (45 :: 45 :: 61 :: 95 :: Lib.decDigits n) W' (HM.out.below (hbel3.trans (hb.mono hbel3.size))) (by omega)
            have hnd : (Lib.decDigits n).length ≤ 20 := by rw [Lib.decDigits_length]; have := nDig_le 6 n (by omega); omega
            obtain ⟨J, hJJ⟩ : ∃ J, J = nlJ L := ⟨_, rfl⟩
            have hmk : hasS J (45 :: 45 :: 61 :: 95 :: Lib.decDigits n) = hasS (nlJ L) (markM n) := by rw [hJJ]; rfl
            rw [← hJJ] at hjn hco
            have Hjn := Lib.hid hjn
            have Hit := Lib.hid hit
            have Hmk := Lib.hid hmk
            clear hjn hit hmk hJJ hsl2
            cases hh : hasS (nlJ L) (markM n) with
            | true =>
              have hne : n < N := by
                rcases Nat.lt_or_ge n N with h | h
                · exact h
                · obtain rfl : n = N := by omega
                  rw [Hbd3.out] at hh
                  cases hh
              rw [Hmk.out, hh] at hco
              have Hco := Lib.hid hco
              clear hco hh
              go_wp2_with fail
              refine Hjn.out.mono ?_
              rintro e w5 ⟨rfl, hb5⟩
              go_wp2_with fail
              refine (Hit.out _ hb5).mono ?_
              rintro e w6 ⟨rfl, hb6⟩
              have hb56 := hb5.trans (hb6.mono hb5.size)
              go_wp2_with fail
              refine (Hco.out _ hb56).mono ?_
              rintro e w7 ⟨rfl, rfl⟩
              have hbel7 := hbel2.trans (hb56.mono hbel2.size)
              go_wp2_with fail
              exact ⟨⟨n + 1, by go_num, by omega, by omega, hbel7⟩, by simp [intOf]; omega⟩
            | false =>
              obtain rfl : n = N := by
                rcases Nat.lt_or_ge n N with h | h
                · have := Hbd4.out n hn1 h
                  rw [hh] at this
                  cases this
                · omega
              rw [Hmk.out, hh] at hco
              have Hco := Lib.hid hco
              have hbde : bd = 61 :: 95 :: Lib.decDigits n := Hbp.out
              have hbd60 : 2 + bd.length ≤ 100 := by omega
              have Hbde := Lib.hid hbde
              clear hco hh hbde
              go_wp2_with fail
              refine Hjn.out.mono ?_
              rintro e w5 ⟨rfl, hb5⟩
              go_wp2_with fail
              refine (Hit.out _ hb5).mono ?_
              rintro e w6 ⟨rfl, hb6⟩
              have hb56 := hb5.trans (hb6.mono hb5.size)
              go_wp2_with fail
              refine (Hco.out _ hb56).mono ?_
              rintro e w7 ⟨rfl, rfl⟩
              go_wp2_with fail
              refine (Hit.out _ hb56).mono ?_
              rintro e w8 ⟨rfl, hb8⟩
              have hb58 := hb56.trans (hb8.mono hb56.size)
              have hbel8 := hbel3.trans (hb58.mono hbel3.size)
              have hbx8 := Hbx.out.below hbel8
              have hsl8 := (Hsl.out.below (hbel2.trans (hb58.mono hbel2.size))).more ((hbel2.trans (hb58.mono hbel2.size)).size)
              have Hsl8 := Lib.hid hsl8
              clear x0 x1 x2 x3 x4 x5 x6 hb5 hb6 hb8 hb56 hsl8 Hjn Hit Hco Hmk
              have ⟨x0, x1, x2, x3, x4, x5, x6⟩ := hbx8
              go_wp2_with fail
              rw [← Hbde.out]
              refine (Hcon.out _).mono ?_
              rintro e w9 ⟨S9, c9, rfl, hown9, hb9⟩
              have hft := FText_any F S9 F.length c9 w9.heap.size w9 (Sl.of_own hown9) (Nat.le_refl _) (by unfold maxLen; omega) (by omega)
              have Hft := Lib.hid hft
              clear hft hown9 hbx8
              go_wp2_with fail
              refine Hft.out.mono ?_
              rintro e wa ⟨rfl, hba⟩
              have hbA := hb9.trans (hba.mono hb9.size)
              have hbelA := hbel8.trans (hbA.mono hbel8.size)
              have hslA := Hsl8.out.below hbA
              have HslA := Lib.hid hslA
              clear x0 x1 x2 x3 x4 x5 x6 hb9 hba hslA Hft Hsl8 hbA hb58
              have hen0 : Hid (textF F ++ wrapM bd (L.drop 0) = T) := HTl.out.symm
              go_wp2_with fail
              go_loopw [9, 66] (WrRelM wa i bd T L) (fun _ iv _ => i - (intOf iv).toNat)
              case atStart => exact ⟨0, _, rfl, rfl, Nat.zero_le _, rfl, hen0⟩
              case round =>
                obtain ⟨j, acc, rfl, rfl, hj, rfl, hE⟩ := hrel
                have hle : acc.length + (wrapM bd (L.drop j)).length ≤ 204000 := by
                  have := congrArg List.length hE.out
                  rw [List.length_append] at this
                  omega
                by_cases hjn : j < i
                · have hLj : j < L.length := by rw [HLn.out]; exact hjn
                  obtain ⟨x, hx⟩ : ∃ x, L.drop j = x :: L.drop (j + 1) := ⟨L[j], List.drop_eq_getElem_cons hLj⟩
                  have hxj : (L.map str)[j]? = some (str x) := by
                    have h1 : L[j]? = some x := by rw [← List.head?_drop, hx]; rfl
                    rw [List.getElem?_map, h1]; rfl
                  obtain ⟨b2, off2, hS2, hb2, hc2⟩ := HslA.out.2 (by omega)
                  subst hS2
                  have y0 := hc2 j _ hxj
                  have hE2 := hE.out
                  rw [hx, wrapM] at hE2
                  rw [hx, wrapM] at hle
                  simp only [List.length_append, List.length_cons, List.length_nil] at hle
                  have hE3 : Hid ((acc ++ 45 :: 45 :: (bd ++ 13 :: 10 :: (x ++ [13, 10]))) ++ wrapM bd (L.drop (j + 1)) = T) := by
                    show _ = T
                    rw [← hE2]
                    simp
                  have Hc2 := Lib.hid hc2
                  clear hE hE2 hx hxj hc2 hLj
                  go_wp2_with fail
                  exact ⟨⟨j + 1, _, rfl, by go_num, by omega, rfl, hE3⟩, by simp [intOf]; omega⟩
                · obtain rfl : j = i := by omega
                  have hE2 := hE.out
                  have hd : L.drop j = [] := List.drop_of_length_le (by rw [HLn.out]; exact Nat.le_refl _)
                  rw [hd, wrapM] at hE2
                  rw [hd, wrapM] at hle
                  simp only [List.length_append, List.length_cons, List.length_nil] at hle
                  have hE3 : Hid (T = acc ++ 45 :: 45 :: (bd ++ [45, 45, 13, 10])) := by
                    show T = _
                    rw [← hE2]
                    simp
                  clear hE hE2 hd
                  go_wp2_with fail
                  go_ret
                  exact ⟨by rw [hE3.out]; rfl, hbW.trans (hbelA.mono hbW.size)⟩
    · have hmp : manyB p.type = false := by simpa using hmp
      rw [hmp] at hm
      have hTl : T = textF (fieldsM p.type p.cs p.id p.loc p.how []) ++ encM p.how p.body := by rw [HT.out]; exact text_leaf p hmp
      have hfl := fields_text (b := []) (how := p.how) Ht.out Hcs.out Hid'.out Hloc.out (.inl rfl)
      have hf4 := fields_len p.type p.cs p.id p.loc [] p.how
      have hcon := fun W' => fields_any p.type p.cs p.id p.loc [] p.how A A2 n1 c n2 c2 W' (by omega) (by omega) (by omega) (by omega) (by simp) hw0 hw2
      have hcl1 : c ≤ maxLen := hcm
      obtain ⟨F, hF⟩ : ∃ F, F = fieldsM p.type p.cs p.id p.loc p.how [] := ⟨_, rfl⟩
      rw [← hF] at hTl hfl hf4 hcon
      have hen := enc_small p.how p.body (by rw [← Hn1.out]; exact hbo)
      obtain ⟨E, hE⟩ : ∃ E, E = encM p.how p.body := ⟨_, rfl⟩
      rw [← hE] at hTl hen
      have Hcon := Lib.hid hcon
      have HTl := Lib.hid hTl
      have Hm := Lib.hid hm
      have HE := Lib.hid hE
      clear hcon hTl hm hm1 hm0 hF htm hE hmp
      have hts := run_toStr (P := Tryz.prog) W 22 9 5 _ A n1 c p.body HBy.out Tryz.underlying22 Tryz.underlying5 Tryz.underlying9
      rcases (by omega : p.how = 0 ∨ p.how = 1 ∨ p.how = 2) with hh | hh | hh
      · have he : E = p.body := by rw [HE.out, hh]; rfl
        have hel : p.body.length ≤ 12600 := by rw [← he]; exact hen
        have He := Lib.hid he
        have d1 : (p.how == 1) = false := by rw [hh]; rfl
        have d2 : (p.how == 2) = false := by rw [hh]; rfl
        have Hh := Lib.hid hh
        clear he hh
        go_enter Tryz.func77, Tryz.ntmps77
        go_wp2_with fail
        rw [← HW.out]
        refine (Hm.out _).mono ?_
        rintro e w1 ⟨rfl, rfl⟩
        go_wp2_with fail
        refine (Hcon.out _).mono ?_
        rintro e w2 ⟨S, cc, rfl, hown, hb2⟩
        have hft := FText_any F S F.length cc w2.heap.size w2 (Sl.of_own hown) (Nat.le_refl _) (by unfold maxLen; omega) (by omega)
        have Hft := Lib.hid hft
        clear hft hown
        go_wp2_with fail
        refine Hft.out.mono ?_
        rintro e w3 ⟨rfl, hb3⟩
        go_wp2_with fail
        go_ret
        exact ⟨by rw [HTl.out, He.out]; rfl, hbW.trans ((hb2.trans (hb3.mono hb2.size)).mono hbW.size)⟩
      · have he : E = enc 0 p.body := by rw [HE.out, hh]; rfl
        have hel : (enc 0 p.body).length ≤ 12600 := by rw [← he]; exact hen
        have He := Lib.hid he
        have d1 : (p.how == 1) = true := by rw [hh]; rfl
        have d2 : (p.how == 2) = false := by rw [hh]; rfl
        have hct := fun W' (hb : Below W.heap.size W W') => Text_any A n1 c p.body W' ((HBy.out.below hb).more hb.size) hn hbo
        have Hct := Lib.hid hct
        have Hh := Lib.hid hh
        clear he hh hct
        go_enter Tryz.func77, Tryz.ntmps77
        go_wp2_with fail
        rw [← HW.out]
        refine (Hm.out _).mono ?_
        rintro e w1 ⟨rfl, rfl⟩
        go_wp2_with fail
        refine (Hct.out _ (Below.refl _ _)).mono ?_
        rintro e wq ⟨rfl, hbq⟩
        have hbxq := Hbx.out.below hbq
        clear x0 x1 x2 x3 x4 x5 x6
        have ⟨x0, x1, x2, x3, x4, x5, x6⟩ := hbxq
        go_wp2_with fail
        refine (Hcon.out _).mono ?_
        rintro e w2 ⟨S, cc, rfl, hown, hb2⟩
        have hft := FText_any F S F.length cc w2.heap.size w2 (Sl.of_own hown) (Nat.le_refl _) (by unfold maxLen; omega) (by omega)
        have Hft := Lib.hid hft
        clear hft hown
        go_wp2_with fail
        refine Hft.out.mono ?_
        rintro e w3 ⟨rfl, hb3⟩
        go_wp2_with fail
        go_ret
        exact ⟨by rw [HTl.out, He.out]; rfl, hbW.trans ((hbq.trans ((hb2.trans (hb3.mono hb2.size)).mono hbq.size)).mono hbW.size)⟩
      · have he : E = encQ 0 p.body := by rw [HE.out, hh]; rfl
        have hel : (encQ 0 p.body).length ≤ 12600 := by rw [← he]; exact hen
        have He := Lib.hid he
        have d1 : (p.how == 1) = false := by rw [hh]; rfl
        have d2 : (p.how == 2) = true := by rw [hh]; rfl
        have hct := fun W' (hb : Below W.heap.size W W') => QText_any A n1 c p.body W' ((HBy.out.below hb).more hb.size) hn hbo
        have Hct := Lib.hid hct
        have Hh := Lib.hid hh
        clear he hh hct
        go_enter Tryz.func77, Tryz.ntmps77
        go_wp2_with fail
        rw [← HW.out]
        refine (Hm.out _).mono ?_
        rintro e w1 ⟨rfl, rfl⟩
        go_wp2_with fail
        refine (Hct.out _ (Below.refl _ _)).mono ?_
        rintro e wq ⟨rfl, hbq⟩
        have hbxq := Hbx.out.below hbq
        clear x0 x1 x2 x3 x4 x5 x6
        have ⟨x0, x1, x2, x3, x4, x5, x6⟩ := hbxq
        go_wp2_with fail
        refine (Hcon.out _).mono ?_
        rintro e w2 ⟨S, cc, rfl, hown, hb2⟩
        have hft := FText_any F S F.length cc w2.heap.size w2 (Sl.of_own hown) (Nat.le_refl _) (by unfold maxLen; omega) (by omega)
        have Hft := Lib.hid hft
        clear hft hown
        go_wp2_with fail
        refine Hft.out.mono ?_
        rintro e w3 ⟨rfl, hb3⟩
        go_wp2_with fail
        go_ret
        exact ⟨by rw [HTl.out, He.out]; rfl, hbW.trans ((hbq.trans ((hb2.trans (hb3.mono hb2.size)).mono hbq.size)).mono hbW.size)⟩
end Go.Proofs.YtlbdnohnngkapaaGreatDoor

namespace Go.Proofs.YtlbdnohnngkapaaGreatDoor
open Go.RowKit

theorem upto_bytes (w : World) (A : Option Addr) (n c : Nat) (ki : IntKind) (k : Int) (h0 : 0 ≤ k) (h1 : k ≤ n) (hc : n ≤ c) :
    (Instr.slice 22 (.slice A n c) none (some (.int ki k)) none).run Tryz.prog w = .ok (.slice (cutA A c 0 1) k.toNat c) w :=
  run_upto w _ _ 1 Tryz.underlying22 (Tryz.sizeOf5 w) A n c ki k h0 h1 hc
attribute [local go_sem high] cut_bytes upto_bytes

theorem infoInt : (Tryz.prog.info? 3).map (fun i => (i.zero, i.size, i.bytes)) = some (some (.int .i64 0), 1, 8) := by kernel_rfl

theorem IndexByteR_any (l : List UInt8) (x : Nat) (_hx : x < 256) (w : World) :
    Calls Tryz.prog 110 #[str l, .int .u8 (x : Int)] w fun e w' => e = .returned (.int .i64 (idxI l x)) ∧ w = w' := by
  refine (Go.Proofs.Tryz.strings_IndexByte ⟨l.toArray⟩ (x : Int) w).mono ?_
  rintro e w' ⟨rfl, rfl⟩
  refine ⟨?_, rfl⟩
  show Ending.returned (.int .i64 (Lib.indexByte l (((x : Int).toNat).toUInt8))) = _
  rfl

/-- What base.Read leaves. -/
def BytesRes (w : World) (r : List UInt8 × Nat) (e : Ending) (w' : World) : Prop :=
  ∃ A c, e = .returned (.tuple #[.slice A r.1.length c, .int .i64 r.2]) ∧ By w' w'.heap.size A r.1.length r.1 ∧ r.1.length ≤ c ∧ Below w.heap.size w w'
theorem BytesRes.fail {w w' : World} (k : Nat) (h : Below w.heap.size w w') : BytesRes w ([], k) (.returned (.tuple #[.slice none 0 0, .int .i64 (k : Int)])) w' :=
  ⟨none, 0, rfl, By.nil_ _ _ _, Nat.le_refl _, h⟩
/-- Likewise, in memory of its own. -/
def BytesResF (w : World) (r : List UInt8 × Nat) (e : Ending) (w' : World) : Prop :=
  ∃ A c, e = .returned (.tuple #[.slice A r.1.length c, .int .i64 r.2]) ∧ SlS (fun b => w.heap.size ≤ b ∧ b < w'.heap.size) w' 1 A r.1.length (Lib.byteCells r.1) ∧ r.1.length ≤ c ∧ c ≤ maxLen ∧ Below w.heap.size w w'
theorem BytesResF.fail {w w' : World} (k : Nat) (h : Below w.heap.size w w') : BytesResF w ([], k) (.returned (.tuple #[.slice none 0 0, .int .i64 (k : Int)])) w' :=
  ⟨none, 0, rfl, ⟨rfl, fun h => absurd h (by simp)⟩, Nat.le_refl _, Nat.zero_le _, h⟩
theorem BytesResF.res {w : World} {r : List UInt8 × Nat} {e : Ending} {w' : World} (h : BytesResF w r e w') : BytesRes w r e w' := by
  obtain ⟨A, c, h1, h2, h3, _, h4⟩ := h
  exact ⟨A, c, h1, SlS.change (S' := fun b => b < w'.heap.size) h2 (fun _ hb => hb.2) (fun _ _ => rfl), h3, h4⟩
theorem own_slsR {w : World} {base n c : Nat} {e : TypeId} {A : Option Addr} {xs : List Value} (h : w.ownsRow base e 1 (.slice A n c) n xs) : SlS (fun b => base ≤ b ∧ b < w.heap.size) w 1 A n xs := by
  refine ⟨h.1, fun hn => ?_⟩
  obtain ⟨b, off, e1, hb, hc⟩ := (Sl.of_own h).2 hn
  rcases h.2 with ⟨_, h0⟩ | ⟨g, cap, cur, hv, hg, _⟩
  · omega
  · injection hv with hA _ _
    rw [hA] at e1
    injection e1 with e1
    injection e1 with e1 e2 _
    subst e1; subst e2
    exact ⟨g, 0, hA, ⟨hg, hb⟩, hc⟩
theorem own_capR {w : World} {base : Nat} {e : TypeId} {size : Nat} {S : Option Addr} {n c : Nat} {xs : List Value} (h : w.ownsRow base e size (.slice S n c) n xs) : c ≤ maxLen := by
  rcases h.2 with ⟨hv, _⟩ | ⟨g, cap, cur, hv, _, _, _, hm, _⟩
  · injection hv with _ _ hc; subst hc; exact Nat.zero_le _
  · injection hv with _ _ hc; subst hc; exact hm
theorem SlS.head_ {S : Nat → Prop} {w : World} {A : Option Addr} {n c q : Nat} {xs : List Value} (h : SlS S w 1 A n xs) (hq : q ≤ n) : SlS S w 1 (cutA A c 0 1) q (xs.take q) := by
  refine ⟨by rw [List.length_take, h.1]; omega, fun hn => ?_⟩
  obtain ⟨b, off, rfl, hb, hc⟩ := h.2 (by omega)
  refine ⟨b, off, ?_, hb, fun j u hu => hc j u ?_⟩
  · unfold cutA; split
    · rfl
    · rfl
  · rw [List.getElem?_take] at hu
    split at hu
    · exact hu
    · cases hu

def ReadRel1 (n : Nat) (s : List UInt8) (R : Option (List Nat × Nat)) (w1 : World) (vv pv iv : Value) (wr : World) : Prop :=
  ∃ i pad m c vals V, vv = .slice V m c ∧ pv = .int .i64 (pad : Nat) ∧ iv = .int .i64 (i : Nat) ∧ i ≤ n ∧ pad ≤ m ∧ m ≤ i ∧ Hid (vals.length = m ∧ (∀ x ∈ vals, x < 64) ∧ scanB vals pad (s.drop i) = R) ∧
    wr.ownsRow w1.heap.size 3 1 (.slice V m c) m (intCells vals) ∧ Below w1.heap.size w1 wr

def ReadRel2 (m : Nat) (vals : List Nat) (w2 : World) (ov iv : Value) (wr : World) : Prop :=
  ∃ p ol oc out O, ov = .slice O ol oc ∧ iv = .int .i64 (p : Nat) ∧ p ≤ m ∧ p % 4 = 0 ∧ ol * 4 = 3 * p ∧ ol ≤ oc ∧ Hid (out.length = ol ∧ out ++ bytes3 (vals.drop p) = bytes3 vals) ∧
    wr.ownsRow w2.heap.size 5 1 (.slice O ol oc) ol (Lib.byteCells out) ∧ Below w2.heap.size w2 wr

set_option maxRecDepth 100000 in
set_option maxHeartbeats 1000000 in
theorem Read_anyF (s : List UInt8) (w : World) (hs : s.length ≤ 9223372036854775807) :
    Calls Tryz.prog 241 #[str s] w (BytesResF w (readB s)) := by
  obtain ⟨i0, hi0, hz0, hz1, hz2⟩ := info_parts infoInt
  obtain ⟨j0, hj0, hjz0, hjz1, hjz2⟩ := info_parts infoByte
  by_cases h8 : 8000 < s.length
  · have hr : readB s = ([], 2) := by unfold readB; rw [if_pos h8]
    rw [hr]
    go_enter Tryz.func241, Tryz.ntmps241
    go_wp2_with fail
    go_ret2
    exact BytesResF.fail 2 (Below.refl _ _)
  · obtain ⟨R, hR⟩ : ∃ R, R = scanB [] 0 s := ⟨_, rfl⟩
    obtain ⟨r, hr⟩ : ∃ r, r = readB s := ⟨_, rfl⟩
    have hr2 : Hid (r = readFin R) := by
      show r = _
      rw [hr, hR]; unfold readB; rw [if_neg h8]
    rw [← hr]
    have HR := Lib.hid hR; clear hR hr
    obtain ⟨n, hn⟩ : ∃ n, n = s.length := ⟨_, rfl⟩
    have h8n : n ≤ 8000 := by omega
    obtain ⟨A, c, w1, hconv, hby, hnc, hb1, hlt1⟩ := run_toBytes (P := Tryz.prog) w 9 22 5 s Tryz.underlying9 Tryz.underlying22 Tryz.underlying5
    rw [← hn] at hconv hby hnc
    have Hn := Lib.hid hn
    have hlen : s.length ≤ 8000 := by omega
    clear hn h8 hs
    go_enter Tryz.func241, Tryz.ntmps241
    go_wp2_with fail
    go_loopw [4, 5, 20] (ReadRel1 n s R w1) (fun _ _ iv _ => n - (intOf iv).toNat)
    case atStart => exact ⟨0, 0, 0, 0, [], none, rfl, rfl, rfl, by omega, by omega, by omega, ⟨rfl, by simp, by rw [HR.out]; rfl⟩, World.ownsRow_nil _ _ _ _, Below.refl _ _⟩
    case round =>
      obtain ⟨i, pad, m, c4, vals, V, rfl, rfl, rfl, hi, hpm, hmi, hE, hown, hb2⟩ := hrel
      by_cases hin : i < n
      · obtain ⟨b, off, rfl, hbl, hcell1⟩ := hby.at_ hin
        have hcell : wr.cell? ⟨b, off + i, none⟩ = some (.int .u8 (nth s i)) := (hb2.cell (p := ⟨b, _, none⟩) hbl).trans hcell1
        have hx8 := nth_lt s i
        have his : Hid (i < s.length) := by rw [Hn.out] at hin; exact hin
        clear hcell1
        rcases blank_cases (nth s i) with ⟨hbk, h1⟩ | ⟨hbk, h1, h2⟩ | ⟨hbk, h1, h2, h3⟩ | ⟨hbk, h1, h2, h3, h4⟩ | ⟨hbk, h1, h2, h3, h4⟩
        case inr.inr.inr.inr =>
          have Hbk := Lib.hid hbk; clear hbk
          go_wp2_with fail
          refine (IndexByteR_any letters _ hx8 _).mono ?_
          rintro e w2 ⟨rfl, rfl⟩
          have hbd := idxI_bd letters (nth s i)
          rw [letters_len] at hbd
          obtain ⟨hbd1, hbd2⟩ := hbd
          have h63 : m + 1 ≤ maxLen := by unfold maxLen; omega
          have h47 : (m + 1) * 8 ≤ 140737488355328 := by omega
          by_cases he : nth s i = 61
          · have he1 : ((nth s i : Int) == 61) = true := by simp [he]
            have HE := Lib.hid he; clear he
            go_wp2_with (at_builtin; refine wpList_app rfl _ _ 62 rfl w1.heap.size 3 i0 (.int .i64 0) 1 8 Tryz.underlying62 hi0 hz0 hz1 hz2 rfl (by decide) V m c4 (intCells vals) rfl (hown.alloc _) _ _ 1 1 [.int .i64 0] rfl (Sl.one _ _ _) ?c1 h63 h47 ?c2 ?_)
            case c1 => intro u hu; simp at hu; subst hu; rfl
            case c2 => have := hb2.size; simp; omega
            intro S' c' w3 hown3 hb3 _
            go_wp2_with fail
            exact ⟨⟨i + 1, pad + 1, m + 1, c', vals ++ [0], S', rfl, by go_num, by go_num, by omega, by omega, by omega,
              ⟨by simp [hE.out.1], by intro x hx; simp at hx; rcases hx with hx | hx; exact hE.out.2.1 x hx; omega, by rw [← scan_eq his.out Hbk.out HE.out]; exact hE.out.2.2⟩, by rw [intCells_append]; exact hown3, (hb2.alloc hb2.size _).trans hb3⟩, by simp [intOf]; omega⟩
          · have he1 : ((nth s i : Int) == 61) = false := by simp; omega
            by_cases hk0 : idxI letters (nth s i) < 0
            · have hR0 : R = none := by rw [← hE.out.2.2]; exact scan_bad his.out Hbk.out he (.inl hk0)
              have hr0 : Hid (r = ([], 1)) := by show r = _; rw [hr2.out, hR0]; rfl
              clear hR0 he
              go_wp2_with fail
              go_ret2
              rw [hr0.out]
              exact BytesResF.fail 1 (hb1.trans (hb2.mono (by omega)))
            · by_cases hp0 : 0 < pad
              · have hR0 : R = none := by rw [← hE.out.2.2]; exact scan_bad his.out Hbk.out he (.inr hp0)
                have hr0 : Hid (r = ([], 1)) := by show r = _; rw [hr2.out, hR0]; rfl
                clear hR0 he
                go_wp2_with fail
                go_ret2
                rw [hr0.out]
                exact BytesResF.fail 1 (hb1.trans (hb2.mono (by omega)))
              · have HE := Lib.hid he; clear he
                go_wp2_with (at_builtin; refine wpList_app rfl _ _ 62 rfl w1.heap.size 3 i0 (.int .i64 0) 1 8 Tryz.underlying62 hi0 hz0 hz1 hz2 rfl (by decide) V m c4 (intCells vals) rfl (hown.alloc _) _ _ 1 1 [.int .i64 (idxI letters (nth s i))] rfl (Sl.one _ _ _) ?c3 h63 h47 ?c4 ?_)
                case c3 => intro u hu; simp at hu; subst hu; rfl
                case c4 => have := hb2.size; simp; omega
                intro S' c' w3 hown3 hb3 _
                go_wp2_with fail
                have hkk : ((idxI letters (nth s i)).toNat : Int) = idxI letters (nth s i) := by omega
                refine ⟨⟨i + 1, pad, m + 1, c', vals ++ [(idxI letters (nth s i)).toNat], S', rfl, rfl, by go_num, by omega, by omega, by omega,
                  ⟨by simp [hE.out.1], ?_, by rw [← scan_val his.out Hbk.out HE.out (by omega) (by omega)]; exact hE.out.2.2⟩, ?_, (hb2.alloc hb2.size _).trans hb3⟩, by simp [intOf]; omega⟩
                · intro x hx
                  simp at hx
                  rcases hx with hx | hx
                  · exact hE.out.2.1 x hx
                  · omega
                · rw [intCells_append]; show World.ownsRow _ _ _ _ _ _ (_ ++ [Value.int .i64 ((idxI letters (nth s i)).toNat : Int)]); rw [hkk]; exact hown3
        all_goals
          have Hbk := Lib.hid hbk; clear hbk
          go_wp2_with fail
          exact ⟨⟨i + 1, pad, m, c4, vals, V, rfl, rfl, by go_num, by omega, by omega, by omega, ⟨hE.out.1, hE.out.2.1, by rw [← scan_blank his.out Hbk.out]; exact hE.out.2.2⟩, hown, hb2⟩, by simp [intOf]; omega⟩
      · obtain rfl : i = n := by omega
        have hRv : R = some (vals, pad) := by rw [← hE.out.2.2, List.drop_of_length_le (by rw [Hn.out]; exact Nat.le_refl _)]; rfl
        have hr3 : r = if m % 4 != 0 || decide (2 < pad) then ([], 1) else cutPad (bytes3 vals) pad := by rw [hr2.out, hRv, ← hE.out.1]; rfl
        have hbel := hb1.trans (hb2.mono (Nat.le_of_lt hlt1))
        clear HR hRv hr2
        by_cases h4 : m % 4 = 0
        · have h4b : ((m : Int) % 4 != 0) = false := by simp; omega
          by_cases hp2 : 2 < pad
          · have hr4 : Hid (r = ([], 1)) := by show r = _; rw [hr3]; simp [hp2]
            clear hr3
            go_wp2_with fail
            go_ret2
            rw [hr4.out]
            exact BytesResF.fail 1 hbel
          · have hr4 : Hid (r = cutPad (bytes3 vals) pad) := by show r = _; rw [hr3]; simp [h4]; omega
            clear hr3
            have hE2 := hE.out
            have HV := Lib.hid hE2.1
            have hv64 := Lib.hid hE2.2.1
            clear hE hE2
            go_wp2_with fail
            obtain ⟨w2, rfl⟩ : ∃ w2 : World, w2 = wr := ⟨_, rfl⟩
            have hSv := Sl.of_own hown
            clear hby hconv hnc
            go_loopw [9, 10] (ReadRel2 m vals w2) (fun _ iv _ => m - (intOf iv).toNat)
            case atStart => exact ⟨0, 0, 0, [], none, rfl, rfl, by omega, rfl, rfl, by omega, ⟨rfl, rfl⟩, World.ownsRow_nil _ _ _ _, Below.refl _ _⟩
            case round =>
              obtain ⟨p, ol, oc, out, O, rfl, rfl, hp, hp4, hol, hoc, hE, hown3, hb3⟩ := hrel
              by_cases hpm : p < m
              · obtain ⟨g, off, rfl, hg, hcells⟩ := ints_opn hSv (by omega)
                have hx : ∀ k, k < m → wr.cell? ⟨g, off + k, none⟩ = some (.int .i64 (nthN vals k : Nat)) := fun k hk => (hb3.cell (p := ⟨g, _, none⟩) hg).trans (hcells k hk)
                have x0 := hx p (by omega)
                have x1 := hx (p + 1) (by omega)
                have x2 := hx (p + 2) (by omega)
                have x3 := hx (p + 3) (by omega)
                clear hx hcells
                obtain ⟨a, ha⟩ : ∃ a, a = nthN vals p := ⟨_, rfl⟩
                obtain ⟨b, hb⟩ : ∃ a, a = nthN vals (p + 1) := ⟨_, rfl⟩
                obtain ⟨d, hd⟩ : ∃ a, a = nthN vals (p + 2) := ⟨_, rfl⟩
                obtain ⟨f, hf⟩ : ∃ a, a = nthN vals (p + 3) := ⟨_, rfl⟩
                rw [← ha] at x0; rw [← hb] at x1; rw [← hd] at x2; rw [← hf] at x3
                have a64 : a < 64 := by rw [ha]; exact nthN_lt vals _ 64 (by omega) hv64.out
                have b64 : b < 64 := by rw [hb]; exact nthN_lt vals _ 64 (by omega) hv64.out
                have d64 : d < 64 := by rw [hd]; exact nthN_lt vals _ 64 (by omega) hv64.out
                have f64 : f < 64 := by rw [hf]; exact nthN_lt vals _ 64 (by omega) hv64.out
                have Hnum : Hid (num4 a b d f = num4 (nthN vals p) (nthN vals (p + 1)) (nthN vals (p + 2)) (nthN vals (p + 3))) := by rw [← ha, ← hb, ← hd, ← hf]; rfl
                clear ha hb hd hf
                go_wp2_with fail
                have i1 : IntKind.i64.wrap ((p : Int) + 1) = (p : Int) + 1 := IntWalk.i64_in _ (by omega)
                have i2 : IntKind.i64.wrap ((p : Int) + 2) = (p : Int) + 2 := IntWalk.i64_in _ (by omega)
                have i3 : IntKind.i64.wrap ((p : Int) + 3) = (p : Int) + 3 := IntWalk.i64_in _ (by omega)
                have j1 : ((p : Int) + 1).toNat = p + 1 := by omega
                have j2 : ((p : Int) + 2).toNat = p + 2 := by omega
                have j3 : ((p : Int) + 3).toNat = p + 3 := by omega
                have l0 : (p : Int) < m := by omega
                have l1 : (p : Int) + 1 < m := by omega
                have l2 : (p : Int) + 2 < m := by omega
                have l3 : (p : Int) + 3 < m := by omega
                have k1 : 0 ≤ (p : Int) + 1 := by omega
                have k2 : 0 ≤ (p : Int) + 2 := by omega
                have k3 : 0 ≤ (p : Int) + 3 := by omega
                obtain ⟨v1, hv1⟩ : ∃ v, v = a * 262144 + b * 4096 := ⟨_, rfl⟩
                obtain ⟨v2, hv2⟩ : ∃ v, v = v1 + d * 64 := ⟨_, rfl⟩
                obtain ⟨v, hv⟩ : ∃ v, v = num4 a b d f := ⟨_, rfl⟩
                have hvv : v = v2 + f := by rw [hv, hv2, hv1]; rfl
                have v24 : v < 16777216 := by omega
                have o1 : bits .or .i64 ((a : Int) * 262144) ((b : Int) * 4096) = (v1 : Int) := by
                  have h := i64_or (a * 262144) (b * 4096) (by omega) (by omega)
                  rw [show a * 262144 ||| b * 4096 = v1 from by rw [hv1]; exact or_low a (b * 4096) 18 (by omega)] at h
                  simpa using h
                have o2 : bits .or .i64 (v1 : Int) ((d : Int) * 64) = (v2 : Int) := by
                  have h := i64_or v1 (d * 64) (by omega) (by omega)
                  rw [show v1 ||| d * 64 = v2 from by
                    rw [hv2, show v1 = (a * 64 + b) * 2 ^ 12 from by omega]; exact or_low _ (d * 64) 12 (by omega)] at h
                  simpa using h
                have o3 : bits .or .i64 (v2 : Int) (f : Int) = (v : Int) := by
                  have h := i64_or v2 f (by omega) (by omega)
                  rw [show v2 ||| f = v from by
                    rw [hvv, show v2 = (a * 4096 + b * 64 + d) * 2 ^ 6 from by omega]; exact or_low _ f 6 (by omega)] at h
                  exact h
                rw [← hv] at Hnum
                clear hv1 hv2 hvv hv
                go_quiet (fail)
                clear i1 i2 i3 j1 j2 j3 l0 l1 l2 l3 k1 k2 k3 o1 o2 o3 x0 x1 x2 x3
                have h63 : ol + 3 ≤ maxLen := by unfold maxLen; omega
                have h47 : (ol + 3) * 1 ≤ 140737488355328 := by omega
                go_wp2_with (at_builtin; refine wpList_app rfl _ _ 22 rfl w2.heap.size 5 j0 (.int .u8 0) 1 1 Tryz.underlying22 hj0 hjz0 hjz1 hjz2 rfl (by decide) O ol oc (Lib.byteCells out) rfl (World.ownsRow.alloc (w := wr.drewN nq) hown3 _) _ _ 3 3 [.int .u8 ((v : Int) / 65536), .int .u8 ((v : Int) / 256 % 256), .int .u8 ((v : Int) % 256)] rfl (Sl.row (wr.drewN nq) _ 1 3 _ rfl) ?c5 h63 h47 ?c6 ?_)
                case c5 => intro u hu; simp at hu; rcases hu with rfl | rfl | rfl <;> rfl
                case c6 => have := hb3.size; simp; omega
                intro S' c' w4 hown4 hb4 _
                have hc' : ol + 3 ≤ c' := by
                  rcases hown4.2 with ⟨_, h0⟩ | ⟨g', cap', cur', hv', _, _, hnc', _⟩
                  · omega
                  · injection hv' with _ _ hcc; omega
                go_wp2_with fail
                refine ⟨⟨p + 4, ol + 3, c', out ++ three v, S', rfl, by go_num, by omega, by omega, by omega, hc', ?_, ?_, ?_⟩, by simp [intOf]; omega⟩
                · have h1 := hE.out.1
                  have h2 := hE.out.2
                  have h3 := bytes3_step vals (p / 4) (by have := HV.out; omega)
                  rw [show 4 * (p / 4) = p from by omega, show 4 * (p / 4 + 1) = p + 4 from by omega, ← Hnum.out] at h3
                  refine ⟨by simp [three, h1], ?_⟩
                  rw [← h2, h3]; simp
                · rw [byteCells_append, three_cells v v24]; exact hown4
                · exact ((belN hb3 nq).alloc hb3.size _).trans hb4
              · obtain rfl : p = m := by omega
                have hE2 := hE.out.2
                rw [List.drop_of_length_le (by rw [HV.out]; exact Nat.le_refl _)] at hE2
                have hout : out = bytes3 vals := by rw [← hE2]; simp [bytes3]
                subst hout
                have hE1 := hE.out.1
                have hr5 : Hid (r = cutPad (bytes3 vals) pad) := hr4
                clear hE hE2 hr4
                have HE1 := Lib.hid hE1; clear hE1
                have hbel2 := hbel.trans (hb3.mono (Nat.le_trans (Nat.le_of_lt hlt1) hb2.size))
                have hByO := By.of_own hown3
                have HF := Lib.hid (And.intro (SlS.change (S' := fun b => w.heap.size ≤ b ∧ b < _) (own_slsR hown3) (fun b hb => ⟨Nat.le_trans (Nat.le_trans (Nat.le_of_lt hlt1) hb2.size) hb.1, hb.2⟩) (fun _ _ => rfl)) (own_capR hown3))
                have hpol : pad ≤ ol := by omega
                obtain ⟨q, hq, hqo⟩ : ∃ q : Nat, (ol : Int) - (pad : Int) = (q : Int) ∧ Hid (q + pad = ol) := ⟨ol - pad, by omega, by show _ = _; omega⟩
                have hqle : q ≤ ol := by have := hqo.out; omega
                have hol8 : ol ≤ 6000 := by omega
                clear hb2 hb3 hbel hown hown3 hSv hpol
                go_wp2_with fail
                have hT := hByO.cut hqle hoc
                generalize cutA O oc q 1 = A5 at hT ⊢
                generalize hd : ol - q = d at hT ⊢
                have hdp : Hid (d = pad) := by have := hqo.out; show _ = _; omega
                have hd2 : d ≤ 2 := by have := hdp.out; omega
                clear hd
                go_loop [114] (fun iv => ∃ k : Nat, k ≤ d ∧ iv = .int .i64 k ∧ Hid (∀ j, j < k → nth ((bytes3 vals).drop q) j = 0)) (fun iv => d - (intOf iv).toNat)
                case atStart => exact ⟨0, by omega, rfl, fun j hj => absurd hj (by omega)⟩
                case round =>
                  obtain ⟨k, hk, rfl, hz⟩ := hrel
                  by_cases hkd : k < d
                  · obtain ⟨b, off, rfl, _, hc⟩ := hT.at_ hkd
                    by_cases hx0 : nth ((bytes3 vals).drop q) k = 0
                    · have hxb : ((nth ((bytes3 vals).drop q) k : Int) != 0) = false := by simp [hx0]
                      have HX := Lib.hid hx0; clear hx0
                      go_wp2_with fail
                      refine ⟨⟨k + 1, by omega, by go_num, fun j hj => ?_⟩, by simp [intOf]; omega⟩
                      rcases Nat.lt_or_ge j k with h | h
                      · exact hz.out j h
                      · rw [show j = k from by omega]; exact HX.out
                    · have hxb : ((nth ((bytes3 vals).drop q) k : Int) != 0) = true := by simp; omega
                      have hr6 : Hid (r = ([], 1)) := by
                        show r = _
                        rw [hr5.out]
                        exact cutPad_bad _ pad q k (by rw [HE1.out]; exact hqo.out) (by have := hdp.out; omega) hx0
                      clear hx0
                      go_wp2_with fail
                      go_ret2
                      rw [hr6.out]
                      exact BytesResF.fail 1 hbel2
                  · obtain rfl : k = d := by omega
                    have hr6 := cutPad_ok (bytes3 vals) pad q (by rw [HE1.out]; exact hqo.out) (fun j hj => hz.out j (by have := hdp.out; omega))
                    rw [← hr5.out] at hr6
                    by_cases hq4 : 4000 < q
                    · have hr7 : Hid (r = ([], 2)) := by show r = _; rw [hr6, if_pos hq4]
                      clear hr6
                      go_wp2_with fail
                      go_ret2
                      rw [hr7.out]
                      exact BytesResF.fail 2 hbel2
                    · have hr7 : Hid (r = ((bytes3 vals).take q, 0)) := by show r = _; rw [hr6, if_neg hq4]
                      clear hr6
                      go_wp2_with fail
                      go_ret2
                      rw [hr7.out]
                      have hlq : ((bytes3 vals).take q).length = q := by rw [List.length_take, HE1.out]; omega
                      refine ⟨cutA O oc 0 1, oc, ?_, ?_, ?_, HF.out.2, hbel2⟩
                      · show _ = Ending.returned (.tuple #[.slice _ ((bytes3 vals).take q).length _, .int .i64 ((0 : Nat) : Int)])
                        rw [hlq]; rfl
                      · show SlS _ _ 1 _ ((bytes3 vals).take q).length (Lib.byteCells ((bytes3 vals).take q))
                        rw [hlq]
                        have h := SlS.head_ (c := oc) (q := q) HF.out.1 (by omega)
                        have e : (Lib.byteCells (bytes3 vals)).take q = Lib.byteCells ((bytes3 vals).take q) := by unfold Lib.byteCells; rw [List.map_take]
                        rw [e] at h
                        exact h
                      · show ((bytes3 vals).take q).length ≤ oc
                        rw [hlq]; omega
        · have h4b : ((m : Int) % 4 != 0) = true := by simp; omega
          have hr4 : Hid (r = ([], 1)) := by show r = _; rw [hr3]; simp [h4]
          clear hr3
          go_wp2_with fail
          go_ret2
          rw [hr4.out]
          exact BytesResF.fail 1 hbel
theorem Read_any (s : List UInt8) (w : World) (hs : s.length ≤ 9223372036854775807) :
    Calls Tryz.prog 241 #[str s] w (BytesRes w (readB s)) := (Read_anyF s w hs).mono fun _ _ h => h.res
end Go.Proofs.YtlbdnohnngkapaaGreatDoor

namespace Go.Proofs.YtlbdnohnngkapaaGreatDoor
open Go.RowKit

/-- '[]byte(s)', its spare room a length. -/
theorem run_toBytesM {P : Program} (w : World) (src dst e : TypeId) (l : List UInt8) (hs : P.underlying src = some .string) (hd : P.underlying dst = some (.slice e)) (he : P.underlying e = some (.int .u8)) (hl : l.length ≤ maxLen) :
    ∃ A c w', (convert src dst (str l)).run P w = .ok (.slice A l.length c) w' ∧ By w' w'.heap.size A l.length l ∧ l.length ≤ c ∧ c ≤ maxLen ∧ Below w.heap.size w w' := by
  obtain ⟨A, c, w', h1, h2, h3, h4, _⟩ := run_toBytes (P := P) w src dst e l hs hd he
  have h := run_bytes_of_string (P := P) w src dst e ⟨l.toArray⟩ hs hd he
  have k := h1.symm.trans h
  injection k with k _
  injection k with _ _ k
  exact ⟨A, c, w', h1, h2, h3, by rw [k]; exact grownCap_le_maxLen _ _ _ _ (by show l.toArray.size ≤ maxLen; simpa using hl), h4⟩
def WriteRes (w : World) (r : List UInt8 × Nat) (e : Ending) (w' : World) : Prop :=
  ∃ A c, e = .returned (.tuple #[.slice A r.1.length c, .int .i64 r.2]) ∧ By w' w'.heap.size A r.1.length r.1 ∧ r.1.length ≤ c ∧ c ≤ maxLen ∧ Below w.heap.size w w'
theorem WriteRes.fail {w w' : World} (k : Nat) (h : Below w.heap.size w w') : WriteRes w ([], k) (.returned (.tuple #[.slice none 0 0, .int .i64 (k : Int)])) w' :=
  ⟨none, 0, rfl, By.nil_ _ _ _, Nat.le_refl _, Nat.zero_le _, h⟩
theorem writeM_len (p : PartD) : (writeM p).1.length ≤ 40000 := by
  unfold writeM
  split
  · simp
  · split
    · simp
    · show (textM p).length ≤ 40000; omega
set_option maxRecDepth 100000 in
set_option maxHeartbeats 2000000 in
theorem MWrite_any (p : PartD) (v : List Value) (w : World) (hp : PartAt (· < w.heap.size) w p v) (hM : MaxLenOk w) (hP : PowOk w) :
    Calls Tryz.prog 21 #[.agg v.toArray] w (WriteRes w (writeM p)) := by
  have hck := PCheck_any p v
  have htx := fun W => mtext_any 12 p v W
  obtain ⟨A, c, A2, c2, rfl, _⟩ := hp.open
  obtain ⟨n1, hn1⟩ : ∃ n1, n1 = p.body.length := ⟨_, rfl⟩
  obtain ⟨n2, hn2⟩ : ∃ n2, n2 = p.parts.length := ⟨_, rfl⟩
  rw [← hn1, ← hn2] at hp hck htx ⊢
  obtain ⟨W, hW⟩ : ∃ W, W = w.alloc (.cells #[str p.type, str p.cs, str p.id, str p.loc, .int .i64 p.how, .slice A n1 c, .slice A2 n2 c2] 25) := ⟨_, rfl⟩
  have hbW : Below w.heap.size w W := by rw [hW]; exact (Below.refl _ w).alloc (Nat.le_refl _) _
  have hbx : Box7 W w.heap.size (str p.type) (str p.cs) (str p.id) (str p.loc) (.int .i64 p.how) (.slice A n1 c) (.slice A2 n2 c2) := by rw [hW]; exact Box7.new w _ _ _ _ _ _ _ _
  have hkW := hck W ((hp.below hbW).more hbW.size)
  have hwm : writeM p = if checkD p ≠ 0 then ([], checkD p) else if 40000 < (textM p).length then ([], 2) else (textM p, 0) := rfl
  obtain ⟨R, hR⟩ : ∃ R, R = writeM p := ⟨_, rfl⟩
  rw [← hR] at hwm ⊢
  by_cases h0 : checkD p = 0
  · obtain ⟨g1, _, g3⟩ := checkM_parts h0
    rw [if_neg (by omega)] at hwm
    rw [h0] at hkW
    have ht2 := fun W' (hb : Below w.heap.size w W') => htx W' g3 g3 g1 ((hp.below hb).more hb.size) (hM.below hb) (hP.below hb)
    obtain ⟨T, hT⟩ : ∃ T, T = textM p := ⟨_, rfl⟩
    rw [← hT] at hwm ht2
    have HW := Lib.hid hW
    have Hk := Lib.hid hkW
    have Ht := Lib.hid ht2
    have Hbx := Lib.hid hbx
    have hwm' := Lib.hid hwm
    clear hwm hR hT hkW ht2 hck htx hp hM hP hn1 hn2 hW g1 g3 h0 hbx
    go_enter Tryz.func21, Tryz.ntmps21
    have ⟨x0, x1, x2, x3, x4, x5, x6⟩ := Hbx.out
    go_wp2_with fail
    rw [← HW.out]
    refine Hk.out.mono ?_
    rintro e w1 ⟨rfl, hb1⟩
    have hbx1 := Hbx.out.below hb1
    have hbel1 := hbW.trans (hb1.mono hbW.size)
    clear x0 x1 x2 x3 x4 x5 x6
    have ⟨x0, x1, x2, x3, x4, x5, x6⟩ := hbx1
    clear hb1
    go_wp2_with fail
    refine (Ht.out _ hbel1).mono ?_
    rintro e w2 ⟨rfl, hb2⟩
    have hbel2 := hbel1.trans (hb2.mono hbel1.size)
    by_cases h4 : 40000 < T.length
    · have d1 : decide ((40000 : Int) < (T.length : Int)) = true := by simp; omega
      have hR : R = ([], 2) := by rw [hwm'.out, if_pos h4]
      have HR := Lib.hid hR
      clear hR hwm' hb2 hbx1
      go_wp2_with fail
      go_ret2
      rw [HR.out]
      exact WriteRes.fail 2 hbel2
    · have d1 : decide ((40000 : Int) < (T.length : Int)) = false := by simp; omega
      have hR : R = (T, 0) := by rw [hwm'.out, if_neg h4]
      obtain ⟨A9, c9, w9, hrun, hby, hc9, hm9, hb9⟩ := run_toBytesM (P := Tryz.prog) w2 9 22 5 T Tryz.underlying9 Tryz.underlying22 Tryz.underlying5 (by unfold maxLen; omega)
      have HR := Lib.hid hR
      have Hby := Lib.hid hby
      clear hR hwm' hb2 hbx1 hby
      go_wp2_with fail
      go_ret2
      rw [HR.out]
      exact ⟨A9, c9, rfl, Hby.out, hc9, hm9, hbel2.trans (hb9.mono hbel2.size)⟩
  · rw [if_pos h0] at hwm
    have de : ((checkD p : Int) != 0) = true := by simp; omega
    obtain ⟨K, hK⟩ : ∃ K, K = checkD p := ⟨_, rfl⟩
    rw [← hK] at hwm hkW de
    have HW := Lib.hid hW
    have Hk := Lib.hid hkW
    have Hw := Lib.hid hwm
    have Hbx := Lib.hid hbx
    clear hR hkW hck htx hp hM hP hn1 hn2 hW h0 hK hwm hbx
    go_enter Tryz.func21, Tryz.ntmps21
    have ⟨x0, x1, x2, x3, x4, x5, x6⟩ := Hbx.out
    go_wp2_with fail
    rw [← HW.out]
    refine Hk.out.mono ?_
    rintro e w1 ⟨rfl, hb1⟩
    go_wp2_with fail
    go_ret2
    rw [Hw.out]
    exact WriteRes.fail K (hbW.trans (hb1.mono hbW.size))
end Go.Proofs.YtlbdnohnngkapaaGreatDoor

namespace Go.Proofs.YtlbdnohnngkapaaGreatDoor
open Go.RowKit

theorem mid_bytes (w : World) (A : Option Addr) (n c : Nat) (ki kj : IntKind) (i j : Int) (h0 : 0 ≤ i) (h1 : i ≤ j) (h2 : j ≤ n) (hc : n ≤ c) :
    (Instr.slice 22 (.slice A n c) (some (.int ki i)) (some (.int kj j)) none).run Tryz.prog w = .ok (.slice (cutA A c i.toNat 1) (j.toNat - i.toNat) (c - i.toNat)) w :=
  run_mid w _ _ 1 Tryz.underlying22 (Tryz.sizeOf5 w) A n c ki kj i j h0 h1 h2 hc
attribute [local go_sem high] cut_bytes mid_bytes
theorem infoBsM : (Tryz.prog.info? 22).map (fun i => (i.zero, i.size, i.bytes)) = some (some (.slice none 0 0), 1, 24) := by kernel_rfl
/-- The row of texts under way, each in memory of its own. -/
def SpRow (L : Nat) (w : World) (v : Value) (vs : List Value) (out : List (List UInt8)) : Prop :=
  vs.length = out.length ∧ ∀ (j : Nat) (x : List UInt8), out[j]? = some x → ∃ A d, vs[j]? = some (Value.slice A x.length d) ∧ SlS (fun b => L ≤ b ∧ b < w.heap.size ∧ Value.ownBlock v ≠ some b) w 1 A x.length (Lib.byteCells x) ∧ x.length ≤ d ∧ d ≤ maxLen
theorem SpRow.nil_ (L : Nat) (w : World) (v : Value) : SpRow L w v [] [] := ⟨rfl, fun j x h => by simp at h⟩
theorem SpRow.below {L : Nat} {w w' : World} {v : Value} {vs : List Value} {out : List (List UInt8)} (h : SpRow L w v vs out) (hb : Below w.heap.size w w') : SpRow L w' v vs out := by
  refine ⟨h.1, fun j x hx => ?_⟩
  obtain ⟨A, d, h1, h2, h3, h4⟩ := h.2 j x hx
  exact ⟨A, d, h1, SlS.change h2 (fun b hb' => ⟨hb'.1, Nat.lt_of_lt_of_le hb'.2.1 hb.size, hb'.2.2⟩) (fun q hq => hb.cell hq.2.1), h3, h4⟩
theorem SpRow.mono {L L' : Nat} {w : World} {v : Value} {vs : List Value} {out : List (List UInt8)} (h : SpRow L w v vs out) (hL : L' ≤ L) : SpRow L' w v vs out := by
  refine ⟨h.1, fun j x hx => ?_⟩
  obtain ⟨A, d, h1, h2, h3, h4⟩ := h.2 j x hx
  exact ⟨A, d, h1, SlS.change h2 (fun b hb' => ⟨Nat.le_trans hL hb'.1, hb'.2⟩) (fun q hq => rfl), h3, h4⟩
theorem SpRow.one {L : Nat} {w : World} {v : Value} {vs : List Value} {out : List (List UInt8)} (h : SpRow L w v vs out) : ∀ u ∈ vs, u.oneCell' = true := by
  intro u hu
  obtain ⟨j, hj⟩ := List.getElem?_of_mem hu
  have hjl : j < out.length := by
    rw [← h.1]
    rcases Nat.lt_or_ge j vs.length with h' | h'
    · exact h'
    · rw [List.getElem?_eq_none h'] at hj; cases hj
  obtain ⟨A, d, h1, _⟩ := h.2 j _ (List.getElem?_eq_getElem hjl)
  rw [hj] at h1
  injection h1 with h1
  rw [h1]
  rfl
theorem SpRow.app {L : Nat} {w w' : World} {v v' : Value} {vs : List Value} {out : List (List UInt8)} (h : SpRow L w v vs out) (A : Option Addr) (d : Nat) (x : List UInt8)
    (hx : SlS (fun b => L ≤ b ∧ b < w.heap.size ∧ Value.ownBlock v ≠ some b) w 1 A x.length (Lib.byteCells x)) (h1 : x.length ≤ d) (h2 : d ≤ maxLen)
    (hgr : w.grownBy w' (Value.ownBlock v)) (hat : Value.ownBlock v' = Value.ownBlock v ∨ Value.ownBlock v' = some w.heap.size) : SpRow L w' v' (vs ++ [.slice A x.length d]) (out ++ [x]) := by
  have hch : ∀ (A : Option Addr) (y : List UInt8), SlS (fun b => L ≤ b ∧ b < w.heap.size ∧ Value.ownBlock v ≠ some b) w 1 A y.length (Lib.byteCells y) → SlS (fun b => L ≤ b ∧ b < w'.heap.size ∧ Value.ownBlock v' ≠ some b) w' 1 A y.length (Lib.byteCells y) := by
    intro A y hy
    refine SlS.change hy (fun b hb => ⟨hb.1, by have := hgr.size; omega, ?_⟩) (fun q hq => World.cell?_of_block (hgr.block _ hq.2.1 (fun e => hq.2.2 e.symm)))
    rcases hat with e | e
    · rw [e]; exact hb.2.2
    · rw [e]
      intro e2
      injection e2 with e2
      omega
  refine ⟨by rw [List.length_append, List.length_append, h.1]; rfl, fun j y hy => ?_⟩
  rcases Nat.lt_or_ge j out.length with hj | hj
  · rw [List.getElem?_append_left hj] at hy
    obtain ⟨A', d', g1, g2, g3, g4⟩ := h.2 j y hy
    exact ⟨A', d', by rw [List.getElem?_append_left (by rw [h.1]; exact hj)]; exact g1, hch _ _ g2, g3, g4⟩
  · rw [List.getElem?_append_right hj] at hy
    have hj0 : j - out.length = 0 := by
      rcases Nat.eq_zero_or_pos (j - out.length) with h' | h'
      · exact h'
      · rw [List.getElem?_eq_none (by simp; omega)] at hy; cases hy
    rw [hj0] at hy
    have hy := Option.some.inj hy
    subst hy
    exact ⟨A, d, by rw [List.getElem?_append_right (by rw [h.1]; exact hj), h.1, hj0]; rfl, hch _ _ hx, h1, h2⟩
/-- What Split leaves. -/
def SplitRes (r : List (List UInt8) × Nat) (w : World) (e : Ending) (w' : World) : Prop :=
  ∃ S c vs v, e = .returned (.tuple #[.slice S r.1.length c, .int .i64 (r.2 : Nat)]) ∧ SlS (fun b => w.heap.size ≤ b ∧ b < w'.heap.size) w' 1 S r.1.length vs ∧ SpRow w.heap.size w' v vs r.1 ∧ Below w.heap.size w w'
theorem SplitRes.fail {w w' : World} (k : Nat) (h : Below w.heap.size w w') : SplitRes ([], k) w (.returned (.tuple #[.slice none 0 0, .int .i64 (k : Int)])) w' :=
  ⟨none, 0, [], .slice none 0 0, rfl, ⟨rfl, fun h => absurd h (by simp)⟩, SpRow.nil_ _ _ _, h⟩
/-- Where the part began that is read. -/
def curAt (b : List UInt8) (fr : Int) (at_ : Nat) (cur : Option (List UInt8)) : Prop := (fr = -1 ∧ cur = none) ∨ ∃ f : Nat, fr = f ∧ f ≤ at_ ∧ cur = some ((b.take at_).drop f)
def SpRel (w : World) (n : Nat) (b border : List UInt8) (R : List (List UInt8) × Nat) (v4 v5 v6 v7 v8 : Value) (wr : World) : Prop :=
  ∃ (at_ k i c : Nat) (fr : Int) (S : Option Addr) (vs : List Value) (out : List (List UInt8)) (cur : Option (List UInt8)), v4 = .slice none 0 0 ∧ v5 = .int .i64 0 ∧ v6 = .slice S i c ∧ v7 = .int .i64 fr ∧ v8 = .int .i64 (at_ : Nat) ∧ at_ ≤ n ∧ i ≤ at_ ∧ -1 ≤ fr ∧ fr ≤ at_ ∧
    Hid (curAt b fr at_ cur) ∧ Hid (splitF border k (b.drop at_) cur out = R ∧ n - at_ < k) ∧ out.length = i ∧ wr.ownsRow w.heap.size 22 1 (.slice S i c) i vs ∧ SpRow w.heap.size wr (.slice S i c) vs out ∧ Below w.heap.size w wr
theorem cut_grow (b : List UInt8) {f a e : Nat} (h1 : f ≤ a) (h2 : a ≤ e) : (b.take a).drop f ++ (b.take e).drop a = (b.take e).drop f := by
  have e1 : b.take a = (b.take e).take a := by rw [List.take_take, Nat.min_eq_left h2]
  have e2 : (b.take e).drop a = ((b.take e).drop f).drop (a - f) := by rw [List.drop_drop]; congr 1; omega
  have e3 : ((b.take e).take a).drop f = ((b.take e).drop f).take (a - f) := by rw [List.drop_take]
  rw [e1, e3, e2, List.take_append_drop]
set_option maxRecDepth 100000 in
set_option maxHeartbeats 4000000 in
theorem Split_any (b border : List UInt8) (A : Option Addr) (n c : Nat) (w : World) (hb : By w w.heap.size A n b) (hn : n ≤ c) (_hc : c ≤ maxLen) (hbd : border.length ≤ maxLen) :
    Calls Tryz.prog 22 #[.slice A n c, str border] w (SplitRes (splitM b border) w) := by
  obtain ⟨i0, hi0, hz0, hz1, hz2⟩ := info_parts infoBsM
  have hl := hb.len
  unfold maxLen at hbd
  by_cases h4 : 40000 < n
  · have hR : splitM b border = ([], 2) := by unfold splitM; rw [if_pos (by omega)]
    rw [hR]
    have d1 : decide ((40000 : Int) < n) = true := by simp; omega
    clear hR hb hl
    go_enter Tryz.func22, Tryz.ntmps22
    go_wp2_with fail
    go_ret2
    exact SplitRes.fail 2 (Below.refl _ _)
  · have d1 : decide ((40000 : Int) < n) = false := by simp; omega
    by_cases hb0 : border = []
    · have hR : splitM b border = ([], 3) := by unfold splitM; rw [if_neg (by omega), if_pos (.inl hb0)]
      rw [hR]
      have d2 : border.isEmpty = true := by rw [hb0]; rfl
      have d3 : (border == []) = true := by rw [hb0]; rfl
      have Hb0 := Lib.hid hb0
      clear hR hb hl hb0
      go_enter Tryz.func22, Tryz.ntmps22
      go_wp2_with fail
      go_ret2
      exact SplitRes.fail 3 (Below.refl _ _)
    · have d2 : border.isEmpty = false := by cases border with | nil => exact absurd rfl hb0 | cons _ _ => rfl
      have d3 : (border == []) = false := by simpa using hb0
      by_cases hb6 : 60 < border.length
      · have hR : splitM b border = ([], 3) := by unfold splitM; rw [if_neg (by omega), if_pos (.inr hb6)]
        rw [hR]
        have d4 : decide ((60 : Int) < border.length) = true := by simp; omega
        clear hR hb hl hb0
        go_enter Tryz.func22, Tryz.ntmps22
        go_wp2_with fail
        go_ret2
        exact SplitRes.fail 3 (Below.refl _ _)
      · have hR : splitM b border = splitF border (b.length + 1) b none [] := by unfold splitM; rw [if_neg (by omega), if_neg (by intro h; rcases h with h | h; exact hb0 h; exact hb6 h)]
        rw [hR]
        have d4 : decide ((60 : Int) < border.length) = false := by simp; omega
        obtain ⟨R, hRR⟩ : ∃ R, R = splitF border (b.length + 1) b none [] := ⟨_, rfl⟩
        rw [← hRR]
        have HR := Lib.hid hRR
        have HB := Lib.hid hb
        have Hl := Lib.hid hl
        have Hb0 := Lib.hid hb0
        have hn4 : n ≤ 40000 := by omega
        have hb60 : border.length ≤ 60 := by omega
        clear hR hRR hb hl hb0 h4 hb6
        go_enter Tryz.func22, Tryz.ntmps22
        go_wp2_with fail
        go_loopw [4, 5, 6, 7, 8] (SpRel w n b border R) (fun _ _ _ _ v8 _ => n - (intOf v8).toNat)
        case atStart => exact ⟨0, b.length + 1, 0, 0, -1, none, [], [], none, rfl, rfl, rfl, rfl, rfl, Nat.zero_le _, Nat.le_refl _, by omega, by omega, .inl ⟨rfl, rfl⟩, ⟨HR.out.symm, by rw [Hl.out]; omega⟩, rfl, World.ownsRow_nil _ _ _ _, SpRow.nil_ _ _ _, Below.refl _ _⟩
        case round =>
          obtain ⟨at_, k, i, cs, fr, S, vs, out, cur, rfl, rfl, rfl, rfl, rfl, hat, hia, hf0, hf1, hcur, hE, hol, hown, hrow, hbel⟩ := hrel
          by_cases hlt : at_ < n
          · obtain ⟨r, hr⟩ : ∃ r, r = b.drop at_ := ⟨_, rfl⟩
            have hrl : r.length = n - at_ := by rw [hr, List.length_drop, Hl.out]
            have hr0 : r ≠ [] := fun e => by rw [e] at hrl; simp at hrl; omega
            obtain ⟨k, rfl⟩ : ∃ k', k = k' + 1 := ⟨k - 1, by have := hE.out.2; omega⟩
            have hE1 := hE.out.1
            have hE2 := hE.out.2
            rw [← hr, splitF, if_neg hr0] at hE1
            have hbd10 := idxI_bd r 10
            have hxi : Lib.indexByte r 10 = idxI r 10 := rfl
            obtain ⟨x, hx⟩ : ∃ x, x = idxI r 10 := ⟨_, rfl⟩
            obtain ⟨en, hen⟩ : ∃ en, en = if x < 0 then n else at_ + x.toNat + 1 := ⟨_, rfl⟩
            rw [← hx] at hbd10
            have hen1 : at_ < en ∧ en ≤ n := by
              rw [hen]
              split <;> omega
            have hln : lineM r = ((b.take en).drop at_, b.drop en) := by
              unfold lineM
              rw [hxi, ← hx]
              by_cases h0 : x < 0
              · rw [if_pos h0] at hen ⊢
                rw [hen, List.take_of_length_le (by rw [Hl.out]; exact Nat.le_refl _), show b.drop n = [] from List.drop_of_length_le (by rw [Hl.out]; exact Nat.le_refl _), hr]
              · rw [if_neg h0] at hen ⊢
                rw [hr, hen, List.drop_drop, List.take_drop]
                congr 2 <;> omega
            rw [hln] at hE1
            simp only at hE1
            have hby := (HB.out.below hbel)
            have hbyr := (hby.more hbel.size).cut (k := at_) (c := c) hat hn
            rw [← hr] at hbyr
            have hib := ByteAt r 10 (cutA A c at_ 1) (n - at_) (c - at_) wr.heap.size wr hbyr (by omega)
            rw [← hx] at hib
            have hbyl := ((hby.more hbel.size).upto hen1.2).cut (k := at_) (c := c) (Nat.le_of_lt hen1.1) (by omega)
            have hts := run_toStr (P := Tryz.prog) wr 22 9 5 _ (cutA A c at_ 1) (en - at_) (c - at_) _ hbyl Tryz.underlying22 Tryz.underlying5 Tryz.underlying9
            obtain ⟨l1, hl1⟩ : ∃ l, l = (b.take en).drop at_ := ⟨_, rfl⟩
            have hl1l : l1.length = en - at_ := by rw [hl1, List.length_drop, List.length_take, Hl.out]; omega
            rw [← hl1] at hts hE1
            have htr := fun W => TrimRight_any l1 [32, 9, 13, 10] W (by unfold maxLen; omega) (by decide) (by decide)
            have hblen : (bareM l1).length ≤ l1.length := by
              obtain ⟨z, hz⟩ := bare_pre l1
              have := congrArg List.length hz
              rw [List.length_append] at this
              omega
            obtain ⟨bl, hbl⟩ : ∃ bl, bl = bareM l1 := ⟨_, rfl⟩
            have htr2 : ∀ W, Calls Tryz.prog 79 #[str l1, .string ⟨([32, 9, 13, 10] : List UInt8).toArray⟩] W fun e w' => e = .returned (str bl) ∧ Below W.heap.size W w' := fun W => by rw [hbl]; exact htr W
            rw [← hbl] at hE1 hblen
            have Hib := Lib.hid hib
            have Htr := Lib.hid htr2
            have HE1 := Lib.hid hE1
            have Hen := Lib.hid hen
            have Hhr := Lib.hid hr
            have Hx := Lib.hid hx
            have Hl1 := Lib.hid hl1
            have Hbl := Lib.hid hbl
            have hend1 := hen1.1
            have hend2 := hen1.2
            have Hcur := Lib.hid hcur.out
            have Hown := Lib.hid hown
            have Hrow := Lib.hid hrow
            have a0 : (0 : Int) ≤ (at_ : Int) := by omega
            have a1 : (at_ : Int) ≤ n := by omega
            have e0 : (at_ : Int) ≤ en := by omega
            have e1 : (en : Int) ≤ n := by omega
            clear hib htr htr2 hE1 hen hr hx hl1 hbl hxi hln hr0 hby hbyr hbyl hen1 hown hrow hE hcur
            obtain ⟨tk, htk⟩ : ∃ t, t = decide ((0 : Int) ≤ x) := ⟨_, rfl⟩
            have dk : decide ((0 : Int) ≤ x) = tk := htk.symm
            have Htk := Lib.hid htk
            have Hk := Lib.hid (show n - at_ < k + 1 from hE2)
            clear htk hE2
            go_wp2_with fail
            refine Hib.out.mono ?_
            rintro e w1 ⟨rfl, rfl⟩
            go_upto_if 33 with (fail)
            go_cut [9] from 32 to 37 (fun s9 wx => s9 = .int .i64 (en : Nat) ∧ wr = wx)
            case first =>
              by_cases hx0 : x < 0
              · obtain rfl : tk = false := by rw [Htk.out]; simp; omega
                have hee : en = n := by rw [Hen.out, if_pos hx0]
                have Hee := Lib.hid hee
                clear hee hx0
                go_wp2_with fail
                go_meet
                exact ⟨by rw [Hee.out], rfl⟩
              · obtain rfl : tk = true := by rw [Htk.out]; simp; omega
                have hee : en = at_ + x.toNat + 1 := by rw [Hen.out, if_neg hx0]
                have hx1 : 0 ≤ x := by omega
                have hx2 : x ≤ 40000 := by omega
                have hei : (at_ : Int) + x + 1 = (en : Int) := by omega
                have Hei := Lib.hid hei
                clear hee hei hx0
                go_wp2_with fail
                go_meet
                exact ⟨by rw [Hei.out], rfl⟩
            case rest =>
              obtain ⟨rfl, hwc⟩ := hcut
              subst hwc
              go_wp2_with fail
              refine (Htr.out _).mono ?_
              rintro e wt ⟨rfl, hbt⟩
              have hownT := own_below Hown.out hbt
              have hrowT := Hrow.out.below hbt
              have hbelT := hbel.trans (hbt.mono hbel.size)
              by_cases ht1 : bl = dash border
              · have dt1 : (bl == 45 :: 45 :: border) = true := by rw [ht1]; exact beq_self_eq_true _
                have hL2 : 2 + border.length ≤ 62 := by omega
                obtain ⟨out2, hout2⟩ : ∃ o, o = openM cur out := ⟨_, rfl⟩
                have Hout2 := Lib.hid hout2
                have ho2l : out2.length ≤ i + 1 := by
                  rw [hout2]
                  unfold openM
                  split
                  · omega
                  · rw [List.length_append]; simp; omega
                have hE3 : Hid (splitF border k (b.drop en) (some []) out2 = R) := by
                  have this := HE1.out
                  rw [if_pos (show bl = [45, 45] ++ border from ht1)] at this
                  rw [← hout2] at this
                  exact this
                obtain ⟨tb, htb⟩ : ∃ t, t = decide ((0 : Int) ≤ fr) := ⟨_, rfl⟩
                have d0 : decide ((0 : Int) ≤ fr) = tb := htb.symm
                have Htb := Lib.hid htb
                have Ht1 := Lib.hid ht1
                clear hout2 htb HE1 Hbl ht1
                go_upto_if 56 with (fail)
                go_cut [6] from 55 to 65 (fun s6 wx => ∃ S' c' vs', s6 = .slice S' out2.length c' ∧ wx.ownsRow w.heap.size 22 1 (.slice S' out2.length c') out2.length vs' ∧ SpRow w.heap.size wx (.slice S' out2.length c') vs' out2 ∧ Below w.heap.size w wx)
                case first =>
                  rcases Hcur.out with ⟨hf, hcn⟩ | ⟨f, hf, hfa, hcs⟩
                  · obtain rfl : tb = false := by rw [Htb.out, hf]; rfl
                    have ho : out2 = out := by rw [Hout2.out, hcn]; rfl
                    have Ho := Lib.hid (And.intro ho hol)
                    have Hfin := Lib.hid (And.intro hownT (And.intro hrowT hbelT))
                    clear hf hcn ho hownT hrowT
                    go_wp2_with fail
                    go_meet
                    obtain ⟨rfl, rfl⟩ := Ho.out
                    exact ⟨S, cs, vs, rfl, Hfin.out⟩
                  · obtain rfl : tb = true := by rw [Htb.out, hf]; simp
                    have ho : out2 = out ++ [innerM ((b.take at_).drop f)] := by rw [Hout2.out, hcs]; rfl
                    have f0 : (0 : Int) ≤ fr := by omega
                    have f2 : fr.toNat = f := by omega
                    have hbyT := (HB.out.below hbelT).more hbelT.size
                    have hbyi := (hbyT.upto hat).cut (k := f) (c := c) hfa (by omega)
                    have hin := inner_any _ (cutA A c f 1) (at_ - f) (c - f) wt.heap.size wt hbyi (Nat.le_refl _) (by omega) (by omega)
                    have hilen : (innerM ((b.take at_).drop f)).length ≤ at_ - f := by
                      have h1 : ∀ (l : List UInt8) (c : UInt8), (chopB l c).length ≤ l.length := by
                        intro l c
                        unfold chopB
                        split
                        · simp
                        · exact Nat.le_refl _
                      have h2 := h1 (chopB ((b.take at_).drop f) 10) 13
                      have h3 := h1 ((b.take at_).drop f) 10
                      have h4 : ((b.take at_).drop f).length ≤ at_ - f := by rw [List.length_drop, List.length_take]; omega
                      unfold innerM
                      omega
                    obtain ⟨iq, hiq⟩ : ∃ q, q = innerM ((b.take at_).drop f) := ⟨_, rfl⟩
                    unfold InnerRes at hin
                    rw [← hiq] at hin ho hilen
                    have Hin := Lib.hid hin
                    have Hf2 := Lib.hid f2
                    have Ho := Lib.hid ho
                    have HbT := Lib.hid hbelT
                    have HownT := Lib.hid hownT
                    have HrowT := Lib.hid hrowT
                    have hfi : fr ≤ at_ := by omega
                    clear hf hcs ho hin hbyi hbyT hiq f2 hownT hrowT
                    go_wp2_with fail
                    rw [Hf2.out]
                    refine Hin.out.mono ?_
                    rintro e w3 ⟨m3, rfl, hm3, hby3, hb3⟩
                    have hm3' : m3 = iq.length := hby3.len.symm
                    have hcl := Clone_bytes iq (cutA A c f 1) m3 (c - f) wt.heap.size w3 hby3 (by omega)
                    have Hcl := Lib.hid hcl
                    have hown3 := own_below HownT.out hb3
                    have hrow3 := HrowT.out.below hb3
                    have hbel3 := HbT.out.trans (hb3.mono HbT.out.size)
                    clear hcl hby3 hm3' hb3
                    go_wp2_with fail
                    refine Hcl.out.mono ?_
                    rintro e w4 ⟨A5, c5, rfl, hs5, hc5, hm5, hb5⟩
                    have hown4 := own_below hown3 hb5
                    have hrow4 := hrow3.below hb5
                    have hbel4 := hbel3.trans (hb5.mono hbel3.size)
                    have hs6 : SlS (fun b => w.heap.size ≤ b ∧ b < (w4.alloc (.cells #[.slice A5 iq.length c5] 22)).heap.size ∧ Value.ownBlock (.slice S i cs) ≠ some b) (w4.alloc (.cells #[.slice A5 iq.length c5] 22)) 1 A5 iq.length (Lib.byteCells iq) := by
                      refine SlS.change hs5 (fun b hb => ⟨Nat.le_trans hbel3.size hb.1, by have := hb.2; simp; omega, fun e => ?_⟩) (fun q hq => World.cell?_alloc_lt w4 _ q hq.2)
                      have := (hown3.lt b e).2
                      have := hb.1
                      omega
                    have hrow5 := hrow4.below ((Below.refl w4.heap.size w4).alloc (Nat.le_refl _) (.cells #[.slice A5 iq.length c5] 22))
                    have Hrow5 := Lib.hid hrow5
                    have Hs6 := Lib.hid hs6
                    have Hb4 := Lib.hid hbel4
                    have hsz4 := hbel4.size
                    clear hs5 hs6 hrow3 hrow4 hrow5 hown3 hb5 hbel3 hbel4 Hcl
                    go_wp2_with (at_builtin; refine wpListM_app2 rfl _ _ 36 rfl w.heap.size 22 i0 (.slice none 0 0) 1 24 Tryz.underlying36 hi0 hz0 hz1 hz2 rfl (by decide) S i cs vs rfl (hown4.alloc _) _ _ 1 1 [.slice A5 iq.length c5] rfl (Sl.one _ _ _) (fun u hu => by rw [List.mem_singleton.1 hu]; rfl) (by unfold maxLen; omega) (by omega) (by simp; omega) ?_)
                    intro S' c' w6 hown6 hb6 hgr6 hat6
                    have hrow6 := SpRow.app (v' := .slice S' (i + 1) c') Hrow5.out A5 c5 iq Hs6.out hc5 hm5 hgr6 (by simpa using hat6)
                    have ho2 : out2.length = i + 1 := by rw [Ho.out, List.length_append, hol]; rfl
                    have hb7 := (Hb4.out.alloc hsz4 (.cells #[.slice A5 iq.length c5] 22)).trans hb6
                    have Hfin : Hid (∃ (S'' : Option Addr) (c'' : Nat) (vs' : List Value), Value.slice S' (i + 1) c' = .slice S'' out2.length c'' ∧ w6.ownsRow w.heap.size 22 1 (.slice S'' out2.length c'') out2.length vs' ∧ SpRow w.heap.size w6 (.slice S'' out2.length c'') vs' out2 ∧ Below w.heap.size w w6) :=
                      Lib.hid ⟨S', c', _, by rw [ho2], by rw [ho2]; exact hown6, by rw [ho2, Ho.out]; exact hrow6, hb7⟩
                    clear hown6 hb6 hgr6 hat6 hrow6 ho2 hb7 hown4
                    go_wp2_with fail
                    go_meet
                    exact Hfin.out
                case rest =>
                  obtain ⟨S2, k2, vs2, rfl, hown2, hrow2, hbel2⟩ := hcut
                  have Hown2 := Lib.hid hown2
                  have Hrow2 := Lib.hid hrow2
                  clear hown2 hrow2
                  go_wp2_with fail
                  exact ⟨⟨en, k, out2.length, k2, en, S2, vs2, out2, some [], rfl, rfl, rfl, rfl, rfl, by omega, by omega, by omega, by omega, .inr ⟨en, rfl, Nat.le_refl _, by rw [List.drop_of_length_le (by rw [List.length_take]; omega)]⟩, ⟨hE3.out, by have := Hk.out; omega⟩, rfl, Hown2.out, Hrow2.out, hbel2⟩, by simp [intOf]; omega⟩
              · have dt1 : (bl == 45 :: 45 :: border) = false := beq_eq_false_iff_ne.2 ht1
                have hL2 : 2 + border.length ≤ 62 := by omega
                by_cases ht2 : bl = dash border ++ [45, 45]
                · have dt2 : (bl == 45 :: 45 :: (border ++ [45, 45])) = true := by rw [ht2]; exact beq_self_eq_true _
                  obtain ⟨out2, hout2⟩ : ∃ o, o = openM cur out := ⟨_, rfl⟩
                  have Hout2 := Lib.hid hout2
                  have ho2l : out2.length ≤ i + 1 := by
                    rw [hout2]
                    unfold openM
                    split
                    · omega
                    · rw [List.length_append]; simp; omega
                  have hE3 : Hid (R = (out2, 0)) := by
                    have this := HE1.out
                    rw [if_neg (show ¬ bl = [45, 45] ++ border from ht1), if_pos (show bl = [45, 45] ++ border ++ [45, 45] from ht2)] at this
                    replace this := this.symm
                    rw [← hout2] at this
                    exact this
                  obtain ⟨tb, htb⟩ : ∃ t, t = decide ((0 : Int) ≤ fr) := ⟨_, rfl⟩
                  have d0 : decide ((0 : Int) ≤ fr) = tb := htb.symm
                  have Htb := Lib.hid htb
                  have Ht1 := Lib.hid ht1
                  have Ht2 := Lib.hid ht2
                  clear ht2
                  clear hout2 htb HE1 Hbl ht1
                  go_upto_if 56 with (fail)
                  go_cut [6] from 55 to 65 (fun s6 wx => ∃ S' c' vs', s6 = .slice S' out2.length c' ∧ wx.ownsRow w.heap.size 22 1 (.slice S' out2.length c') out2.length vs' ∧ SpRow w.heap.size wx (.slice S' out2.length c') vs' out2 ∧ Below w.heap.size w wx)
                  case first =>
                    rcases Hcur.out with ⟨hf, hcn⟩ | ⟨f, hf, hfa, hcs⟩
                    · obtain rfl : tb = false := by rw [Htb.out, hf]; rfl
                      have ho : out2 = out := by rw [Hout2.out, hcn]; rfl
                      have Ho := Lib.hid (And.intro ho hol)
                      have Hfin := Lib.hid (And.intro hownT (And.intro hrowT hbelT))
                      clear hf hcn ho hownT hrowT
                      go_wp2_with fail
                      go_meet
                      obtain ⟨rfl, rfl⟩ := Ho.out
                      exact ⟨S, cs, vs, rfl, Hfin.out⟩
                    · obtain rfl : tb = true := by rw [Htb.out, hf]; simp
                      have ho : out2 = out ++ [innerM ((b.take at_).drop f)] := by rw [Hout2.out, hcs]; rfl
                      have f0 : (0 : Int) ≤ fr := by omega
                      have f2 : fr.toNat = f := by omega
                      have hbyT := (HB.out.below hbelT).more hbelT.size
                      have hbyi := (hbyT.upto hat).cut (k := f) (c := c) hfa (by omega)
                      have hin := inner_any _ (cutA A c f 1) (at_ - f) (c - f) wt.heap.size wt hbyi (Nat.le_refl _) (by omega) (by omega)
                      have hilen : (innerM ((b.take at_).drop f)).length ≤ at_ - f := by
                        have h1 : ∀ (l : List UInt8) (c : UInt8), (chopB l c).length ≤ l.length := by
                          intro l c
                          unfold chopB
                          split
                          · simp
                          · exact Nat.le_refl _
                        have h2 := h1 (chopB ((b.take at_).drop f) 10) 13
                        have h3 := h1 ((b.take at_).drop f) 10
                        have h4 : ((b.take at_).drop f).length ≤ at_ - f := by rw [List.length_drop, List.length_take]; omega
                        unfold innerM
                        omega
                      obtain ⟨iq, hiq⟩ : ∃ q, q = innerM ((b.take at_).drop f) := ⟨_, rfl⟩
                      unfold InnerRes at hin
                      rw [← hiq] at hin ho hilen
                      have Hin := Lib.hid hin
                      have Hf2 := Lib.hid f2
                      have Ho := Lib.hid ho
                      have HbT := Lib.hid hbelT
                      have HownT := Lib.hid hownT
                      have HrowT := Lib.hid hrowT
                      have hfi : fr ≤ at_ := by omega
                      clear hf hcs ho hin hbyi hbyT hiq f2 hownT hrowT
                      go_wp2_with fail
                      rw [Hf2.out]
                      refine Hin.out.mono ?_
                      rintro e w3 ⟨m3, rfl, hm3, hby3, hb3⟩
                      have hm3' : m3 = iq.length := hby3.len.symm
                      have hcl := Clone_bytes iq (cutA A c f 1) m3 (c - f) wt.heap.size w3 hby3 (by omega)
                      have Hcl := Lib.hid hcl
                      have hown3 := own_below HownT.out hb3
                      have hrow3 := HrowT.out.below hb3
                      have hbel3 := HbT.out.trans (hb3.mono HbT.out.size)
                      clear hcl hby3 hm3' hb3
                      go_wp2_with fail
                      refine Hcl.out.mono ?_
                      rintro e w4 ⟨A5, c5, rfl, hs5, hc5, hm5, hb5⟩
                      have hown4 := own_below hown3 hb5
                      have hrow4 := hrow3.below hb5
                      have hbel4 := hbel3.trans (hb5.mono hbel3.size)
                      have hs6 : SlS (fun b => w.heap.size ≤ b ∧ b < (w4.alloc (.cells #[.slice A5 iq.length c5] 22)).heap.size ∧ Value.ownBlock (.slice S i cs) ≠ some b) (w4.alloc (.cells #[.slice A5 iq.length c5] 22)) 1 A5 iq.length (Lib.byteCells iq) := by
                        refine SlS.change hs5 (fun b hb => ⟨Nat.le_trans hbel3.size hb.1, by have := hb.2; simp; omega, fun e => ?_⟩) (fun q hq => World.cell?_alloc_lt w4 _ q hq.2)
                        have := (hown3.lt b e).2
                        have := hb.1
                        omega
                      have hrow5 := hrow4.below ((Below.refl w4.heap.size w4).alloc (Nat.le_refl _) (.cells #[.slice A5 iq.length c5] 22))
                      have Hrow5 := Lib.hid hrow5
                      have Hs6 := Lib.hid hs6
                      have Hb4 := Lib.hid hbel4
                      have hsz4 := hbel4.size
                      clear hs5 hs6 hrow3 hrow4 hrow5 hown3 hb5 hbel3 hbel4 Hcl
                      go_wp2_with (at_builtin; refine wpListM_app2 rfl _ _ 36 rfl w.heap.size 22 i0 (.slice none 0 0) 1 24 Tryz.underlying36 hi0 hz0 hz1 hz2 rfl (by decide) S i cs vs rfl (hown4.alloc _) _ _ 1 1 [.slice A5 iq.length c5] rfl (Sl.one _ _ _) (fun u hu => by rw [List.mem_singleton.1 hu]; rfl) (by unfold maxLen; omega) (by omega) (by simp; omega) ?_)
                      intro S' c' w6 hown6 hb6 hgr6 hat6
                      have hrow6 := SpRow.app (v' := .slice S' (i + 1) c') Hrow5.out A5 c5 iq Hs6.out hc5 hm5 hgr6 (by simpa using hat6)
                      have ho2 : out2.length = i + 1 := by rw [Ho.out, List.length_append, hol]; rfl
                      have hb7 := (Hb4.out.alloc hsz4 (.cells #[.slice A5 iq.length c5] 22)).trans hb6
                      have Hfin : Hid (∃ (S'' : Option Addr) (c'' : Nat) (vs' : List Value), Value.slice S' (i + 1) c' = .slice S'' out2.length c'' ∧ w6.ownsRow w.heap.size 22 1 (.slice S'' out2.length c'') out2.length vs' ∧ SpRow w.heap.size w6 (.slice S'' out2.length c'') vs' out2 ∧ Below w.heap.size w w6) :=
                        Lib.hid ⟨S', c', _, by rw [ho2], by rw [ho2]; exact hown6, by rw [ho2, Ho.out]; exact hrow6, hb7⟩
                      clear hown6 hb6 hgr6 hat6 hrow6 ho2 hb7 hown4
                      go_wp2_with fail
                      go_meet
                      exact Hfin.out
                  case rest =>
                    obtain ⟨S2, k2, vs2, rfl, hown2, hrow2, hbel2⟩ := hcut
                    have Hown2 := Lib.hid hown2
                    have Hrow2 := Lib.hid hrow2
                    clear hown2 hrow2
                    go_wp2_with fail
                    go_ret2
                    rw [hE3.out]
                    exact ⟨S2, k2, vs2, _, rfl, own_slsM Hown2.out, Hrow2.out, hbel2⟩
                · have dt2 : (bl == 45 :: 45 :: (border ++ [45, 45])) = false := beq_eq_false_iff_ne.2 ht2
                  have hE3 : Hid (splitF border k (b.drop en) (cur.map (· ++ l1)) out = R) := by
                    have this := HE1.out
                    rw [if_neg (show ¬ bl = [45, 45] ++ border from ht1), if_neg (show ¬ bl = [45, 45] ++ border ++ [45, 45] from ht2)] at this
                    exact this
                  have hcur2 : Hid (curAt b fr en (cur.map (· ++ l1))) := by
                    rcases Hcur.out with ⟨hf, hcn⟩ | ⟨f, hf, hfa, hcs⟩
                    · exact .inl ⟨hf, by rw [hcn]; rfl⟩
                    · exact .inr ⟨f, hf, by omega, by rw [hcs, Hl1.out, Option.map_some, cut_grow b hfa (by omega)]⟩
                  have HownT := Lib.hid hownT
                  have HrowT := Lib.hid hrowT
                  clear ht1 ht2 HE1 hownT hrowT
                  go_wp2_with fail
                  exact ⟨⟨en, k, i, cs, fr, S, vs, out, cur.map (· ++ l1), rfl, rfl, rfl, rfl, rfl, by omega, by omega, by omega, by omega, hcur2.out, ⟨hE3.out, by have := Hk.out; omega⟩, hol, HownT.out, HrowT.out, hbelT⟩, by simp [intOf]; omega⟩
          · have hR : R = ([], 1) := by
              have h1 := hE.out.1
              have h2 : b.drop at_ = [] := List.drop_of_length_le (by rw [Hl.out]; omega)
              rw [h2] at h1
              rw [← h1]
              cases k with
              | zero => rfl
              | succ k => rw [splitF, if_pos rfl]
            have HR2 := Lib.hid hR
            clear hR hE hown hrow
            go_wp2_with fail
            go_ret2
            rw [HR2.out]
            exact SplitRes.fail 1 hbel
end Go.Proofs.YtlbdnohnngkapaaGreatDoor

namespace Go.Proofs.YtlbdnohnngkapaaGreatDoor

/-! ### quote.Read's steps, by places -/
theorem drop_at (b : List UInt8) (i : Nat) (h : i < b.length) : ∃ c, c.toNat = nth b i ∧ b.drop i = c :: b.drop (i + 1) :=
  ⟨b[i], by rw [nth_of b i h], List.drop_eq_getElem_cons h⟩
theorem decQ_plain (b : List UInt8) (i : Nat) (h : i < b.length) (h61 : nth b i ≠ 61) : decQ (b.drop i) = (decQ (b.drop (i + 1))).map (UInt8.ofNat (nth b i) :: ·) := by
  obtain ⟨c, hc, hd⟩ := drop_at b i h
  rw [hd]
  conv => lhs; unfold decQ
  rw [if_neg (by rw [hc]; simpa using h61), ← hc, UInt8.ofNat_toNat]
theorem decQ_short (b : List UInt8) (i : Nat) (h : i < b.length) (h61 : nth b i = 61) (h2 : b.length ≤ i + 2) : decQ (b.drop i) = none := by
  obtain ⟨c, hc, hd⟩ := drop_at b i h
  rw [hd]
  have hl : (b.drop (i + 1)).length ≤ 1 := by simp; omega
  unfold decQ
  rw [if_pos (by rw [hc]; simpa using h61)]
  split
  · rename_i e; have := congrArg List.length e; simp at this; omega
  · rfl
theorem decQ_two (b : List UInt8) (i : Nat) (h61 : nth b i = 61) (h2 : i + 2 < b.length) :
    decQ (b.drop i) = if decide (hexQ (nth b (i + 1)) < 0) || decide (hexQ (nth b (i + 2)) < 0) then none else (decQ (b.drop (i + 3))).map (UInt8.ofNat ((hexQ (nth b (i + 1))).toNat * 16 + (hexQ (nth b (i + 2))).toNat) :: ·) := by
  obtain ⟨c, hc, hd⟩ := drop_at b i (by omega)
  obtain ⟨c1, hc1, hd1⟩ := drop_at b (i + 1) (by omega)
  obtain ⟨c2, hc2, hd2⟩ := drop_at b (i + 1 + 1) (by omega)
  rw [hd, hd1, hd2]
  conv => lhs; unfold decQ
  rw [if_pos (by rw [hc]; simpa using h61)]
  simp only [hc1, hc2]
theorem decQ_bad (b : List UInt8) (i : Nat) (h61 : nth b i = 61) (h2 : i + 2 < b.length) (h : hexQ (nth b (i + 1)) < 0 ∨ hexQ (nth b (i + 2)) < 0) : decQ (b.drop i) = none := by
  rw [decQ_two b i h61 h2, if_pos (by simpa using h)]
theorem decQ_ok (b : List UInt8) (i : Nat) (h61 : nth b i = 61) (h2 : i + 2 < b.length) (h : 0 ≤ hexQ (nth b (i + 1))) (h' : 0 ≤ hexQ (nth b (i + 2))) :
    decQ (b.drop i) = (decQ (b.drop (i + 3))).map (UInt8.ofNat ((hexQ (nth b (i + 1))).toNat * 16 + (hexQ (nth b (i + 2))).toNat) :: ·) := by
  rw [decQ_two b i h61 h2, if_neg (by simp; omega)]
theorem hexQ_bd (x : Nat) : -1 ≤ hexQ x ∧ hexQ x < 16 := by
  unfold hexQ
  exact idxI_bd digits _
/-- What stands behind the line. -/
def behindQ (k : Nat) (s : List UInt8) : Option (List UInt8) → List UInt8 × Nat
  | none => ([], 1)
  | some y => if 4000 < (y ++ endQ s).length then ([], 2) else linesQ k (Lib.cut s [10]).2.1 (y ++ endQ s)
theorem linesQ_step (k : Nat) (s out : List UInt8) (h : s ≠ []) : linesQ (k + 1) s out = behindQ k s ((decQ (bareQ (trimQ (Lib.cut s [10]).1))).map (out ++ ·)) := by
  conv => lhs; unfold linesQ
  rw [if_neg (by simpa using h)]
  cases decQ (bareQ (trimQ (Lib.cut s [10]).1)) <;> rfl
theorem linesQ_end (k : Nat) (out : List UInt8) : linesQ k [] out = (out, 0) := by cases k <;> simp [linesQ]
theorem map_app (o : Option (List UInt8)) (out : List UInt8) (c : UInt8) : (o.map (c :: ·)).map (out ++ ·) = o.map ((out ++ [c]) ++ ·) := by
  cases o <;> simp
theorem cut10_len (s : List UInt8) (h : s ≠ []) : (Lib.cut s [10]).1.length ≤ s.length ∧ (Lib.cut s [10]).2.1.length < s.length := by
  have hp : 0 < s.length := List.length_pos_iff.2 h
  unfold Lib.cut
  split
  · simp; omega
  · simp; omega
theorem dropWhile_le (p : UInt8 → Bool) (l : List UInt8) : (l.dropWhile p).length ≤ l.length := (List.dropWhile_sublist p).length_le
theorem trimQ_len (l : List UInt8) : (trimQ l).length ≤ l.length := by
  unfold trimQ Lib.trimRightS
  rw [List.length_reverse]
  have := dropWhile_le (([32, 9, 13] : List UInt8).contains ·) l.reverse
  simpa using this
theorem soft_pos (l : List UInt8) (h : softQ l = true) : 0 < l.length := by
  cases l with
  | nil => simp [softQ, Lib.hasSuffix] at h
  | cons _ _ => simp
end Go.Proofs.YtlbdnohnngkapaaGreatDoor

import Derived.Test.YtinfjdfhkfhgjaaGreatDoorU13
import Derived.Test.YtinfjdfhkfhgjaaGreatDoorU8
import Derived.Test.YtinfjdfhkfhgjaaGreatDoorU1
import Derived.Test.YtinfjdfhkfhgjaaGreatDoorU4
import Derived.Shelf.Abstract
import Derived.Test.YtinfjdfhkfhgjaaGreatDoorU3
import Derived.Deep.RegionHeld
import Derived.WalkSpells
import Derived.Deep.RegionWith
import Derived.Laws.EntriesVeiled
import Derived.Lib.SlBytesConst
import Derived.Test.YtinfjdfhkfhgjaaGreatDoorU6
set_option maxRecDepth 100000
set_option maxHeartbeats 40000000
namespace Go.Proofs.YtinfjdfhkfhgjaaGreatDoor
open Go.RowKit
def h2T (t cs : List UInt8) : List UInt8 := ctN ++ [58, 32] ++ t ++ (if cs = [] then [] else csS ++ cs)
def h3T (t cs b : List UInt8) : List UInt8 := h2T t cs ++ (if b = [] then [] else bdS ++ b ++ [34])
def h4T (t cs b id : List UInt8) : List UInt8 := h3T t cs b ++ [13, 10] ++ (if id = [] then [] else idN ++ [58, 32, 60] ++ id ++ [62, 13, 10])
theorem h5T (t cs b id loc : List UInt8) : h4T t cs b id ++ (if loc = [] then [] else locN ++ [58, 32] ++ loc ++ [13, 10]) = hdT t cs b id loc := by
 unfold h4T h3T h2T hdT
 simp
theorem nl_in : ∀ (l : List (List UInt8)) (x : List UInt8), x ∈ l → x.length ≤ (nlJ l).length
 | [], x, h => by simp at h
 | [y], x, h => by
  obtain rfl : x = y := by simpa using h
  exact Nat.le_refl _
 | y :: z :: r, x, h => by
  have e : nlJ (y :: z :: r) = y ++ 10 :: nlJ (z :: r) := rfl
  rw [e, List.length_append, List.length_cons]
  rcases List.mem_cons.1 h with rfl | h
  · omega
  · have := nl_in (z :: r) x h
    omega
/-- The loop that looks for a border. -/
def RbRel (wo : World) (N : Nat) (bd : List UInt8) (bv nv : Value) (wr : World) : Prop :=
 ∃ (n : Nat) (b : List UInt8), bv = str b ∧ nv = .int .i64 (n : Nat) ∧ 1 ≤ n ∧ n ≤ N + 1 ∧ Hid ((b = [] ∧ n ≤ N) ∨ (b = bd ∧ n = N + 1)) ∧ Below wo.heap.size wo wr
theorem RPartText_any (k : Nat) : ∀ (p : PartD) (v : List Value) (w : World), (flatD p).length ≤ k → (flatD p).length ≤ 12 → goodP p → PartAt (· < w.heap.size) w p v → MaxLenOk w → PowOk w → DeOk w →
 Calls Tryz.prog 8 #[.agg v.toArray] w fun e w' => e = .returned (str (textM p)) ∧ Below w.heap.size w w' := by
 obtain ⟨i0, hi0, hz0, hz1, hz2⟩ := info_parts infoStrM
 induction k with
 | zero => intro p v w h; rw [flatD_eq] at h; simp at h
 | succ k ih =>
  intro p v w hk h12 hg hp hM hW0 hD0
  have h0 := hg p (by rw [flatD_eq]; simp)
  unfold chkD at h0
  obtain ⟨ht, hcs, hid, hloc, hw0, hw2, hbo, hm1, hm0⟩ := chkB_zero h0
  have hcs' : p.cs = [] ∨ tokB p.cs = true := by
   rcases hcs with h | h
   · exact .inl (by simpa using h)
   · exact .inr h
  have htl := (typ_parts ht).2.1
  have hcl : p.cs.length ≤ 30 := by
   rcases hcs' with h | h
   · rw [h]; simp
   · exact (tok_mem h).2.1
  have hil := (wordP_mem hid).1
  have hll := (wordP_mem hloc).1
  have htm := textM_len p hg
  obtain ⟨A, c, A2, c2, rfl, hbds, hB, hn, hcm, hP, hc2, hcm2⟩ := hp.open
  have hBy : By w w.heap.size A p.body.length p.body := hB
  obtain ⟨T, hT⟩ : ∃ T, T = textM p := ⟨_, rfl⟩
  rw [← hT] at htm ⊢
  obtain ⟨n1, hn1⟩ : ∃ n1, n1 = p.body.length := ⟨_, rfl⟩
  obtain ⟨n2, hn2⟩ : ∃ n2, n2 = p.parts.length := ⟨_, rfl⟩
  obtain ⟨W, hW⟩ : ∃ W, W = w.alloc (.cells #[str p.type, str p.cs, str p.id, str p.loc, .int .i64 p.how, .slice A n1 c, .slice A2 n2 c2] 25) := ⟨_, rfl⟩
  have hbW : Below w.heap.size w W := by rw [hW]; exact (Below.refl _ w).alloc (Nat.le_refl _) _
  have hbx : Box7 W w.heap.size (str p.type) (str p.cs) (str p.id) (str p.loc) (.int .i64 p.how) (.slice A n1 c) (.slice A2 n2 c2) := by rw [hW]; exact Box7.new w _ _ _ _ _ _ _ _
  have ⟨x0, x1, x2, x3, x4, x5, x6⟩ := hbx
  have hmR := fun X => IsMany_any p.type X (by unfold maxLen; omega)
  rw [← hn1] at hBy hn hbo ⊢
  rw [← hn2] at hP hc2 ⊢
  have hByW := (hBy.below hbW).more hbW.size
  have hMW := hM.below hbW
  have hPW := hW0.below hbW
  have hps := (hP.below hbW).more hbW.size
  have hsW : W.heap.size = w.heap.size + 1 := by rw [hW]; simp
  have HT := Lib.hid hT
  have HW := Lib.hid hW
  have Hn1 := Lib.hid hn1
  have Hn2 := Lib.hid hn2
  have HBy := Lib.hid hByW
  have HM := Lib.hid hMW
  have HP := Lib.hid hPW
  have Hps := Lib.hid hps
  have HsW := Lib.hid hsW
  have Hg := Lib.hid hg
  have Hih := Lib.hid ih
  have Hcs := Lib.hid hcs'
  have Ht := Lib.hid ht
  have Hid' := Lib.hid hid
  have Hloc := Lib.hid hloc
  have Hbx := Lib.hid hbx
  have Hk := Lib.hid hk
  have HD := Lib.hid (hD0.below hbW)
  have HmR := Lib.hid hmR
  clear hD0 hmR hT hW hn1 hn2 hByW hMW hPW hps hsW hg ih hcs' hcs ht hid hloc hp hB hBy hP hM hW0 h0 hbds hk hbx
  obtain ⟨L, hL⟩ : ∃ L, L = if manyB p.type = true then textsM p.parts else [] := ⟨_, rfl⟩
  obtain ⟨bd, hbd⟩ : ∃ b, b = if manyB p.type = true then bordP p else [] := ⟨_, rfl⟩
  have hsum := textsM_len p.parts (fun q hq => Hg.out q (by rw [flatD_eq]; simp [hq]))
  have hns := nl_sum (textsM p.parts)
  have hfl2 : (flatD p).length = 1 + (flatsD p.parts).length := by rw [flatD_eq, List.length_cons]; omega
  have hn12 : n2 ≤ 11 := by
   have := flatsD_len p.parts
   rw [← Hn2.out] at this
   omega
  have hLn : L.length ≤ 11 := by
   rw [hL]
   split
   · rw [texts_map, List.length_map, ← Hn2.out]; exact hn12
   · simp
  have hbl : bd.length ≤ 9 := by
   rw [hbd]
   split
   · exact bord_len _
   · simp
  obtain ⟨mb, hmb⟩ : ∃ b, b = manyB p.type := ⟨_, rfl⟩
  rw [← hmb] at hL hbd
  have HmR2 := HmR.out
  rw [← hmb] at HmR2
  have HmR3 := Lib.hid HmR2
  have HL := Lib.hid hL
  have Hbd := Lib.hid hbd
  have Hmb := Lib.hid hmb
  have Hsum := Lib.hid (And.intro hsum hns)
  have Hfl2 := Lib.hid hfl2
  have Hm10 := Lib.hid (And.intro hm1 hm0)
  have Htm := Lib.hid htm
  clear hL hbd hmb HmR HmR2 hsum hns hfl2 hm1 hm0 htm
  go_enter Tryz.func8, Tryz.ntmps8
  go_wp2_with fail
  rw [← HW.out]
  refine (HmR3.out _).mono ?_
  rintro e w1 ⟨rfl, hw1⟩
  obtain rfl := hw1.symm
  go_upto_if 14 with fail
  go_cut [4, 5] from 6 to 39 (fun s4 s5 wx => s4 = str bd ∧ (∃ S c, s5 = .slice S L.length c ∧ Sl wx wx.heap.size 1 S L.length (L.map str) ∧ L.length ≤ c) ∧ Below W.heap.size W wx)
  case first =>
   cases mb with
   | false =>
    have hbd : bd = [] := by rw [Hbd.out]; rfl
    have hL : L = [] := by rw [HL.out]; rfl
    have Hx := Lib.hid (And.intro hbd hL)
    clear hbd hL
    go_wp2_with fail
    go_meet
    rw [Hx.out.1, Hx.out.2]
    exact ⟨rfl, ⟨none, 0, rfl, Sl.nil_ _ _ _ _, Nat.le_refl _⟩, Below.refl _ _⟩
   | true =>
    have hL : L = p.parts.map textM := by rw [HL.out, if_pos rfl, texts_map]
    have hJ : (nlJ L).length ≤ 204000 := by
     obtain ⟨h1, h2⟩ := Hsum.out
     have := Hfl2.out
     rw [HL.out, if_pos rfl]
     omega
    have hbp : bd = bordP p := by rw [Hbd.out]; rfl
    have hbd := bordN_spec (nlJ L) (by omega)
    obtain ⟨N, hN⟩ : ∃ N, N = bordN (nlJ L) := ⟨_, rfl⟩
    rw [← hN] at hbd
    have hbq : bd = [61, 95] ++ Lib.decDigits N := by rw [hbp, hN, HL.out]; rfl
    obtain ⟨hbd1, hbd2, hbd3, hbd4⟩ := hbd
    have hLl : L.length = n2 := by rw [hL, List.length_map, Hn2.out]
    have HLm := Lib.hid hL
    have HLn := Lib.hid hLl
    have Hbq := Lib.hid hbq
    have Hbd3 := Lib.hid hbd3
    have Hbd4 := Lib.hid hbd4
    have HJ := Lib.hid hJ
    have Hih2 := Lib.hid Hih.out
    clear hL hJ hbp hN hbq hbd3 hbd4 hLl
    go_wp2_with fail
    go_loopw [5, 18] (TxRelM W n2 p.parts) (fun _ iv _ => n2 - (intOf iv).toNat)
    case atStart => exact ⟨0, none, 0, rfl, rfl, Nat.zero_le _, World.ownsRow_nil _ _ _ _, Below.refl _ _⟩
    case round =>
     obtain ⟨i, S, cs, rfl, rfl, hi, hown, hbel⟩ := hrel
     by_cases hin : i < n2
     · have hPr := Hps.out.below hbel
       obtain ⟨b, off, q, A', n', c', A2', n2', c2', rfl, hbS, hq, hqa, y0, y1, y2, y3, y4, y5, y6⟩ := hPr.cells7 hin
       have hqm : q ∈ p.parts := List.mem_of_mem_drop (by rw [hq]; simp)
       obtain ⟨f1, f2⟩ := flats_in p.parts q hqm
       obtain ⟨V, hV⟩ : ∃ V, V = wr.alloc (.cells #[str q.type, str q.cs, str q.id, str q.loc, .int .i64 q.how, .slice A' n' c', .slice A2' n2' c2'] 25) := ⟨_, rfl⟩
       have hbV : Below wr.heap.size wr V := by rw [hV]; exact (Below.refl _ wr).alloc (Nat.le_refl _) _
       have hbelV := hbel.trans (hbV.mono hbel.size)
       have hqV : PartAt (· < V.heap.size) V q [str q.type, str q.cs, str q.id, str q.loc, .int .i64 q.how, .slice A' n' c', .slice A2' n2' c2'] := (hqa.belowN hbV hbel.size).more hbelV.size
       have hfl2 := Hfl2.out
       have hk := Hk.out
       have hcl := Hih2.out q _ V (by omega) (by omega) (fun x hx => Hg.out x (by rw [flatD_eq]; simp [f2 x hx])) hqV (HM.out.below hbelV) (HP.out.below hbelV) (HD.out.below hbelV)
       have htk := take_one hq
       have hownV := own_below hown hbV
       have hbxV : Box7 V wr.heap.size (str q.type) (str q.cs) (str q.id) (str q.loc) (.int .i64 q.how) (.slice A' n' c') (.slice A2' n2' c2') := by rw [hV]; exact Box7.new wr _ _ _ _ _ _ _ _
       obtain ⟨tq, htq⟩ : ∃ t, t = textM q := ⟨_, rfl⟩
       rw [← htq] at hcl
       have Hcl := Lib.hid hcl
       have Htq := Lib.hid htq
       have Htk := Lib.hid htk
       have HV := Lib.hid hV
       have hi11 : i ≤ 11 := by omega
       clear hq hqa hqV hPr hown hbV hbel hcl htq htk hV hqm f1 f2 hfl2 hk
       go_upto_region 8 with fail
       rw [← HV.out]
       clear y0 y1 y2 y3 y4 y5 y6
       have ⟨y0, y1, y2, y3, y4, y5, y6⟩ := hbxV
       clear hbxV
       go_wp2_with fail
       refine Hcl.out.mono ?_
       rintro e w1 ⟨rfl, hb1⟩
       have hown1 := own_below hownV hb1
       have hbel1 := hbelV.trans (hb1.mono hbelV.size)
       clear hownV hb1 hbelV Hcl y0 y1 y2 y3 y4 y5 y6
       go_wp2_with (at_builtin; refine wpList_app rfl _ _ 52 rfl W.heap.size 9 i0 (.string ⟨#[]⟩) 1 16 Tryz.underlying52 hi0 hz0 hz1 hz2 rfl (by decide) S i cs (txsM p.parts i) rfl (hown1.alloc _) _ _ 1 1 [str tq] rfl (Sl.row _ _ 1 1 _ rfl) (by intro u hu; rw [List.mem_singleton.1 hu]; rfl) (by unfold maxLen; omega) (by omega) (by simp; have := hbel1.size; omega) ?_)
       intro S' c' w4 hown4 hb4 _
       have hbel4 := ((hbel1.alloc hbel1.size (.cells #[str tq] 9))).trans hb4
       have hown5 : w4.ownsRow W.heap.size 9 1 (.slice S' (i + 1) c') (i + 1) (txsM p.parts (i + 1)) := by
        unfold txsM at hown4 ⊢
        rw [Htk.out, List.map_append, List.map_append]
        rw [Htq.out] at hown4
        exact hown4
       have Hown5 := Lib.hid hown5
       clear hown4 hown5 hb4 hown1 hbel1
       go_wp2_with fail
       exact ⟨⟨i + 1, S', c', rfl, by go_num, by omega, Hown5.out, hbel4⟩, by simp [intOf]; omega⟩
     · obtain rfl : i = n2 := by omega
       have hsl : Sl wr wr.heap.size 1 S L.length (L.map str) := by
        have h := Sl.of_own hown
        unfold txsM at h
        have e : p.parts.take i = p.parts := List.take_of_length_le (by rw [← Hn2.out]; exact Nat.le_refl _)
        rw [e, ← HLm.out] at h
        rw [HLn.out]
        exact h
       have hcs := own_cap hown
       have Hsl := Lib.hid hsl
       clear hsl hown
       obtain ⟨wo, rfl⟩ : ∃ x, x = wr := ⟨_, rfl⟩
       go_wp2_with fail
       go_loopw [4, 8] (RbRel wo N bd) (fun _ nv _ => N + 1 - (intOf nv).toNat)
       case atStart => exact ⟨1, [], rfl, rfl, Nat.le_refl _, by omega, Lib.hid (.inl ⟨rfl, by omega⟩), Below.refl _ _⟩
       case round =>
        obtain ⟨n, b, rfl, rfl, hn1', hn2', hbn, hbel2⟩ := hrel
        have hbel3 := hbel.trans (hbel2.mono hbel.size)
        rcases hbn.out with ⟨hb0, hnN⟩ | ⟨hb0, hnN⟩
        · have dB : (b == []) = true := by rw [hb0]; rfl
          have hit := Itoa_any n (by omega) wr (HP.out.below hbel3)
          have hnd : (Lib.decDigits n).length ≤ 20 := by rw [Lib.decDigits_length]; have := nDig_le 6 n (by omega); omega
          obtain ⟨dg, hdg⟩ : ∃ d, d = Lib.decDigits n := ⟨_, rfl⟩
          have hmk : L.any (fun k => hasS k (45 :: 45 :: 61 :: 95 :: dg)) = hasS (nlJ L) (markM n) := by rw [mark_row, hdg]; rfl
          rw [← hdg] at hit hnd
          have Hit := Lib.hid hit
          have Hmk := Lib.hid hmk
          have Hdg := Lib.hid hdg
          have Hb0 := Lib.hid hb0
          have hlen1 : ∀ x ∈ L, x.length ≤ 1000000 := by
           intro x hx
           have := nl_in L x hx
           have := HJ.out
           omega
          have Hlen1 := Lib.hid hlen1
          clear hit hmk hdg hb0 hbn hlen1
          go_wp2_with fail
          refine Hit.out.mono ?_
          rintro e w5 ⟨rfl, hb5⟩
          obtain ⟨W6, hW6⟩ : ∃ W6, W6 = w5.alloc (.cells #[str (61 :: 95 :: dg)] 9) := ⟨_, rfl⟩
          have hb6 : Below w5.heap.size w5 W6 := by rw [hW6]; exact (Below.refl _ _).alloc (Nat.le_refl _) _
          have hc6 : W6.cell? ⟨w5.heap.size, 0, none⟩ = some (str (61 :: 95 :: dg)) := by unfold World.cell?; rw [hW6, heap_alloc_new]; rfl
          have hlt6 : w5.heap.size < W6.heap.size := by rw [hW6]; simp
          have hb56 := hb5.trans (hb6.mono hb5.size)
          have hbel6 := hbel2.trans (hb56.mono hbel2.size)
          have hsl6 := (Hsl.out.below hbel6).more hbel6.size
          have hct := ContainsFunc_Tx 31 #[.pointer (some ⟨w5.heap.size, 0, none⟩)] (enters_of Tryz.func31 (by kernel_rfl) rfl) (fun x => hasS x (45 :: 45 :: 61 :: 95 :: dg)) S L.length cs W6.heap.size L W6 hsl6 (Nat.le_refl _) (by unfold maxLen; omega)
           (fun X x hx hX => ptx1_any x (61 :: 95 :: dg) w5.heap.size X (HM.out.below ((hbel.trans (hbel6.mono hbel.size)).trans (hX.mono (hbel.trans (hbel6.mono hbel.size)).size))) ((hX.cell (p := ⟨w5.heap.size, 0, none⟩) hlt6).trans hc6) (Hlen1.out x hx) (by simp; omega))
          rw [Hmk.out, HLn.out] at hct
          have Hct := Lib.hid hct
          clear hct hsl6 hb6 hb5 Hit
          go_upto_region 14 with fail
          rw [← hW6]
          clear hW6
          cases hh : hasS (nlJ L) (markM n) with
          | true =>
           have hne : n < N := by
            rcases Nat.lt_or_ge n N with h | h
            · exact h
            · obtain rfl : n = N := by omega
              rw [Hbd3.out] at hh
              cases hh
           have hct := Hct.out
           rw [hh] at hct
           have Hct := Lib.hid hct
           clear hct hh
           go_wp2_with fail
           refine Hct.out.mono ?_
           rintro e w7 ⟨rfl, hb7⟩
           have hbel7 := hbel6.trans (hb7.mono hbel6.size)
           clear hb7
           go_wp2_with fail
           exact ⟨⟨n + 1, b, rfl, by go_num, by omega, by omega, Lib.hid (.inl ⟨Hb0.out, by omega⟩), hbel7⟩, by simp [intOf]; omega⟩
          | false =>
           have hne : n = N := by
            rcases Nat.lt_or_ge n N with h | h
            · have := Hbd4.out n hn1' h
              rw [hh] at this
              cases this
            · omega
           have hct := Hct.out
           rw [hh] at hct
           have Hct := Lib.hid hct
           have Hne := Lib.hid hne
           clear hct hh hne
           go_wp2_with fail
           refine Hct.out.mono ?_
           rintro e w7 ⟨rfl, hb7⟩
           have hbel7 := hbel6.trans (hb7.mono hbel6.size)
           have c7 := (hb7.cell (p := ⟨w5.heap.size, 0, none⟩) hlt6).trans hc6
           clear hb7
           go_wp2_with fail
           exact ⟨⟨n + 1, 61 :: 95 :: dg, rfl, by go_num, by omega, by omega, Lib.hid (.inr ⟨by rw [Hbq.out, Hdg.out, Hne.out]; rfl, by rw [Hne.out]⟩), hbel7⟩, by simp [intOf]; omega⟩
        · have hbne : b ≠ [] := by rw [hb0, Hbq.out]; simp
          have dB : (b == []) = false := by simpa using hbne
          have Hb0 := Lib.hid hb0
          have hsl7 := (Hsl.out.below hbel2).more hbel2.size
          have Hsl7 := Lib.hid hsl7
          clear hb0 hbn hbne hsl7
          go_wp2_with fail
          go_meet
          exact ⟨by rw [Hb0.out], ⟨S, cs, by rw [HLn.out], Hsl7.out, by rw [HLn.out]; exact hcs⟩, hbel3⟩
  case rest =>
   obtain ⟨rfl, ⟨S, cs, rfl, hsl, hlc⟩, hbel⟩ := hcut
   have hbelW := hbel
   have hszw := hbel.size
   obtain ⟨wt, hwt⟩ : ∃ x, x = wc := ⟨_, rfl⟩
   rw [← hwt] at hsl hbel ⊢
   clear hwt hbelW
   have hbxt := Hbx.out.below hbel
   have ⟨z0, z1, z2, z3, z4, z5, z6⟩ := hbxt
   have HSl := Lib.hid hsl
   have hbt := HBy.out.below hbel
   have HBt := Lib.hid (hbt.more hbel.size)
   have HDt := Lib.hid (HD.out.below hbel)
   obtain ⟨qc, hqc⟩ : ∃ q, (p.cs == []) = q := ⟨_, rfl⟩
   clear hsl hbt hbxt
   go_upto_if 45 with fail
   have Hqc := Lib.hid hqc
   clear hqc
   go_cut [10] from 46 to 50 (fun s10 wx => s10 = str (h2T p.type p.cs) ∧ wt = wx)
   case first =>
    cases qc with
    | true =>
     have h0 : p.cs = [] := by simpa using Hqc.out
     have e0 : h2T p.type p.cs = ctN ++ [58, 32] ++ p.type := by unfold h2T; rw [h0]; simp
     have E0 := Lib.hid e0
     clear h0 e0
     go_wp2_with fail
     go_meet
     exact ⟨by rw [E0.out]; rfl, rfl⟩
    | false =>
     have h0 : p.cs ≠ [] := by simpa using Hqc.out
     have e0 : h2T p.type p.cs = ctN ++ [58, 32] ++ p.type ++ (csS ++ p.cs) := by unfold h2T; rw [if_neg h0]
     have E0 := Lib.hid e0
     clear h0 e0
     go_wp2_with fail
     go_meet
     exact ⟨by rw [E0.out]; simp [ctN, csS], rfl⟩
   case rest =>
    obtain ⟨rfl, hwx⟩ := hcut
    subst hwx
    have hX2l : (h2T p.type p.cs).length ≤ 200 := by
     unfold h2T
     split <;> simp only [List.length_append, List.length_nil, List.length_cons, ctN, csS] <;> omega
    have e3 : ∀ b, h3T p.type p.cs b = h2T p.type p.cs ++ (if b = [] then [] else bdS ++ b ++ [34]) := fun b => rfl
    obtain ⟨X2, hX2⟩ : ∃ X, X = h2T p.type p.cs := ⟨_, rfl⟩
    rw [← hX2] at hX2l e3 ⊢
    have E3 := Lib.hid (e3 bd)
    clear hX2 e3 Hqc
    go_upto_if 51 with fail
    go_cut [10] from 52 to 56 (fun s10 wx => s10 = str (h3T p.type p.cs bd) ∧ wt = wx)
    case first =>
     cases mb with
     | true =>
      have hb0 : bd ≠ [] := by rw [Hbd.out, if_pos rfl]; unfold bordP bordM; simp
      have e0 := E3.out
      rw [if_neg hb0] at e0
      have E0 := Lib.hid e0
      clear e0 hb0
      go_wp2_with fail
      go_meet
      exact ⟨by rw [E0.out]; simp [bdS], rfl⟩
     | false =>
      have hb0 : bd = [] := by rw [Hbd.out]; rfl
      have e0 := E3.out
      rw [if_pos hb0, List.append_nil] at e0
      have E0 := Lib.hid e0
      clear e0 hb0
      go_wp2_with fail
      go_meet
      exact ⟨by rw [E0.out], rfl⟩
    case rest =>
     obtain ⟨rfl, hwx⟩ := hcut
     subst hwx
     have hX3l : (h3T p.type p.cs bd).length ≤ 300 := by
      rw [E3.out]
      split <;> simp only [List.length_append, List.length_nil, List.length_cons, bdS] <;> omega
     have e4 : ∀ i, h4T p.type p.cs bd i = h3T p.type p.cs bd ++ [13, 10] ++ (if i = [] then [] else idN ++ [58, 32, 60] ++ i ++ [62, 13, 10]) := fun i => rfl
     obtain ⟨X3, hX3⟩ : ∃ X, X = h3T p.type p.cs bd := ⟨_, rfl⟩
     rw [← hX3] at hX3l e4 ⊢
     have E4 := Lib.hid (e4 p.id)
     clear hX3 e4 E3
     obtain ⟨qi, hqi⟩ : ∃ q, (p.id == []) = q := ⟨_, rfl⟩
     go_upto_if 61 with fail
     have Hqi := Lib.hid hqi
     clear hqi
     go_cut [10] from 62 to 67 (fun s10 wx => s10 = str (h4T p.type p.cs bd p.id) ∧ wt = wx)
     case first =>
      cases qi with
      | true =>
       have h0 : p.id = [] := by simpa using Hqi.out
       have e0 := E4.out
       rw [if_pos h0, List.append_nil] at e0
       have E0 := Lib.hid e0
       clear e0 h0
       go_wp2_with fail
       go_meet
       exact ⟨by rw [E0.out], rfl⟩
      | false =>
       have h0 : p.id ≠ [] := by simpa using Hqi.out
       have e0 := E4.out
       rw [if_neg h0] at e0
       have E0 := Lib.hid e0
       clear e0 h0
       go_wp2_with fail
       go_meet
       exact ⟨by rw [E0.out]; simp [idN], rfl⟩
     case rest =>
      obtain ⟨rfl, hwx⟩ := hcut
      subst hwx
      have hX4l : (h4T p.type p.cs bd p.id).length ≤ 600 := by
       rw [E4.out]
       split <;> simp only [List.length_append, List.length_nil, List.length_cons, idN] <;> omega
      have e5 := h5T p.type p.cs bd p.id p.loc
      obtain ⟨X4, hX4⟩ : ∃ X, X = h4T p.type p.cs bd p.id := ⟨_, rfl⟩
      rw [← hX4] at hX4l e5 ⊢
      have E5 := Lib.hid e5
      clear hX4 e5 E4 Hqi
      obtain ⟨ql, hql⟩ : ∃ q, (p.loc == []) = q := ⟨_, rfl⟩
      go_upto_if 70 with fail
      have Hql := Lib.hid hql
      clear hql
      go_cut [10] from 71 to 76 (fun s10 wx => s10 = str (hdT p.type p.cs bd p.id p.loc) ∧ wt = wx)
      case first =>
       cases ql with
       | true =>
        have h0 : p.loc = [] := by simpa using Hql.out
        have e0 := E5.out
        rw [if_pos h0, List.append_nil] at e0
        have E0 := Lib.hid e0
        clear e0 h0
        go_wp2_with fail
        go_meet
        exact ⟨by rw [← E0.out], rfl⟩
       | false =>
        have h0 : p.loc ≠ [] := by simpa using Hql.out
        have e0 := E5.out
        rw [if_neg h0] at e0
        have E0 := Lib.hid e0
        clear e0 h0
        go_wp2_with fail
        go_meet
        exact ⟨by rw [← E0.out]; simp [locN], rfl⟩
      case rest =>
       obtain ⟨rfl, hwx⟩ := hcut
       subst hwx
       have hX5l : (hdT p.type p.cs bd p.id p.loc).length ≤ 1000 := by
        rw [← E5.out]
        split <;> simp only [List.length_append, List.length_nil, List.length_cons, locN] <;> omega
       obtain ⟨X5, hX5⟩ : ∃ X, X = hdT p.type p.cs bd p.id p.loc := ⟨_, rfl⟩
       rw [← hX5] at hX5l ⊢
       have HX5 := Lib.hid hX5
       clear hX5 E5 Hql
       have htb : T.length ≤ 204000 := by have := Htm.out; omega
       cases mb with
       | true =>
        have hmp : manyB p.type = true := Hmb.out.symm
        have hp0 : p.parts ≠ [] := by
         have := (Hm10.out.1 hmp).1
         intro e
         rw [e] at this
         simp at this
        have hTt : T = X5 ++ ([13, 10, 45, 45] ++ bd ++ [13, 10] ++ Lib.join L ([13, 10, 45, 45] ++ bd ++ [13, 10]) ++ [13, 10, 45, 45] ++ bd ++ [45, 45, 13, 10]) := by
         rw [HT.out, HX5.out, HL.out, Hbd.out, if_pos rfl, if_pos rfl]
         have e := text_doc_many (t := p.type) (cs := p.cs) (id := p.id) (loc := p.loc) (body := p.body) (how := p.how) (parts := p.parts) hmp hp0
         unfold bordP
         rw [show textM p = textM ⟨p.type, p.cs, p.id, p.loc, p.how, p.body, p.parts⟩ from by cases p; rfl]
         exact e
        have hjl : (Lib.join L ([13, 10, 45, 45] ++ bd ++ [13, 10])).length ≤ 204000 := by
         have := congrArg List.length hTt
         simp only [List.length_append] at this
         omega
        have hj := JoinS_any L ([13, 10, 45, 45] ++ bd ++ [13, 10]) S cs wt.heap.size wt HSl.out (Nat.le_refl _) hlc (by omega) (by omega)
        have hj2 : Calls Tryz.prog 33 #[.slice S L.length cs, str (13 :: 10 :: 45 :: 45 :: (bd ++ [13, 10]))] wt fun e w' => e = .returned (str (Lib.join L ([13, 10, 45, 45] ++ bd ++ [13, 10]))) ∧ Below wt.heap.size wt w' := hj
        obtain ⟨J, hJ⟩ : ∃ J, J = Lib.join L ([13, 10, 45, 45] ++ bd ++ [13, 10]) := ⟨_, rfl⟩
        rw [← hJ] at hj2 hTt hjl
        have Hj2 := Lib.hid hj2
        have HTt := Lib.hid hTt
        clear hj hj2 hTt hJ hmp hp0
        go_wp2_with fail
        refine Hj2.out.mono ?_
        rintro e w5 ⟨rfl, hb5⟩
        go_wp2_with fail
        go_ret
        exact ⟨by rw [HTt.out]; simp, (hbW.trans (hbel.mono hbW.size)).trans (hb5.mono (hbW.trans (hbel.mono hbW.size)).size)⟩
       | false =>
        have hmp : manyB p.type = false := Hmb.out.symm
        have hbd0 : bd = [] := by rw [Hbd.out]; rfl
        have hTt0 : T = X5 ++ (cteN ++ [58, 32] ++ howS p.how ++ [13, 10, 13, 10] ++ encM p.how p.body) := by
         rw [HT.out, HX5.out, hbd0]
         rw [show textM p = textM ⟨p.type, p.cs, p.id, p.loc, p.how, p.body, p.parts⟩ from by cases p; rfl]
         exact text_doc_leaf (t := p.type) (cs := p.cs) (id := p.id) (loc := p.loc) (body := p.body) (how := p.how) (parts := p.parts) hmp
        have hbelF := hbW.trans (hbel.mono hbW.size)
        by_cases h1 : p.how = 1
        · have hTt := hTt0
          rw [show encM p.how p.body = enc 0 p.body from by unfold encM; rw [if_pos h1], show howS p.how = [98, 97, 115, 101, 54, 52] from by unfold howS; rw [if_pos h1]] at hTt
          have hcall := RBText_any A n1 c p.body wt HBt.out hbo
          obtain ⟨E, hE⟩ : ∃ E, E = enc 0 p.body := ⟨_, rfl⟩
          rw [← hE] at hTt hcall
          have hEl : E.length ≤ 204000 := by
           have := congrArg List.length hTt
           simp only [List.length_append] at this
           omega
          have d1 : (p.how == 1) = true := by simpa using h1
          have Hcall := Lib.hid hcall
          have HTt := Lib.hid hTt
          clear hTt0 hTt hcall hE hmp hbd0 h1
          go_wp2_with fail
          refine Hcall.out.mono ?_
          rintro e w5 ⟨rfl, hw5⟩
          obtain rfl := hw5
          go_wp2_with fail
          go_ret
          exact ⟨by rw [HTt.out]; simp [cteN], hbelF⟩
        · have d1 : (p.how == 1) = false := by simpa using h1
          by_cases h2 : p.how = 2
          · have hTt := hTt0
            rw [show encM p.how p.body = encQ 0 p.body from by unfold encM; rw [if_neg h1, if_pos h2], show howS p.how = [113, 117, 111, 116, 101, 100, 45, 112, 114, 105, 110, 116, 97, 98, 108, 101] from by unfold howS; rw [if_neg h1, if_pos h2]] at hTt
            have hcall := RQText_any A n1 c p.body wt HBt.out hn hbo HDt.out
            obtain ⟨E, hE⟩ : ∃ E, E = encQ 0 p.body := ⟨_, rfl⟩
            rw [← hE] at hTt hcall
            have hEl : E.length ≤ 204000 := by
             have := congrArg List.length hTt
             simp only [List.length_append] at this
             omega
            have d2 : (p.how == 2) = true := by simpa using h2
            have Hcall := Lib.hid hcall
            have HTt := Lib.hid hTt
            clear hTt0 hTt hcall hE hmp hbd0 h1 h2
            go_wp2_with fail
            refine Hcall.out.mono ?_
            rintro e w5 ⟨rfl, hb5⟩
            go_wp2_with fail
            go_ret
            exact ⟨by rw [HTt.out]; simp [cteN], hbelF.trans (hb5.mono hbelF.size)⟩
          · have d2 : (p.how == 2) = false := by simpa using h2
            have hTt := hTt0
            rw [show encM p.how p.body = p.body from by unfold encM; rw [if_neg h1, if_neg h2], show howS p.how = [56, 98, 105, 116] from by unfold howS; rw [if_neg h1, if_neg h2]] at hTt
            have hts := run_toStr (P := Tryz.prog) wt 22 9 5 _ A n1 c p.body HBt.out Tryz.underlying22 Tryz.underlying5 Tryz.underlying9
            have hbl4 : p.body.length ≤ 4000 := by rw [← Hn1.out]; exact hbo
            have HTt := Lib.hid hTt
            clear hTt0 hTt hmp hbd0 h1 h2
            go_wp2_with fail
            go_ret
            exact ⟨by rw [HTt.out]; simp [cteN], hbelF⟩
end Go.Proofs.YtinfjdfhkfhgjaaGreatDoor
namespace Go.Proofs.YtinfjdfhkfhgjaaGreatDoor
end Go.Proofs.YtinfjdfhkfhgjaaGreatDoor
namespace Go.Proofs.YtinfjdfhkfhgjaaGreatDoor
def all2 (f : PartD → PartD → Bool) : List PartD → List PartD → Bool
 | [], [] => true
 | p :: ps, q :: qs => f p q && all2 f ps qs
 | [], _ :: _ => false
 | _ :: _, [] => false
theorem all2_len (f : PartD → PartD → Bool) : ∀ (ps qs : List PartD), ps.length ≠ qs.length → all2 f ps qs = false
 | [], [], h => absurd rfl h
 | [], _ :: _, _ => rfl
 | _ :: _, [], _ => rfl
 | p :: ps, q :: qs, h => by
  rw [all2, all2_len f ps qs (by simpa using h)]; simp
theorem all2_miss (f : PartD → PartD → Bool) : ∀ (ps qs : List PartD) (i : Nat) (p q : PartD), ps[i]? = some p → qs[i]? = some q → f p q = false → all2 f ps qs = false
 | [], _, i, p, q, h, _, _ => by simp at h
 | _ :: _, [], i, p, q, _, h, _ => by simp at h
 | a :: ps, b :: qs, 0, p, q, h1, h2, h3 => by
  simp at h1 h2
  rw [all2, h1, h2, h3]; rfl
 | a :: ps, b :: qs, i + 1, p, q, h1, h2, h3 => by
  rw [all2, all2_miss f ps qs i p q (by simpa using h1) (by simpa using h2) h3]; simp
theorem all2_hit (f : PartD → PartD → Bool) : ∀ (ps qs : List PartD), ps.length = qs.length → (∀ (i : Nat) (p q : PartD), ps[i]? = some p → qs[i]? = some q → f p q = true) → all2 f ps qs = true
 | [], [], _, _ => rfl
 | [], _ :: _, h, _ => by simp at h
 | _ :: _, [], h, _ => by simp at h
 | a :: ps, b :: qs, h, h2 => by
  rw [all2, h2 0 a b rfl rfl, all2_hit f ps qs (by simpa using h) (fun i p q h3 h4 => h2 (i + 1) p q (by simpa using h3) (by simpa using h4))]; rfl
/-- part.Same, all tests by themselves. -/
def oneSame (p q : PartD) : Bool := p.type == q.type && (p.cs == q.cs && (p.id == q.id && (p.loc == q.loc && (p.how == q.how && p.body == q.body))))
mutual
def sameD : PartD → PartD → Bool
 | ⟨t, cs, id, loc, how, body, parts⟩, ⟨t', cs', id', loc', how', body', parts'⟩ => (t == t' && (cs == cs' && (id == id' && (loc == loc' && (how == how' && body == body'))))) && samesD parts parts'
def samesD : List PartD → List PartD → Bool
 | [], [] => true
 | p :: ps, q :: qs => sameD p q && samesD ps qs
 | [], _ :: _ => false
 | _ :: _, [] => false
end
theorem samesD_eq : ∀ (ps qs : List PartD), samesD ps qs = all2 sameD ps qs
 | [], [] => by rw [samesD, all2]
 | [], _ :: _ => by rw [samesD, all2]
 | _ :: _, [] => by rw [samesD, all2]
 | p :: ps, q :: qs => by rw [samesD, all2, samesD_eq ps qs]
theorem sameD_eq (p q : PartD) : sameD p q = (oneSame p q && all2 sameD p.parts q.parts) := by
 cases p; cases q; rw [sameD, samesD_eq]; rfl
mutual
theorem sameD_refl : ∀ (p : PartD), sameD p p = true
 | ⟨t, cs, id, loc, how, body, parts⟩ => by rw [sameD, samesD_refl parts]; simp
theorem samesD_refl : ∀ (ps : List PartD), samesD ps ps = true
 | [] => by rw [samesD]
 | p :: ps => by rw [samesD, sameD_refl p, samesD_refl ps]; rfl
end
end Go.Proofs.YtinfjdfhkfhgjaaGreatDoor
namespace Go.Proofs.YtinfjdfhkfhgjaaGreatDoor
open Go.RowKit
theorem drop_get {ps : List PartD} {i : Nat} {p : PartD} (h : ps.drop i = p :: ps.drop (i + 1)) : ps[i]? = some p := by
 have := congrArg (fun l => l[0]?) h
 simpa using this
theorem boxes2 (w : World) (v0 v1 v2 v3 v4 v5 v6 u0 u1 u2 u3 u4 u5 u6 : Value) :
 Box7 ((w.alloc (.cells #[v0, v1, v2, v3, v4, v5, v6] 25)).alloc (.cells #[u0, u1, u2, u3, u4, u5, u6] 25)) (w.heap.size + 1) u0 u1 u2 u3 u4 u5 u6 := by
 have := Box7.new (w.alloc (.cells #[v0, v1, v2, v3, v4, v5, v6] 25)) 25 u0 u1 u2 u3 u4 u5 u6
 rw [show (w.alloc (.cells #[v0, v1, v2, v3, v4, v5, v6] 25)).heap.size = w.heap.size + 1 by simp] at this
 exact this
def SamRel (f : PartD → PartD → Bool) (ps qs : List PartD) (n : Nat) (W : World) (iv : Value) (wr : World) : Prop :=
 ∃ i : Nat, iv = .int .i64 (i : Nat) ∧ i ≤ n ∧ Below W.heap.size W wr ∧ Hid (∀ (j : Nat) (p q : PartD), j < i → ps[j]? = some p → qs[j]? = some q → f p q = true)
theorem SamePart_any (k : Nat) : ∀ (p q : PartD) (v u : List Value) (w : World), (flatD p).length ≤ k → PartAt (· < w.heap.size) w p v → PartAt (· < w.heap.size) w q u →
 Calls Tryz.prog 10 #[.agg v.toArray, .agg u.toArray] w fun e w' => e = .returned (.bool (sameD p q)) ∧ Below w.heap.size w w' := by
 induction k with
 | zero => intro p q v u w h; rw [flatD_eq] at h; simp at h
 | succ k ih =>
  intro p q v u w hk hp hq
  have hs := sameD_eq p q
  have hfl : ∀ x ∈ p.parts, (flatD x).length ≤ k := by
   intro x hx
   obtain ⟨i, hi, rfl⟩ := List.getElem_of_mem hx
   have h1 := (flatsD_get p.parts i hi).1
   rw [flatD_eq] at hk
   simp at hk
   omega
  obtain ⟨A, c, A2, c2, rfl, hbd, hby, hbc, hcm, hP, hc2, hcm2⟩ := hp.open
  obtain ⟨A', c', A2', c2', rfl, hbd', hby', hbc', hcm', hP', hc2', hcm2'⟩ := hq.open
  obtain ⟨W, hW⟩ : ∃ W, W = (w.alloc (.cells #[str p.type, str p.cs, str p.id, str p.loc, .int .i64 p.how, .slice A p.body.length c, .slice A2 p.parts.length c2] 25)).alloc (.cells #[str q.type, str q.cs, str q.id, str q.loc, .int .i64 q.how, .slice A' q.body.length c', .slice A2' q.parts.length c2'] 25) := ⟨_, rfl⟩
  have hbW : Below w.heap.size w W := by rw [hW]; exact ((Below.refl _ w).alloc (Nat.le_refl _) _).alloc (by simp) _
  have hx : Box7 W w.heap.size (str p.type) (str p.cs) (str p.id) (str p.loc) (.int .i64 p.how) (.slice A p.body.length c) (.slice A2 p.parts.length c2) := by
   rw [hW]; exact (Box7.new w _ _ _ _ _ _ _ _).below ((Below.refl _ _).alloc (Nat.le_refl _) _)
  have hy : Box7 W (w.heap.size + 1) (str q.type) (str q.cs) (str q.id) (str q.loc) (.int .i64 q.how) (.slice A' q.body.length c') (.slice A2' q.parts.length c2') := by
   rw [hW]; exact boxes2 w _ _ _ _ _ _ _ _ _ _ _ _ _ _
  have cE := Equal_bytes A A' p.body.length c q.body.length c' w.heap.size w.heap.size p.body q.body W (Sl.below hby hbW) (Sl.below hby' hbW) (Nat.le_trans hbc hcm)
  have a1 := all2_len sameD p.parts q.parts
  have a2 := all2_miss sameD p.parts q.parts
  have a3 := all2_hit sameD p.parts q.parts
  rw [hs]
  unfold oneSame
  generalize all2 sameD p.parts q.parts = r7 at a1 a2 a3 ⊢
  obtain ⟨n, hn⟩ : ∃ n, n = p.parts.length := ⟨_, rfl⟩
  obtain ⟨n', hn'⟩ : ∃ n', n' = q.parts.length := ⟨_, rfl⟩
  rw [← hn, ← hn'] at a1
  rw [← hn] at hx hP hc2 hW ⊢
  rw [← hn'] at hy hP' hc2' hW ⊢
  have hnm : n ≤ 9223372036854775807 := by unfold maxLen at hcm2; omega
  generalize h6 : (p.body == q.body) = r6 at cE
  have CE := Lib.hid cE
  have A2H := Lib.hid a2
  have A3H := Lib.hid a3
  have Hih := Lib.hid ih
  have Hfl := Lib.hid hfl
  have HP := Lib.hid hP
  have HP' := Lib.hid hP'
  have Hn := Lib.hid hn
  have Hn' := Lib.hid hn'
  have H6 := Lib.hid h6
  have ⟨x0, x1, x2, x3, x4, x5, x6⟩ := hx
  have ⟨y0, y1, y2, y3, y4, y5, y6⟩ := hy
  clear ih hfl hk hs cE hp hq hP hP' hby hby' hbd hbd' a2 a3 hn hn' h6
  cases e1 : (p.type == q.type)
  case false =>
   clear CE A2H A3H Hih Hfl HP HP' hx hy H6
   go_enter Tryz.func10, Tryz.ntmps10
   go_wp2_with fail
   go_ret
   rw [← hW]
   exact ⟨by simp, hbW⟩
  case true =>
   cases e2 : (p.cs == q.cs)
   case false =>
    clear CE A2H A3H Hih Hfl HP HP' hx hy H6
    go_enter Tryz.func10, Tryz.ntmps10
    go_wp2_with fail
    go_ret
    rw [← hW]
    exact ⟨by simp, hbW⟩
   case true =>
    cases e3 : (p.id == q.id)
    case false =>
     clear CE A2H A3H Hih Hfl HP HP' hx hy H6
     go_enter Tryz.func10, Tryz.ntmps10
     go_wp2_with fail
     go_ret
     rw [← hW]
     exact ⟨by simp, hbW⟩
    case true =>
     cases e4 : (p.loc == q.loc)
     case false =>
      clear CE A2H A3H Hih Hfl HP HP' hx hy H6
      go_enter Tryz.func10, Tryz.ntmps10
      go_wp2_with fail
      go_ret
      rw [← hW]
      exact ⟨by simp, hbW⟩
     case true =>
      cases e5 : (p.how == q.how)
      case false =>
       have e5b : (p.how != q.how) = true := by rw [bne, e5]; rfl
       clear CE A2H A3H Hih Hfl HP HP' hx hy H6
       go_enter Tryz.func10, Tryz.ntmps10
       go_wp2_with fail
       go_ret
       rw [← hW]
       exact ⟨by simp, hbW⟩
      case true =>
       have e5b : (p.how != q.how) = false := by rw [bne, e5]; rfl
       cases r6
       case false =>
        clear A2H A3H Hih Hfl HP HP' hx hy H6
        go_enter Tryz.func10, Tryz.ntmps10
        go_wp2_with fail
        rw [← hW]
        clear hW
        refine CE.out.mono ?_
        rintro e w1 ⟨rfl, q1, rfl⟩
        go_wp2_with fail
        go_ret
        exact ⟨by simp, belN hbW q1⟩
       case true =>
        by_cases hnn : n = n'
        · subst hnn
          have hne : ((n : Int) != n) = false := by simp
          have h3 : Hid ((∀ (i : Nat) (p_1 q_1 : PartD), p.parts[i]? = some p_1 → q.parts[i]? = some q_1 → sameD p_1 q_1 = true) → r7 = true) := A3H.out (by rw [← Hn.out, ← Hn'.out])
          clear A3H a1 H6
          go_enter Tryz.func10, Tryz.ntmps10
          go_wp2_with fail
          rw [← hW]
          refine CE.out.mono ?_
          rintro e w1 ⟨rfl, q1, rfl⟩
          have hb1 := belN (Below.refl W.heap.size W) q1
          have hbel1 := belN hbW q1
          generalize W.drewN q1 = W1 at hb1 hbel1 ⊢
          have hx1 := hx.below hb1
          have hy1 := hy.below hb1
          clear x0 x1 x2 x3 x4 x5 x6 y0 y1 y2 y3 y4 y5 y6 hx hy hW CE hbW hb1
          have ⟨x0, x1, x2, x3, x4, x5, x6⟩ := hx1
          have ⟨y0, y1, y2, y3, y4, y5, y6⟩ := hy1
          go_wp2_with fail
          clear x0 x1 x2 x3 x4 x5 x6 y0 y1 y2 y3 y4 y5 y6
          go_loopw [60] (SamRel sameD p.parts q.parts n W1) (fun iv _ => n - (intOf iv).toNat)
          case atStart => exact ⟨0, rfl, Nat.zero_le _, Below.refl _ _, Lib.hid fun j p q h => absurd h (by omega)⟩
          case round =>
           obtain ⟨i, rfl, hi, hbel, hz⟩ := hrel
           have hbw := hbel1.trans (hbel.mono hbel1.size)
           by_cases hin : i < n
           · have hPr := HP.out.below hbw
             obtain ⟨b, off, k1, B1, m1, d1, B2, m2, d2, rfl, hbS, hk1, hk1a, z0, z1, z2, z3, z4, z5, z6⟩ := hPr.cells7 hin
             have hbA := (Below.refl wr.heap.size wr).alloc (Nat.le_refl _) (.cells #[str k1.type, str k1.cs, str k1.id, str k1.loc, .int .i64 k1.how, .slice B1 m1 d1, .slice B2 m2 d2] 25)
             have hbwA := hbw.trans (hbA.mono hbw.size)
             have hQr := HP'.out.below hbwA
             obtain ⟨b', off', k2, B3, m3, d3, B4, m4, d4, rfl, hbS', hk2, hk2a, y0, y1, y2, y3, y4, y5, y6⟩ := hQr.cells7 hin
             have hk1 := drop_get hk1
             have hk2 := drop_get hk2
             have hbx := Box7.new wr 25 (str k1.type) (str k1.cs) (str k1.id) (str k1.loc) (.int .i64 k1.how) (.slice B1 m1 d1) (.slice B2 m2 d2)
             have hyA := (hy1.below hbel).below hbA
             obtain ⟨_, _, _, _, _, _, q6⟩ := hyA
             have hcl := Hih.out k1 k2 _ _ (wr.alloc (.cells #[str k1.type, str k1.cs, str k1.id, str k1.loc, .int .i64 k1.how, .slice B1 m1 d1, .slice B2 m2 d2] 25)).drew (Hfl.out k1 (List.mem_of_getElem? hk1)) ((hk1a.belowN hbA.drew hbw.size).more (Nat.le_trans hbw.size hbA.size)) ((hk2a.below (Below.refl _ _).drew).more (Nat.le_trans hbw.size hbA.size))
             have hmiss := A2H.out i k1 k2 hk1 hk2
             have hi0 : (0 : Int) ≤ i := by omega
             have hi1 : (i : Int) < n := by omega
             generalize hss : sameD k1 k2 = ss at hcl hmiss
             have Hcl := Lib.hid hcl
             have Hk1 := Lib.hid hk1
             have Hk2 := Lib.hid hk2
             have Hss := Lib.hid hss
             clear hcl hk1 hk2 hk1a hk2a hPr hQr hss
             go_wp2_with fail
             clear z0 z1 z2 z3 z4 z5 z6
             have ⟨x0, x1, x2, x3, x4, x5, x6⟩ := hbx
             have hbelA := (hbel.alloc hbel.size (.cells #[str k1.type, str k1.cs, str k1.id, str k1.loc, .int .i64 k1.how, .slice B1 m1 d1, .slice B2 m2 d2] 25)).drew
             go_region_with (go_at_call 10; refine Hcl.out.mono ?_; rintro e w1 ⟨rfl, hb1⟩; have hbelA1 := hbelA.trans (hb1.mono hbelA.size))
             all_goals
              clear q6 x0 x1 x2 x3 x4 x5 x6 y0 y1 y2 y3 y4 y5 y6
              cases ss
              · have hr : Hid (r7 = false) := hmiss rfl
                go_wp2_with fail
                go_ret
                exact ⟨by first | rfl | (rw [hr.out]; rfl) | (rw [hr.out]; simp), hbel1.trans (hbelA1.mono hbel1.size)⟩
              · clear hmiss
                go_wp2_with fail
                refine ⟨⟨i + 1, by go_num, by omega, hbelA1, Lib.hid fun j a b hj ha hb => ?_⟩, by simp [intOf]; omega⟩
                rcases Nat.lt_or_ge j i with h | h
                · exact hz.out j a b h ha hb
                · obtain rfl : j = i := by omega
                  rw [Hk1.out] at ha
                  rw [Hk2.out] at hb
                  injection ha with ha
                  injection hb with hb
                  rw [← ha, ← hb]; exact Hss.out
           · obtain rfl : i = n := by omega
             have hr : Hid (r7 = true) := h3.out fun j a b ha hb => hz.out j a b (by
              rcases Nat.lt_or_ge j p.parts.length with h | h
              · rw [← Hn.out] at h; exact h
              · rw [List.getElem?_eq_none h] at ha; cases ha) ha hb
             go_wp2_with fail
             go_ret
             exact ⟨by first | rfl | (rw [hr.out]; rfl) | (rw [hr.out]; simp), hbw⟩
        · have hr : Hid (r7 = false) := a1 hnn
          have hne : ((n : Int) != n') = true := by simp; omega
          clear A2H A3H Hih Hfl HP HP' hx hy H6 a1
          go_enter Tryz.func10, Tryz.ntmps10
          go_wp2_with fail
          rw [← hW]
          clear hW
          refine CE.out.mono ?_
          rintro e w1 ⟨rfl, q1, rfl⟩
          go_wp2_with fail
          go_ret
          exact ⟨by first | rfl | (rw [hr.out]; rfl) | (rw [hr.out]; simp), belN hbW q1⟩
def pageD : PartD := { type := [116, 101, 120, 116, 47, 104, 116, 109, 108], cs := [117, 116, 102, 45, 56], id := [], loc := [], how := 2, body := [60, 97, 32, 104, 114, 101, 102, 61, 39, 99, 39, 62, 60, 105, 109, 103, 32, 83, 82, 67, 61, 99, 105, 100, 58, 120, 62, 60, 97, 32, 104, 114, 101, 102, 61, 35, 100, 62], parts := [] }
def pictD : PartD := { type := [105, 109, 97, 103, 101, 47, 112, 110, 103], cs := [], id := [120], loc := [99], how := 1, body := [1, 2, 3], parts := [] }
def smallD : PartD := { type := [109, 117, 108, 116, 105, 112, 97, 114, 116, 47, 114, 101, 108, 97, 116, 101, 100], cs := [], id := [], loc := [104, 116, 116, 112, 58, 47, 47, 104, 47, 97, 47, 98], how := 0, body := [], parts := [pageD, pictD] }
theorem sl_block {w : World} {g n size : Nat} {t : TypeId} {fr : Nat × Nat} (xs : List Value) (hg : w.heap[g]? = some (.cells xs.toArray t fr)) (hl : xs.length = n * size) : SlS (· < w.heap.size) w size (some ⟨g, 0, none⟩) n xs :=
 Sl.of_block hg hl (fun j u hu => by rw [Nat.zero_add]; simpa using hu)
theorem leaf_at {w : World} (p : PartD) (hp : p.parts = []) (A : Option Addr) (c : Nat) (hb : SlS (· < w.heap.size) w 1 A p.body.length (Lib.byteCells p.body)) (hc : p.body.length ≤ c) (hm : c ≤ 1000) (h1 : p.type.length ≤ 1000) (h2 : p.cs.length ≤ 1000) (h3 : p.id.length ≤ 1000) (h4 : p.loc.length ≤ 1000) (h5 : 0 ≤ p.how) (h6 : p.how ≤ 2) :
 PartAt (· < w.heap.size) w p [str p.type, str p.cs, str p.id, str p.loc, .int .i64 p.how, .slice A p.body.length c, .slice none 0 0] := by
 obtain ⟨t, cs, id, loc, how, body, parts⟩ := p
 simp only at hp hb hc h1 h2 h3 h4 h5 h6
 subst hp
 refine ⟨A, _, c, none, 0, 0, [], rfl, ?_, hb, hc, by unfold maxLen; omega, ⟨rfl, fun h => absurd h (by omega)⟩, Nat.le_refl _, Nat.zero_le _, rfl⟩
 unfold maxLen
 omega
def SmallRes (w : World) (e : Ending) (w' : World) : Prop := ∃ v : List Value, e = .returned (.agg v.toArray) ∧ PartAt (· < w'.heap.size) w' smallD v ∧ Below w.heap.size w w'
theorem smallP_any (w : World) : Calls Tryz.prog 36 #[] w (SmallRes w) := by
 have kc : ∀ (w : World) (o : Obj) (C : Array Value) (n c : Nat), (convert 22 22 (.slice (some ⟨w.heap.size + 1, 0, none⟩) n c)).run Tryz.prog ((w.alloc o).alloc (.cells C 5)) = .ok (.slice (some ⟨w.heap.size + 1, 0, none⟩) n c) ((w.alloc o).alloc (.cells C 5 (C.size, C.size + 1))) := by
  intro w o C n c
  have := Lib.run_convert_bytes_const (P := Tryz.prog) (w.alloc o) 22 5 C n c Tryz.underlying22 Tryz.underlying5
  simpa using this
 go_enter Tryz.func36, Tryz.ntmps36
 go_wp2_with fail
 generalize hW : ((((w.alloc _).alloc _).alloc _).alloc _ : World) = W
 have hb : Below w.heap.size w W := by
  rw [← hW]
  exact ((((Below.refl _ w).alloc (Nat.le_refl _) _).alloc (by simp) _).alloc (by simp <;> omega) _).alloc (by simp <;> omega) _
 have hsz : W.heap.size = w.heap.size + 4 := by rw [← hW]; simp
 have g0 : W.heap[w.heap.size]? = some (.cells #[str smallD.type, str smallD.cs, str smallD.id, str smallD.loc, .int .i64 0, .slice none 0 0, .slice (some ⟨w.heap.size + 1 + 1 + 1, 0, none⟩) 2 2] 25) := by
  rw [← hW, Lib.alloc_old _ _ _ (by simp <;> omega), Lib.alloc_old _ _ _ (by simp <;> omega), Lib.alloc_old _ _ _ (by simp)]
  exact heap_alloc_new w _
 have g1 : W.heap[w.heap.size + 1]? = some (.cells (Lib.byteCells pageD.body).toArray 5 (38, 39)) := by
  rw [← hW, Lib.alloc_old _ _ _ (by simp <;> omega), Lib.alloc_old _ _ _ (by simp)]
  have := fun o => heap_alloc_new (w.alloc o)
  simp only [World.size_alloc] at this
  exact this _ _
 have g2 : W.heap[w.heap.size + 1 + 1]? = some (.cells (Lib.byteCells pictD.body).toArray 5) := by
  rw [← hW, Lib.alloc_old _ _ _ (by simp)]
  have := fun o o' => heap_alloc_new ((w.alloc o).alloc o')
  simp only [World.size_alloc] at this
  exact this _ _ _
 have g3 : W.heap[w.heap.size + 1 + 1 + 1]? = some (.cells ([[str pageD.type, str pageD.cs, str pageD.id, str pageD.loc, .int .i64 2, .slice (some ⟨w.heap.size + 1, 0, none⟩) 38 38, .slice none 0 0], [str pictD.type, str pictD.cs, str pictD.id, str pictD.loc, .int .i64 1, .slice (some ⟨w.heap.size + 1 + 1, 0, none⟩) 3 3, .slice none 0 0]] : List (List Value)).flatten.toArray 25) := by
  rw [← hW]
  have := fun o o' o'' => heap_alloc_new (((w.alloc o).alloc o').alloc o'')
  simp only [World.size_alloc] at this
  exact this _ _ _ _
 clear hW
 have h1 := leaf_at pageD rfl _ 38 (sl_block (n := 38) _ g1 rfl) (by decide) (by omega) (by decide) (by decide) (by decide) (by decide) (by decide) (by decide)
 have h2 := leaf_at pictD rfl _ 3 (sl_block (n := 3) _ g2 rfl) (by decide) (by omega) (by decide) (by decide) (by decide) (by decide) (by decide) (by decide)
 obtain ⟨c0, c1, c2, c3, c4, c5, c6⟩ := (BoxF.of_block g0).1
 refine bodyPost_ret (v := .agg #[str smallD.type, str smallD.cs, str smallD.id, str smallD.loc, .int .i64 0, .slice none 0 0, .slice (some ⟨w.heap.size + 1 + 1 + 1, 0, none⟩) 2 2]) (by simp [results, Tryz.results36, go_sem, c0, c1, c2, c3, c4, c5, c6]) rfl ⟨[str smallD.type, str smallD.cs, str smallD.id, str smallD.loc, .int .i64 0, .slice none 0 0, .slice (some ⟨w.heap.size + 1 + 1 + 1, 0, none⟩) 2 2], rfl, ?_, hb⟩
 exact ⟨none, 0, 0, _, 2, 2, _, rfl, by refine ⟨?_, ?_, ?_, ?_, ?_, ?_⟩ <;> decide, ⟨rfl, fun h => absurd h (by omega)⟩, Nat.le_refl _, Nat.zero_le _, sl_block (n := 2) (size := 7) _ g3 rfl, Nat.le_refl _, by unfold maxLen; omega, ⟨_, _, rfl, h1, _, _, rfl, h2, rfl⟩⟩
theorem smallM_check : checkD smallD = 0 := by decide +kernel
theorem smallM_len : (textM smallD).length ≤ 40000 := by decide +kernel
theorem splitM_small : splitM [120, 10, 45, 45, 98, 10, 121, 13, 10, 45, 45, 98, 32, 10, 10, 45, 45, 98, 45, 45, 10, 122] [98] = ([[121], []], 0) := by decide +kernel
theorem smallM_flat : (flatD smallD).length ≤ 3 := by simp [smallD, pageD, pictD, flatD, flatsD]
theorem bundled_any (w : World) (hM : MaxLenOk w) (hP : PowOk w) : Calls Tryz.prog 9 #[] w fun e w' => e = .returned (.bool true) ∧ Below w.heap.size w w' := by
 obtain ⟨T, hT⟩ : ∃ T, T = textM smallD := ⟨_, rfl⟩
 have hT1 : T.length ≤ 40000 := by rw [hT]; exact smallM_len
 have hT2 : readM T = (smallD, 0) := by rw [hT]; exact read_back smallM_check smallM_len
 have hT3 : writeM smallD = (T, 0) := by unfold writeM; rw [smallM_check, if_neg (by decide), ← hT, if_neg (by omega)]
 clear hT
 have HM := Lib.hid hM
 have HP := Lib.hid hP
 have HT2 := Lib.hid hT2
 have HT3 := Lib.hid hT3
 clear hM hP hT2 hT3
 go_enter Tryz.func9, Tryz.ntmps9
 go_wp2_with fail
 refine (smallP_any _).mono ?_
 rintro e w1 ⟨v1, rfl, hp1, hb1⟩
 go_wp2_with fail
 refine (MWrite_any smallD v1 _ hp1 (HM.out.below hb1) (HP.out.below hb1)).mono ?_
 rw [HT3.out]
 rintro e w2 ⟨A2, c2, rfl, hby2, hc2, hm2, hb2⟩
 have hbel2 := hb1.trans (hb2.mono hb1.size)
 simp only at hby2 hc2 hm2
 clear hp1 hb1 hb2
 go_wp2_with fail
 refine (mread_any T A2 T.length c2 w2 hby2 hc2 hm2).mono ?_
 rw [HT2.out]
 rintro e w3 ⟨v0, v1, v2, v3, v4, v5, v6, rfl, hpt, hb3⟩
 have hbel3 := hbel2.trans (hb3.mono hbel2.size)
 simp only at hpt
 obtain ⟨q, hq⟩ : ∃ q, q = smallD := ⟨_, rfl⟩
 rw [← hq] at hpt
 have Hq := Lib.hid hq
 clear hq
 obtain ⟨Aq, cq, Aq2, cq2, hvq, _⟩ := hpt.open
 injection hvq with h0 hvq
 injection hvq with h1 hvq
 injection hvq with h2 hvq
 injection hvq with h3 hvq
 injection hvq with h4 hvq
 injection hvq with h5 hvq
 injection hvq with h6 _
 subst h0; subst h1; subst h2; subst h3; subst h4; subst h5; subst h6
 obtain ⟨nq1, hnq1⟩ : ∃ y, y = q.body.length := ⟨_, rfl⟩
 obtain ⟨nq2, hnq2⟩ : ∃ y, y = q.parts.length := ⟨_, rfl⟩
 rw [← hnq1, ← hnq2] at hpt ⊢
 clear hnq1 hnq2 hby2 hb3 hc2 hm2
 obtain ⟨W4, hW4⟩ : ∃ W4, W4 = w3.alloc (.cells #[str q.type, str q.cs, str q.id, str q.loc, .int .i64 q.how, .slice Aq nq1 cq, .slice Aq2 nq2 cq2] 25) := ⟨_, rfl⟩
 have hb4 : Below w3.heap.size w3 W4 := by rw [hW4]; exact (Below.refl _ w3).alloc (Nat.le_refl _) _
 have hbp4 : BoxF W4 w3.heap.size (str q.type) (str q.cs) (str q.id) (str q.loc) (.int .i64 q.how) (.slice Aq nq1 cq) (.slice Aq2 nq2 cq2) := BoxF.of_block (t := 25) (by rw [hW4]; exact heap_alloc_new w3 _)
 have hs4 : w3.heap.size < W4.heap.size := by rw [hW4]; simp
 have hpt4 : PartAt (· < W4.heap.size) W4 q [str q.type, str q.cs, str q.id, str q.loc, .int .i64 q.how, .slice Aq nq1 cq, .slice Aq2 nq2 cq2] := PartAt.change (fun z hz => Nat.lt_of_lt_of_le hz.2 hb4.size) (fun z hz => hb4.cell hz.2) _ _ hpt
 have hbel4 := hbel3.trans (hb4.mono hbel3.size)
 have HW4 := Lib.hid hW4
 have Hst := Lib.hid (And.intro hbp4 (And.intro hpt4 hbel4))
 clear hpt hb4 hbp4 hpt4 hW4 hbel4 hbel3 hbel2
 go_upto_region 3 with fail
 rw [← HW4.out]
 obtain ⟨hbp4, hpt4, hbel4⟩ := Hst.out
 have kc : (convert 22 22 (.slice (some ⟨W4.heap.size, 0, none⟩) 22 22)).run Tryz.prog (W4.alloc (.cells #[.int .u8 120, .int .u8 10, .int .u8 45, .int .u8 45, .int .u8 98, .int .u8 10, .int .u8 121, .int .u8 13, .int .u8 10, .int .u8 45, .int .u8 45, .int .u8 98, .int .u8 32, .int .u8 10, .int .u8 10, .int .u8 45, .int .u8 45, .int .u8 98, .int .u8 45, .int .u8 45, .int .u8 10, .int .u8 122] 5)) = .ok (.slice (some ⟨W4.heap.size, 0, none⟩) 22 22) (W4.alloc (.cells #[.int .u8 120, .int .u8 10, .int .u8 45, .int .u8 45, .int .u8 98, .int .u8 10, .int .u8 121, .int .u8 13, .int .u8 10, .int .u8 45, .int .u8 45, .int .u8 98, .int .u8 32, .int .u8 10, .int .u8 10, .int .u8 45, .int .u8 45, .int .u8 98, .int .u8 45, .int .u8 45, .int .u8 10, .int .u8 122] 5 (22, 23))) := by
  have := Lib.run_convert_bytes_const (P := Tryz.prog) W4 22 5 #[.int .u8 120, .int .u8 10, .int .u8 45, .int .u8 45, .int .u8 98, .int .u8 10, .int .u8 121, .int .u8 13, .int .u8 10, .int .u8 45, .int .u8 45, .int .u8 98, .int .u8 32, .int .u8 10, .int .u8 10, .int .u8 45, .int .u8 45, .int .u8 98, .int .u8 45, .int .u8 45, .int .u8 10, .int .u8 122] 22 22 Tryz.underlying22 Tryz.underlying5
  exact this
 obtain ⟨W5, hW5⟩ : ∃ W5, W5 = W4.alloc (.cells #[.int .u8 120, .int .u8 10, .int .u8 45, .int .u8 45, .int .u8 98, .int .u8 10, .int .u8 121, .int .u8 13, .int .u8 10, .int .u8 45, .int .u8 45, .int .u8 98, .int .u8 32, .int .u8 10, .int .u8 10, .int .u8 45, .int .u8 45, .int .u8 98, .int .u8 45, .int .u8 45, .int .u8 10, .int .u8 122] 5 (22, 23)) := ⟨_, rfl⟩
 have hb5 : Below W4.heap.size W4 W5 := by rw [hW5]; exact (Below.refl _ W4).alloc (Nat.le_refl _) _
 have hby5 : By W5 W5.heap.size (some ⟨W4.heap.size, 0, none⟩) 22 [120, 10, 45, 45, 98, 10, 121, 13, 10, 45, 45, 98, 32, 10, 10, 45, 45, 98, 45, 45, 10, 122] := sl_block (n := 22) (t := 5) (fr := (22, 23)) (Lib.byteCells [120, 10, 45, 45, 98, 10, 121, 13, 10, 45, 45, 98, 32, 10, 10, 45, 45, 98, 45, 45, 10, 122]) (by rw [hW5]; exact heap_alloc_new W4 _) rfl
 have HW5 := Lib.hid hW5
 have hspl := Split_any [120, 10, 45, 45, 98, 10, 121, 13, 10, 45, 45, 98, 32, 10, 10, 45, 45, 98, 45, 45, 10, 122] [98] (some ⟨W4.heap.size, 0, none⟩) 22 22 W5 hby5 (by decide) (by decide) (by decide)
 rw [splitM_small] at hspl
 have Hspl := Lib.hid hspl
 have hbp5 := hbp4.below hb5 hs4
 have hpt5 : PartAt (· < W5.heap.size) W5 q [str q.type, str q.cs, str q.id, str q.loc, .int .i64 q.how, .slice Aq nq1 cq, .slice Aq2 nq2 cq2] := (hpt4.below hb5).more hb5.size
 have hbel5 := hbel4.trans (hb5.mono hbel4.size)
 have hs5 : w3.heap.size < W5.heap.size := Nat.lt_of_lt_of_le hs4 hb5.size
 have Hst5 := Lib.hid (And.intro hbp5 (And.intro hpt5 hbel5))
 clear hbp4 hpt4 hbel4 hW5 hb5 hby5 hspl hbp5 hpt5 hbel5 Hst
 go_wp2_with fail
 rw [← HW5.out]
 refine Hspl.out.mono ?_
 rintro e w6 ⟨S, c, vs, sv, rfl, hsl, hrow, hb6⟩
 simp only [List.length_cons, List.length_nil, Nat.zero_add, Nat.reduceAdd] at hsl ⊢
 clear kc
 go_upto_region 4 with fail
 obtain ⟨hbp5, hpt5, hbel5⟩ := Hst5.out
 have hbp6 := hbp5.below hb6 hs5
 have hpt6 := (hpt5.below hb6).more hb6.size
 have hbel6 := hbel5.trans (hb6.mono hbel5.size)
 have hs6 : w3.heap.size < w6.heap.size := Nat.lt_of_lt_of_le hs5 hb6.size
 have HBox : Hid (∀ X, Below w6.heap.size w6 X → Box7 X w3.heap.size (str q.type) (str q.cs) (str q.id) (str q.loc) (.int .i64 q.how) (.slice Aq nq1 cq) (.slice Aq2 nq2 cq2)) := Lib.hid (fun X h => (hbp6.below h hs6).1)
 have Hpt : Hid (∀ X, Below w6.heap.size w6 X → PartAt (· < X.heap.size) X q [str q.type, str q.cs, str q.id, str q.loc, .int .i64 q.how, .slice Aq nq1 cq, .slice Aq2 nq2 cq2]) := Lib.hid (fun X h => (hpt6.below h).more h.size)
 obtain ⟨A0, d0, hv0, hsl0, _, _⟩ := hrow.2 0 [121] rfl
 obtain ⟨A1, d1, hv1, _, _, _⟩ := hrow.2 1 [] rfl
 obtain ⟨bS, offS, hS7, hbS, hcS⟩ := hsl.2 (by omega)
 subst hS7
 simp only [List.length_cons, List.length_nil, Nat.zero_add] at hv0 hv1 hsl0
 have k0 : w6.cell? ⟨bS, offS, none⟩ = some (.slice A0 1 d0) := by simpa using hcS 0 _ hv0
 have k1 : w6.cell? ⟨bS, offS + 1, none⟩ = some (.slice A1 0 d1) := by simpa using hcS 1 _ hv1
 have HC0 : Hid (∀ X, Below w6.heap.size w6 X → X.cell? ⟨bS, offS, none⟩ = some (.slice A0 1 d0)) := Lib.hid (fun X h => (h.cell (p := ⟨bS, offS, none⟩) hbS.2).trans k0)
 have HC1 : Hid (∀ X, Below w6.heap.size w6 X → X.cell? ⟨bS, offS + 1, none⟩ = some (.slice A1 0 d1)) := Lib.hid (fun X h => (h.cell (p := ⟨bS, offS + 1, none⟩) hbS.2).trans k1)
 have hby0 : By w6 w6.heap.size A0 1 [121] := SlS.change hsl0 (fun z hz => hz.2.1) (fun _ _ => rfl)
 have HT0 : Hid (∀ X, Below w6.heap.size w6 X → (convert 22 9 (.slice A0 1 d0)).run Tryz.prog X = .ok (str [121]) X) := Lib.hid (fun X h => run_toStr (P := Tryz.prog) X 22 9 5 _ A0 1 d0 _ (hby0.below h) Tryz.underlying22 Tryz.underlying5 Tryz.underlying9)
 have Hbel6 := Lib.hid hbel6
 clear hbp5 hpt5 hbel5 hbp6 hpt6 hrow hsl hv0 hsl0 hv1 hcS k0 k1 hby0 hbel6 hb6 Hst5
 refine wp_region_held (S := fun X => Below w6.heap.size w6 X) (by kernel_rfl) ?_
 change wpAnyH _ _ _ _ _ _ _ _ (World.drew w6)
 have hS : Below w6.heap.size w6 (World.drew w6) := (Below.refl _ w6).drew
 refine tkH (i := 0) (v := ?_) rfl ?_ hS ?_
 rotate_left 1
 · intro W' hb'; go_simp; try exact rfl
 refine tkH (i := 1) (v := ?_) rfl ?_ hS ?_
 rotate_left 1
 · intro W' hb'; go_simp; try exact rfl
 refine tkH (i := 2) (v := ?_) rfl ?_ hS ?_
 rotate_left 1
 · intro W' hb'; go_simp; try exact rfl
 refine tkH (i := 3) (v := ?_) rfl ?_ hS ?_
 rotate_left 1
 · intro W' hb'; go_simp; try exact rfl
 refine tkH (i := 4) (v := ?_) rfl ?_ hS ?_
 rotate_left 1
 · intro W' hb'; go_simp; try exact rfl
 refine tkH (i := 5) (v := ?_) rfl ?_ hS ?_
 rotate_left 1
 · intro W' hb'; go_simp; try exact rfl
 refine tkH (i := 6) (v := ?_) rfl ?_ hS ?_
 rotate_left 1
 · intro W' hb'; go_simp; try exact rfl
 refine tkH (i := 7) (v := ?_) rfl ?_ hS ?_
 rotate_left 1
 · intro W' hb'; go_simp; try exact rfl
 refine tkH (i := 8) (v := ?_) rfl ?_ hS ?_
 rotate_left 1
 · intro W' hb'; go_simp; try exact rfl
 refine tkH (i := 9) (v := ?_) rfl ?_ hS ?_
 rotate_left 1
 · intro W' hb'; go_simp; try exact rfl
 refine tkH (i := 10) (v := ?_) rfl ?_ hS ?_
 rotate_left 1
 · intro W' hb'; go_simp; try exact rfl
 refine tkH (i := 11) (v := ?_) rfl ?_ hS ?_
 rotate_left 1
 · intro W' hb'; obtain ⟨x0, x1, x2, x3, x4, x5, x6⟩ := HBox.out W' hb'; go_simp; try exact rfl
 refine wpAnyH_all (rs := [12]) (by kernel_rfl) (by simp) ?_
 intro kk hkk
 simp only [List.mem_singleton] at hkk
 subst hkk
 go_simp
 refine wpM_callP rfl (by kernel_rfl) 36 #[] (by go_simp; try rfl) _ (smallP_any _) ?_
 rintro e w8 ⟨v8, rfl, hp8, hb8⟩
 refine ⟨_, rfl, ?_⟩
 have hS : Below w6.heap.size w6 w8 := hS.trans (hb8.mono hS.size)
 refine ⟨hS, ?_⟩
 clear hb8
 have hsm := SamePart_any 3 q smallD _ v8 w8 (by rw [Hq.out]; exact smallM_flat) (Hpt.out w8 hS) hp8
 rw [show sameD q smallD = true by rw [Hq.out]; exact sameD_refl _] at hsm
 have Hsm := Lib.hid hsm
 clear hsm
 refine wpAnyH_all (rs := [13]) (by kernel_rfl) (by simp) ?_
 intro kk hkk
 simp only [List.mem_singleton] at hkk
 subst hkk
 go_simp
 refine wpM_callF rfl (by kernel_rfl) 10 #[.agg #[str q.type, str q.cs, str q.id, str q.loc, .int .i64 q.how, .slice Aq nq1 cq, .slice Aq2 nq2 cq2], .agg v8.toArray] (by go_simp; try rfl) _ _ Hsm.out ?_
 intro w9 hb9
 have hS : Below w6.heap.size w6 w9 := hS.trans (hb9.mono hS.size)
 refine ⟨hS, ?_⟩
 clear hb9
 refine tkH (i := 14) (v := ?_) rfl ?_ hS ?_
 rotate_left 1
 · intro W' hb'; go_simp; try exact rfl
 refine tkH (i := 15) (v := ?_) rfl ?_ hS ?_
 rotate_left 1
 · intro W' hb'; go_simp; try exact rfl
 refine tkH (i := 16) (v := ?_) rfl ?_ hS ?_
 rotate_left 1
 · intro W' hb'; go_simp; try exact rfl
 refine tkH (i := 17) (v := ?_) rfl ?_ hS ?_
 rotate_left 1
 · intro W' hb'; go_simp; try exact rfl
 refine tkH (i := 18) (v := ?_) rfl ?_ hS ?_
 rotate_left 1
 · intro W' hb'; go_simp; try exact rfl
 refine tkH (i := 19) (v := ?_) rfl ?_ hS ?_
 rotate_left 1
 · intro W' hb'; go_simp; try exact rfl
 refine tkH (i := 20) (v := ?_) rfl ?_ hS ?_
 rotate_left 1
 · intro W' hb'; go_simp; try exact rfl
 refine tkH (i := 21) (v := ?_) rfl ?_ hS ?_
 rotate_left 1
 · intro W' hb'; go_simp; try exact rfl
 refine tkH (i := 22) (v := ?_) rfl ?_ hS ?_
 rotate_left 1
 · intro W' hb'; go_simp; try exact rfl
 refine tkH (i := 23) (v := ?_) rfl ?_ hS ?_
 rotate_left 1
 · intro W' hb'; have k0 := HC0.out W' hb'; go_simp; try exact rfl
 refine tkH (i := 24) (v := ?_) rfl ?_ hS ?_
 rotate_left 1
 · intro W' hb'; have kt := HT0.out W' hb'; go_simp; try exact rfl
 refine tkH (i := 25) (v := ?_) rfl ?_ hS ?_
 rotate_left 1
 · intro W' hb'; go_simp; try exact rfl
 refine tkH (i := 26) (v := ?_) rfl ?_ hS ?_
 rotate_left 1
 · intro W' hb'; go_simp; try exact rfl
 refine tkH (i := 27) (v := ?_) rfl ?_ hS ?_
 rotate_left 1
 · intro W' hb'; go_simp; try exact rfl
 refine tkH (i := 28) (v := ?_) rfl ?_ hS ?_
 rotate_left 1
 · intro W' hb'; go_simp; try exact rfl
 refine tkH (i := 29) (v := ?_) rfl ?_ hS ?_
 rotate_left 1
 · intro W' hb'; go_simp; try exact rfl
 refine tkH (i := 30) (v := ?_) rfl ?_ hS ?_
 rotate_left 1
 · intro W' hb'; have k1 := HC1.out W' hb'; go_simp; try exact rfl
 refine tkH (i := 31) (v := ?_) rfl ?_ hS ?_
 rotate_left 1
 · intro W' hb'; go_simp; try exact rfl
 refine tkH (i := 32) (v := ?_) rfl ?_ hS ?_
 rotate_left 1
 · intro W' hb'; go_simp; try exact rfl
 refine tkH (i := 33) (v := ?_) rfl ?_ hS ?_
 rotate_left 1
 · intro W' hb'; go_simp; try exact rfl
 refine tkH (i := 34) (v := ?_) rfl ?_ hS ?_
 rotate_left 1
 · intro W' hb'; go_simp; try exact rfl
 refine wpAnyH_done (by kernel_rfl) ?_ _
 go_simp
 go_wp2_with fail
 go_ret
 exact ⟨rfl, Hbel6.out.trans (hS.mono Hbel6.out.size)⟩
/-- A variable that holds a part. -/
def PBox (W : World) (b : Nat) (q : PartD) (A : Option Addr) (n c : Nat) (A2 : Option Addr) (n2 c2 : Nat) : Prop :=
 b < W.heap.size ∧ BoxF W b (str q.type) (str q.cs) (str q.id) (str q.loc) (.int .i64 q.how) (.slice A n c) (.slice A2 n2 c2) ∧ PartAt (· < W.heap.size) W q [str q.type, str q.cs, str q.id, str q.loc, .int .i64 q.how, .slice A n c, .slice A2 n2 c2]
theorem PBox.below {W W' : World} {b : Nat} {q : PartD} {A : Option Addr} {n c : Nat} {A2 : Option Addr} {n2 c2 : Nat} (h : PBox W b q A n c A2 n2 c2) (hb : Below W.heap.size W W') : PBox W' b q A n c A2 n2 c2 :=
 ⟨Nat.lt_of_lt_of_le h.1 hb.size, h.2.1.below hb h.1, (h.2.2.below hb).more hb.size⟩
theorem PBox.new {w : World} {q : PartD} {A : Option Addr} {n c : Nat} {A2 : Option Addr} {n2 c2 : Nat} (h : PartAt (· < w.heap.size) w q [str q.type, str q.cs, str q.id, str q.loc, .int .i64 q.how, .slice A n c, .slice A2 n2 c2]) :
 PBox (w.alloc (.cells #[str q.type, str q.cs, str q.id, str q.loc, .int .i64 q.how, .slice A n c, .slice A2 n2 c2] 25)) w.heap.size q A n c A2 n2 c2 ∧ Below w.heap.size w (w.alloc (.cells #[str q.type, str q.cs, str q.id, str q.loc, .int .i64 q.how, .slice A n c, .slice A2 n2 c2] 25)) := by
 have hb : Below w.heap.size w (w.alloc (.cells #[str q.type, str q.cs, str q.id, str q.loc, .int .i64 q.how, .slice A n c, .slice A2 n2 c2] 25)) := (Below.refl _ w).alloc (Nat.le_refl _) _
 exact ⟨⟨by simp, BoxF.of_block (t := 25) (heap_alloc_new w _), (h.below hb).more hb.size⟩, hb⟩
/-- A part's row of values, opened. -/
theorem PartAt.vals {S : Nat → Prop} {w : World} {q : PartD} {v0 v1 v2 v3 v4 v5 v6 : Value} (h : PartAt S w q [v0, v1, v2, v3, v4, v5, v6]) :
 ∃ A n c A2 n2 c2, v0 = str q.type ∧ v1 = str q.cs ∧ v2 = str q.id ∧ v3 = str q.loc ∧ v4 = .int .i64 q.how ∧ v5 = .slice A n c ∧ v6 = .slice A2 n2 c2 ∧ PartAt S w q [str q.type, str q.cs, str q.id, str q.loc, .int .i64 q.how, .slice A n c, .slice A2 n2 c2] := by
 obtain ⟨A, c, A2, c2, hv, _⟩ := h.open
 have h' := h
 rw [hv] at h'
 injection hv with h0 hv
 injection hv with h1 hv
 injection hv with h2 hv
 injection hv with h3 hv
 injection hv with h4 hv
 injection hv with h5 hv
 injection hv with h6 _
 exact ⟨A, _, c, A2, _, c2, h0, h1, h2, h3, h4, h5, h6, h'⟩
theorem PartAt.valsL {S : Nat → Prop} {w : World} {q : PartD} {v : List Value} (h : PartAt S w q v) :
 ∃ A n c A2 n2 c2, v = [str q.type, str q.cs, str q.id, str q.loc, .int .i64 q.how, .slice A n c, .slice A2 n2 c2] ∧ PartAt S w q [str q.type, str q.cs, str q.id, str q.loc, .int .i64 q.how, .slice A n c, .slice A2 n2 c2] := by
 obtain ⟨A, c, A2, c2, hv, _⟩ := h.open
 have h' := h
 rw [hv] at h'
 exact ⟨A, _, c, A2, _, c2, hv, h'⟩
/-- What 'mime.Read' answers, opened. -/
theorem ReadEnd.open {w w' : World} {q : PartD} {er : Nat} {e : Ending} (h : ReadEnd w (q, er) e w') :
 ∃ A n c A2 n2 c2, e = .returned (.tuple #[.agg #[str q.type, str q.cs, str q.id, str q.loc, .int .i64 q.how, .slice A n c, .slice A2 n2 c2], .int .i64 (er : Nat)]) ∧ PartAt (· < w'.heap.size) w' q [str q.type, str q.cs, str q.id, str q.loc, .int .i64 q.how, .slice A n c, .slice A2 n2 c2] ∧ Below w.heap.size w w' := by
 obtain ⟨v0, v1, v2, v3, v4, v5, v6, rfl, hpt, hb⟩ := h
 obtain ⟨A, n, c, A2, n2, c2, rfl, rfl, rfl, rfl, rfl, rfl, rfl, hp⟩ := hpt.vals
 exact ⟨A, n, c, A2, n2, c2, rfl, PartAt.change (fun _ h => h.2) (fun _ _ => rfl) _ _ hp, hb⟩
theorem ms1_any (x : List UInt8) (A A' : Option Addr) (n d d' B : Nat) (w : World) (h : By w B A n x) (h' : By w B A' n x) (hm : n ≤ 1000000) :
 Calls Tryz.prog 14 #[.slice A n d, .slice A' n d'] w fun e w' => e = .returned (.bool true) ∧ Below w.heap.size w w' := by
 have heq := Equal_bytes A A' n d n d' _ _ x x w h h' (by unfold maxLen; omega)
 rw [show (x == x) = true by simp] at heq
 have HE := Lib.hid heq
 clear heq h h'
 go_enter Tryz.func14, Tryz.ntmps14
 go_wp2_with fail
 refine HE.out.mono ?_
 rintro e w14 ⟨rfl, k14, rfl⟩
 have hb := belN (Below.refl w.heap.size w) k14
 go_wp2_with fail
 go_ret
 exact ⟨rfl, hb⟩
theorem EqualFunc_bss (A A' : Option Addr) (n c c' L L' : Nat) (v v' : Value) (vs vs' : List Value) (xs : List (List UInt8)) (w : World) (hA : SlS (fun b => L ≤ b ∧ b < w.heap.size) w 1 A n vs) (hsp : SpRow L w v vs xs) (hA' : SlS (fun b => L' ≤ b ∧ b < w.heap.size) w 1 A' n vs') (hsp' : SpRow L' w v' vs' xs) (hm : n ≤ 100000) (hx1 : ∀ x ∈ xs, x.length ≤ 1000000) :
 Calls Tryz.prog 13 #[.slice A n c, .slice A' n c', .func (.func 14) #[] #[]] w fun e w' => e = .returned (.bool true) ∧ Below w.heap.size w w' := by
 have hne : ((n : Int) != n) = false := by simp
 have hl : xs.length = n := by have := hA.1; rw [hsp.1] at this; omega
 have HA := Lib.hid hA
 have Hsp := Lib.hid hsp
 have HA' := Lib.hid hA'
 have Hsp' := Lib.hid hsp'
 have Hl := Lib.hid hl
 have Hx1 := Lib.hid hx1
 clear hA hsp hA' hsp' hl hx1
 go_enter Tryz.func13, Tryz.ntmps13
 go_wp2_with fail
 go_loopw [17] (fun iv wr => ∃ i : Nat, iv = .int .i64 (i : Nat) ∧ i ≤ n ∧ Below w.heap.size w wr) (fun iv _ => n - (intOf iv).toNat)
 case atStart => exact ⟨0, rfl, Nat.zero_le _, Below.refl _ _⟩
 case round =>
  obtain ⟨i, rfl, hi, hbel⟩ := hrel
  by_cases hin : i < n
  · obtain ⟨x, hx⟩ : ∃ x, xs[i]? = some x := ⟨_, List.getElem?_eq_getElem (by rw [Hl.out]; exact hin)⟩
    have hxl := Hx1.out x (List.mem_of_getElem? hx)
    obtain ⟨A1, d1, h1, h2, h3, h4⟩ := Hsp.out.2 i x hx
    obtain ⟨A2, d2, k1, k2, k3, k4⟩ := Hsp'.out.2 i x hx
    obtain ⟨b, off, rfl, hb, hc⟩ := HA.out.2 (by omega)
    obtain ⟨b', off', rfl, hb', hc'⟩ := HA'.out.2 (by omega)
    have c1 := (hbel.cell (p := ⟨b, off + i, none⟩) hb.2).trans (hc i _ h1)
    have c2 := (hbel.cell (p := ⟨b', off' + i, none⟩) hb'.2).trans (hc' i _ k1)
    have hk := ms1_any x A1 A2 x.length d1 d2 wr.heap.size wr (SlS.change h2 (fun b hb => Nat.lt_of_lt_of_le hb.2.1 hbel.size) (fun p hp => hbel.cell hp.2.1)) (SlS.change k2 (fun b hb => Nat.lt_of_lt_of_le hb.2.1 hbel.size) (fun p hp => hbel.cell hp.2.1)) hxl
    have Hk := Lib.hid hk
    clear hx h1 h2 h3 h4 k1 k2 k3 k4 hb hc hb' hc' hk
    go_wp2_with fail
    refine Hk.out.mono ?_
    rintro e w1 ⟨rfl, hb1⟩
    go_wp2_with fail
    exact ⟨⟨i + 1, by go_num, by omega, hbel.trans (hb1.mono hbel.size)⟩, by simp [intOf]; omega⟩
  · go_wp2_with fail
    go_ret
    exact ⟨rfl, hbel⟩
theorem zeroS (w : World) : PartAt (· < w.heap.size) w zeroPD [.string ⟨#[]⟩, .string ⟨#[]⟩, .string ⟨#[]⟩, .string ⟨#[]⟩, .int .i64 0, .slice none 0 0, .slice none 0 0] := zero_at _ _
theorem DeOk.below_ {w w' : World} (h : DeOk w) (hb : Below w.heap.size w w') : DeOk w' := by
 unfold DeOk at h ⊢
 exact (hb.cell (World.block_lt_of_cell? _ _ h)).trans h
theorem mimeSays_walk (p : PartD) (v : List Value) (b : List UInt8) (A : Option Addr) (n c : Nat) (bd : List UInt8) (w : World) (hMx : MaxLenOk w) (hPw : PowOk w) (hUw : U8Ok w) (hDw : DeOk w) (w0 : PartAt (· < w.heap.size) w p v) (hb : By w w.heap.size A n b) (hn : n ≤ c) (hc : c ≤ maxLen) (hbd : bd.length ≤ maxLen) :
 Calls Tryz.prog 3 #[.agg v.toArray, .slice A n c, str bd] w fun e w' => e = .returned (.bool true) ∧ Below w.heap.size w w' := by
 obtain ⟨Ap, np, cp, Bp, mp, dp, rfl, hp⟩ := w0.valsL
 obtain ⟨q, e2, hrd⟩ : ∃ q e2, readM b = (q, e2) := ⟨_, _, rfl⟩
 obtain ⟨b1, e1, hw1⟩ : ∃ b1 e1, writeM p = (b1, e1) := ⟨_, _, rfl⟩
 obtain ⟨L, se, hSp⟩ : ∃ L se, splitM b bd = (L, se) := ⟨_, _, rfl⟩
 have hbl := hb.len
 have HM := Lib.hid hMx
 have HP := Lib.hid hPw
 have HU := Lib.hid hUw
 have HD := Lib.hid hDw
 have Hrd := Lib.hid hrd
 have Hw1 := Lib.hid hw1
 have HSp := Lib.hid hSp
 have Hb := Lib.hid hb
 have Hbl := Lib.hid hbl
 obtain ⟨W0, hW0⟩ : ∃ X, X = w.alloc (.cells #[str p.type, str p.cs, str p.id, str p.loc, .int .i64 p.how, .slice Ap np cp, .slice Bp mp dp] 25) := ⟨_, rfl⟩
 obtain ⟨bx0, bl0⟩ := PBox.new hp
 rw [← hW0] at bx0 bl0
 have HW0 := Lib.hid hW0
 have Hbx0 := Lib.hid bx0
 have Hbel0 := Lib.hid bl0
 have ⟨⟨x0, x1, x2, x3, x4, x5, x6⟩, xf⟩ := bx0.2.1
 clear hMx hPw hUw hDw hrd hw1 hSp hb hp w0 hW0 bx0 bl0 hbl
 go_enter Tryz.func3, Tryz.ntmps3
 go_wp2_with fail
 rw [← HW0.out]
 refine (MWrite_any p _ W0 Hbx0.out.2.2 (HM.out.below Hbel0.out) (HP.out.below Hbel0.out)).mono ?_
 rw [Hw1.out]
 rintro e w1 ⟨A1, c1, rfl, hby1, hc1, hm1, hb1⟩
 have Hbel1 := Lib.hid (Hbel0.out.trans (hb1.mono Hbel0.out.size))
 have Hbx1 := Lib.hid (Hbx0.out.below hb1)
 simp only at hc1 hby1 ⊢
 have Hby1 := Lib.hid hby1
 clear hb1 hby1
 clear x0 x1 x2 x3 x4 x5 x6 xf
 go_wp2_with fail
 refine (Split_any b bd A n c w1 ((Hb.out.below Hbel1.out).more Hbel1.out.size) hn hc hbd).mono ?_
 rw [HSp.out]
 rintro e w2 ⟨S7, c7, vs7, v7, rfl, hs7, hr7, hb2⟩
 simp only at hs7 hr7 ⊢
 have Hbel2 := Lib.hid (Hbel1.out.trans (hb2.mono Hbel1.out.size))
 have Hbx2 := Lib.hid (Hbx1.out.below hb2)
 have Hby2 := Lib.hid ((Hby1.out.below hb2).more hb2.size)
 have Hs7 := Lib.hid hs7
 have Hr7 := Lib.hid hr7
 clear hb2 hs7 hr7
 go_wp2_with fail
 refine (mread_any b A n c w2 ((Hb.out.below Hbel2.out).more Hbel2.out.size) hn hc).mono ?_
 rw [Hrd.out]
 intro e w3 hr3
 obtain ⟨A3, n3, c3, B3, m3, d3, rfl, hq3, hb3⟩ := hr3.open
 have Hbel3 := Lib.hid (Hbel2.out.trans (hb3.mono Hbel2.out.size))
 have Hbx3 := Lib.hid (Hbx2.out.below hb3)
 have Hby3 := Lib.hid ((Hby2.out.below hb3).more hb3.size)
 have Hf3 := Lib.hid hb3
 clear hr3 hb3
 obtain ⟨W4, hW4⟩ : ∃ X, X = w3.alloc (.cells #[str q.type, str q.cs, str q.id, str q.loc, .int .i64 q.how, .slice A3 n3 c3, .slice B3 m3 d3] 25) := ⟨_, rfl⟩
 obtain ⟨bx4, bl4⟩ := PBox.new hq3
 rw [← hW4] at bx4 bl4
 have HW4 := Lib.hid hW4
 clear hW4 hq3
 go_upto_region 4 with fail
 rw [← HW4.out]
 have Hbel4 := Lib.hid (Hbel3.out.trans (bl4.mono Hbel3.out.size))
 have Hbx4 := Lib.hid (Hbx3.out.below bl4)
 have Hby4 := Lib.hid ((Hby3.out.below bl4).more bl4.size)
 have Hf4 := Lib.hid (Hf3.out.trans (bl4.mono Hf3.out.size))
 have Hbq4 := Lib.hid bx4
 clear bx4 bl4
 have by_ := Hbx4.out
 have ⟨⟨x0, x1, x2, x3, x4, x5, x6⟩, xf⟩ := by_.2.1
 clear by_
 go_wp2_with fail
 refine (CheckPart_any p _ W4 Hbx4.out.2.2 (HU.out.below Hbel4.out)).mono ?_
 obtain ⟨ck, hck⟩ : ∃ k, k = checkD p := ⟨_, rfl⟩
 rw [← hck]
 rintro e w5 ⟨rfl, hb5⟩
 have Hck := Lib.hid hck
 have Hbel5 := Lib.hid (Hbel4.out.trans (hb5.mono Hbel4.out.size))
 have Hbx5 := Lib.hid (Hbx4.out.below hb5)
 have Hby5 := Lib.hid ((Hby4.out.below hb5).more hb5.size)
 have Hf5 := Lib.hid (Hf4.out.trans (hb5.mono Hf4.out.size))
 have Hbq5 := Lib.hid (Hbq4.out.below hb5)
 clear hb5 hck
 clear x0 x1 x2 x3 x4 x5 x6 xf
 obtain ⟨z0, hz0⟩ : ∃ z, z = ((ck : Int) == 0) := ⟨_, rfl⟩
 have Hz0 := Lib.hid hz0.symm
 have qz0 := hz0.symm
 clear hz0
 go_upto_if 38 with (fail)
 go_cut [13, 14] from 39 to 43 (fun s13 s14 wx => s13 = .int .i64 (e1 : Nat) ∧ s14 = str b1 ∧ Below w5.heap.size w5 wx)
 case first =>
  have hw := Hw1.out
  unfold writeM at hw
  rw [← Hck.out] at hw
  have hz := Hz0.out
  clear qz0
  cases z0 with
  | true =>
   obtain rfl : ck = 0 := by simpa using hz
   rw [if_neg (by simp)] at hw
   obtain ⟨T, hT⟩ : ∃ T, T = textM p := ⟨_, rfl⟩
   obtain ⟨g1, _, g3⟩ := checkM_parts Hck.out.symm
   have htx := RPartText_any (flatD p).length p _ w5 (Nat.le_refl _) g3 g1 Hbx5.out.2.2 (HM.out.below Hbel5.out) (HP.out.below Hbel5.out) (HD.out.below_ Hbel5.out)
   rw [← hT] at hw htx
   have Htx := Lib.hid htx
   have by_ := Hbx5.out
   have ⟨⟨x0, x1, x2, x3, x4, x5, x6⟩, xf⟩ := by_.2.1
   clear by_ htx hz hT g1 g3
   by_cases h4 : 40000 < T.length
   · rw [if_pos h4] at hw
     injection hw with hw1 hw2
     subst hw1 hw2
     have d4 : decide ((40000 : Int) < (T.length : Int)) = true := by simp; omega
     clear h4
     go_wp2_with fail
     refine Htx.out.mono ?_
     rintro e w6 ⟨rfl, hb6⟩
     have Hb6 := Lib.hid hb6
     clear hb6
     go_wp2_with fail
     go_meet
     exact ⟨rfl, rfl, Hb6.out⟩
   · rw [if_neg h4] at hw
     injection hw with hw1 hw2
     subst hw1 hw2
     have d4 : decide ((40000 : Int) < (T.length : Int)) = false := by simp; omega
     clear h4
     go_wp2_with fail
     refine Htx.out.mono ?_
     rintro e w6 ⟨rfl, hb6⟩
     have Hb6 := Lib.hid hb6
     clear hb6
     go_wp2_with fail
     go_meet
     exact ⟨rfl, rfl, Hb6.out⟩
  | false =>
   have hk : ck ≠ 0 := by simpa using hz
   rw [if_pos hk] at hw
   injection hw with hw1 hw2
   subst hw1 hw2
   clear hz hk
   go_wp2_with fail
   go_meet
   exact ⟨rfl, rfl, Below.refl _ _⟩
 case rest =>
  obtain ⟨rfl, rfl, hb6⟩ := hcut
  obtain ⟨w6, rfl⟩ : ∃ x, x = wc := ⟨_, rfl⟩
  have Hbel6 := Lib.hid (Hbel5.out.trans (hb6.mono Hbel5.out.size))
  have Hby6 := Lib.hid ((Hby5.out.below hb6).more hb6.size)
  have Hf6 := Lib.hid (Hf5.out.trans (hb6.mono Hf5.out.size))
  have Hbq6 := Lib.hid (Hbq5.out.below hb6)
  clear hb6 qz0
  have hee : ((e1 : Int) != (e1 : Int)) = false := by simp
  have hbb : (b1 == b1) = true := by simp
  have hbb2 : (b1 != b1) = false := by simp
  go_wp2_with fail
  refine (bundled_any w6 (HM.out.below Hbel6.out) (HP.out.below Hbel6.out)).mono ?_
  rintro e w7 ⟨rfl, hb7⟩
  have Hbel7 := Lib.hid (Hbel6.out.trans (hb7.mono Hbel6.out.size))
  have Hf7 := Lib.hid (Hf6.out.trans (hb7.mono Hf6.out.size))
  have Hbq7 := Lib.hid (Hbq6.out.below hb7)
  have hts := run_toStr (P := Tryz.prog) w7 22 9 5 _ A1 b1.length c1 b1 ((Hby6.out.below hb7).more hb7.size) Tryz.underlying22 Tryz.underlying5 Tryz.underlying9
  clear hb7
  by_cases h4 : 40000 < n
  · have hsp := HSp.out
    have hrd := Hrd.out
    unfold splitM at hsp
    unfold readM at hrd
    rw [if_pos (by rw [Hbl.out]; exact h4)] at hsp hrd
    injection hsp with hsp1 hsp2
    injection hrd with hrd1 hrd2
    subst hsp1 hsp2 hrd2
    have Hq := Lib.hid hrd1
    have d4 : decide ((40000 : Int) < (n : Int)) = true := by simp; omega
    clear h4 hrd1
    have by_ := Hbq7.out
    have ⟨⟨x0, x1, x2, x3, x4, x5, x6⟩, xf⟩ := by_.2.1
    clear by_
    go_wp2_with fail
    have hsm := SamePart_any (flatD q).length q zeroPD _ _ w7 (Nat.le_refl _) Hbq7.out.2.2 (zeroS w7)
    rw [← Hq.out, sameD_refl, Hq.out] at hsm
    refine hsm.mono ?_
    rintro e w8 ⟨rfl, hb8⟩
    have Hbel8 := Lib.hid (Hbel7.out.trans (hb8.mono Hbel7.out.size))
    clear hb8 hsm
    clear x0 x1 x2 x3 x4 x5 x6 xf
    go_wp2_with fail
    go_ret
    exact ⟨rfl, Hbel8.out⟩
  · have d4 : decide ((40000 : Int) < (n : Int)) = false := by simp; omega
    have h4' : n ≤ 40000 := by omega
    have hee2 : ((e2 : Int) != (e2 : Int)) = false := by simp
    clear h4
    go_wp2_with fail
    refine (RBundleRead_any b A n c w7 (HM.out.below Hbel7.out) (HU.out.below Hbel7.out) ((Hb.out.below Hbel7.out).more Hbel7.out.size) hn hc h4').mono ?_
    rw [Hrd.out]
    intro e w8 hr8
    obtain ⟨A8, n8, c8, B8, m8, d8, rfl, hq8, hb8⟩ := hr8.open
    have Hbel8 := Lib.hid (Hbel7.out.trans (hb8.mono Hbel7.out.size))
    have Hf8 := Lib.hid (Hf7.out.trans (hb8.mono Hf7.out.size))
    have Hbq8 := Lib.hid (Hbq7.out.below hb8)
    clear hr8 hb8 hts
    obtain ⟨W9, hW9⟩ : ∃ X, X = w8.alloc (.cells #[str q.type, str q.cs, str q.id, str q.loc, .int .i64 q.how, .slice A8 n8 c8, .slice B8 m8 d8] 25) := ⟨_, rfl⟩
    obtain ⟨bx9, bl9⟩ := PBox.new hq8
    rw [← hW9] at bx9 bl9
    have HW9 := Lib.hid hW9
    clear hW9 hq8
    go_upto_region 15 with fail
    rw [← HW9.out]
    have Hbel9 := Lib.hid (Hbel8.out.trans (bl9.mono Hbel8.out.size))
    have Hf9 := Lib.hid (Hf8.out.trans (bl9.mono Hf8.out.size))
    have Hbq9 := Lib.hid (Hbq8.out.below bl9)
    have Hbr9 := Lib.hid bx9
    have by_ := Hbq9.out
    have ⟨⟨x0, x1, x2, x3, x4, x5, x6⟩, xf⟩ := by_.2.1
    have ⟨⟨y0, y1, y2, y3, y4, y5, y6⟩, yf⟩ := bx9.2.1
    clear by_ bx9 bl9
    go_wp2_with fail
    have hsm := SamePart_any (flatD q).length q q _ _ W9 (Nat.le_refl _) Hbq9.out.2.2 Hbr9.out.2.2
    rw [sameD_refl] at hsm
    refine hsm.mono ?_
    rintro e w10 ⟨rfl, hb10⟩
    have Hbel10 := Lib.hid (Hbel9.out.trans (hb10.mono Hbel9.out.size))
    have Hf10 := Lib.hid (Hf9.out.trans (hb10.mono Hf9.out.size))
    clear hb10 hsm
    clear x0 x1 x2 x3 x4 x5 x6 xf
    clear y0 y1 y2 y3 y4 y5 y6 yf
    by_cases hz : bd = [] ∨ 60 < bd.length
    · have hsp := HSp.out
      unfold splitM at hsp
      rw [if_neg (by rw [Hbl.out]; omega), if_pos hz] at hsp
      injection hsp with hsp1 hsp2
      subst hsp1 hsp2
      by_cases hb0 : bd = []
      · have q3 : bd.isEmpty = true := by rw [hb0]; rfl
        have q4 : (bd == []) = true := by rw [hb0]; rfl
        clear hz hb0
        go_wp2_with fail
        go_ret
        exact ⟨rfl, Hbel10.out⟩
      · have q3 : bd.isEmpty = false := by cases bd with | nil => exact absurd rfl hb0 | cons _ _ => rfl
        have q4 : (bd == []) = false := beq_eq_false_iff_ne.2 hb0
        have q5 : decide ((60 : Int) < (bd.length : Int)) = true := by rcases hz with h | h; exact absurd h hb0; simp; omega
        clear hz hb0
        go_wp2_with fail
        go_ret
        exact ⟨rfl, Hbel10.out⟩
    · have hb0 : bd ≠ [] := fun h => hz (.inl h)
      have hb6 : bd.length ≤ 60 := by omega
      have q3 : bd.isEmpty = false := by cases bd with | nil => exact absurd rfl hb0 | cons _ _ => rfl
      have q4 : (bd == []) = false := beq_eq_false_iff_ne.2 hb0
      have q5 : decide ((60 : Int) < (bd.length : Int)) = false := by simp; omega
      have hbl4 : b.length ≤ 40000 := by rw [Hbl.out]; exact h4'
      have hspl := split_small b bd hbl4
      have hspn := split_many b bd hbl4
      have hsb := SplitBy_any b bd A n c w10 (HM.out.below Hbel10.out) ((Hb.out.below Hbel10.out).more Hbel10.out.size) h4' hb6
      rw [← splitM_lpA hbl4 hb0 hb6, HSp.out] at hsb
      rw [HSp.out] at hspl hspn
      simp only at hspl hspn
      have Hsb := Lib.hid hsb
      have Hspl := Lib.hid hspl
      have hss : ((se : Int) == (se : Int)) = true := by simp
      clear hz hb0 hspl hsb hbl4
      go_wp2_with fail
      refine Hsb.out.mono ?_
      rintro e w11 ⟨S8, e8, vs8, v8, rfl, hs8, hr8, hb11⟩
      simp only at hs8 hr8 ⊢
      have Hbel11 := Lib.hid (Hbel10.out.trans (hb11.mono Hbel10.out.size))
      have Hf11 := Hf10.out.trans (hb11.mono Hf10.out.size)
      have heq := EqualFunc_bss S7 S8 L.length c7 e8 w1.heap.size w10.heap.size v7 v8 vs7 vs8 L w11 (SlS.change Hs7.out (fun z hz => ⟨hz.1, Nat.lt_of_lt_of_le hz.2 Hf11.size⟩) (fun z hz => Hf11.cell hz.2)) (Hr7.out.below Hf11) hs8 hr8 (by omega) (fun x hx => by have := Hspl.out x hx; omega)
      have Heq := Lib.hid heq
      clear heq hs8 hr8 hb11 Hf11
      go_wp2_with fail
      refine Heq.out.mono ?_
      rintro e w12 ⟨rfl, hb12⟩
      have Hbel12 := Lib.hid (Hbel11.out.trans (hb12.mono Hbel11.out.size))
      clear hb12
      go_wp2_with fail
      go_ret
      exact ⟨rfl, Hbel12.out⟩
end Go.Proofs.YtinfjdfhkfhgjaaGreatDoor

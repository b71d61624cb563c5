import Derived.Test.YtdhmmepcnladcaaDoorRp8
import Derived.Test.YtdhmmepcnladcaaDoorRp9
import Derived.Test.YtdhmmepcnladcaaDoorRpC
import Derived.Test.YtdhmmepcnladcaaDoorParted
namespace Go.Proofs.YtdhmmepcnladcaaDoor
open Go.RowKit

def PQ (W : World) (b : Nat) (v0 v1 v2 v3 v4 v5 v6 u0 u1 u2 u3 u4 u5 u6 : Value) : Prop := Box7 W b v0 v1 v2 v3 v4 v5 v6 ∧ Box7 W (b + 1) u0 u1 u2 u3 u4 u5 u6
theorem PQ.below {W W' : World} {b : Nat} {v0 v1 v2 v3 v4 v5 v6 u0 u1 u2 u3 u4 u5 u6 : Value} (h : PQ W b v0 v1 v2 v3 v4 v5 v6 u0 u1 u2 u3 u4 u5 u6) (hb : Below W.heap.size W W') : PQ W' b v0 v1 v2 v3 v4 v5 v6 u0 u1 u2 u3 u4 u5 u6 := ⟨h.1.below hb, h.2.below hb⟩
def LawP (w : World) (e : Ending) (w' : World) : Prop := e = .returned (.bool true) ∧ Below w.heap.size w w'
set_option maxRecDepth 100000 in
set_option maxHeartbeats 4000000 in
theorem PartSays_walk (p q : PartD) (v u : List Value) (s : List UInt8) (w : World) (hp : PartAt (· < w.heap.size) w p v) (hq : PartAt (· < w.heap.size) w q u) (hs : s.length ≤ maxLen) (hT : U8Ok w) :
    Calls Tryd.prog 3 #[.agg v.toArray, .agg u.toArray, str s] w (LawP w) := by
  have hok := checkD_ok p
  have hal := fun W h => All_any p v W h
  have hwt := fun W h => Within_any p v W h
  have hcp := fun W h => CheckPart_any p v W h
  have hck : ∀ W, Below w.heap.size w W → _ := fun W hb => PCheck_any p v W ((hp.below hb).more hb.size)
  have hsa : ∀ W, Below w.heap.size w W → _ := fun W hb => Same_any (flatD p).length p q v u W (Nat.le_refl _) ((hp.below hb).more hb.size) ((hq.below hb).more hb.size)
  have hsp : ∀ W, Below w.heap.size w W → _ := fun W hb => SamePart_any (flatD p).length p q v u W (Nat.le_refl _) ((hp.below hb).more hb.size) ((hq.below hb).more hb.size)
  have hty := fun W => Type_any s W hs
  have hit : ∀ W, Below w.heap.size w W → _ := fun W hb => IsType_any s W hs (hT.below hb)
  have hma := fun W => Many_any s W
  have him := fun W => (IsMany_any s W hs).mono (fun e w' h => (⟨h.1, by rw [h.2]; exact Below.refl _ _⟩ : e = _ ∧ Below W.heap.size W w'))
  have hwo := fun W => Word_any s W hs
  have hiw := fun W => (IsWord_any s W hs).mono (fun e w' h => (⟨h.1, by rw [h.2]; exact Below.refl _ _⟩ : e = _ ∧ Below W.heap.size W w'))
  have hfl := fun W hB h => Flat_any 12 p v w.heap.size W h (by omega) hB
  have hin := fun W hB h => InWhich_any 12 p v w.heap.size W h (by omega) hB
  have hie := inwD_eq p
  have hil := inwD_len p
  unfold AllOut at hal
  unfold WthOut at hwt
  unfold InwRes at hin
  rw [← hie] at hwt
  generalize sameD p q = r1 at hsa hsp
  generalize typB s = r2 at hty hit
  generalize manyB s = r3 at hma him
  generalize wordB s = r4 at hwo hiw
  have e1 : (r1 != r1) = false := by cases r1 <;> rfl
  have e2 : (r2 != r2) = false := by cases r2 <;> rfl
  have e3 : (r3 != r3) = false := by cases r3 <;> rfl
  have e4 : (r4 != r4) = false := by cases r4 <;> rfl
  obtain ⟨A, c, A2, c2, rfl, _⟩ := hp.open
  obtain ⟨B1, d, B2, d2, rfl, _⟩ := hq.open
  obtain ⟨W, hW⟩ : ∃ W, W = (w.alloc (.cells #[str p.type, str p.cs, str p.id, str p.loc, .int .i64 p.how, .slice A p.body.length c, .slice A2 p.parts.length c2] 25)).alloc (.cells #[str q.type, str q.cs, str q.id, str q.loc, .int .i64 q.how, .slice B1 q.body.length d, .slice B2 q.parts.length d2] 25) := ⟨_, rfl⟩
  have hbW : Below w.heap.size w W := by rw [hW]; exact ((Below.refl _ w).alloc (Nat.le_refl _) _).alloc (by simp) _
  have hxy : PQ W w.heap.size (str p.type) (str p.cs) (str p.id) (str p.loc) (.int .i64 p.how) (.slice A p.body.length c) (.slice A2 p.parts.length c2) (str q.type) (str q.cs) (str q.id) (str q.loc) (.int .i64 q.how) (.slice B1 q.body.length d) (.slice B2 q.parts.length d2) := by
    rw [hW]
    exact ⟨(Box7.new w _ _ _ _ _ _ _ _).below ((Below.refl _ _).alloc (Nat.le_refl _) _), boxes2 w _ _ _ _ _ _ _ _ _ _ _ _ _ _⟩
  have HAl := Lib.hid hal
  have HWt := Lib.hid hwt
  have HCp := Lib.hid hcp
  have HCk := Lib.hid hck
  have HSa := Lib.hid hsa
  have HSp := Lib.hid hsp
  have HTy := Lib.hid hty
  have HIt := Lib.hid hit
  have HMa := Lib.hid hma
  have HIm := Lib.hid him
  have HWo := Lib.hid hwo
  have HIw := Lib.hid hiw
  have HFl := Lib.hid hfl
  have HIn := Lib.hid hin
  have Hil := Lib.hid hil
  have Hp := Lib.hid hp
  have HT := Lib.hid hT
  clear hal hwt hcp hck hsa hsp hty hit hma him hwo hiw hfl hin hil hie hp hq hT hs
  generalize checkD p = R at HAl HWt HCp HCk hok
  have e5 : ((R : Int) != (R : Int)) = false := by simp
  by_cases hR : R = 0
  · subst hR
    simp only [if_true] at HAl HWt
    have hl12 := (hok rfl).1
    clear hok
    generalize flatD p = L at HAl HWt HFl HIn Hil hl12
    obtain ⟨n, hn⟩ : ∃ n, n = L.length := ⟨_, rfl⟩
    rw [← hn] at HAl HWt hl12
    have Hn := Lib.hid hn
    clear hn
    go_enter Tryd.func3, Tryd.ntmps3
    go_wp2_with fail
    rw [← hW]
    clear hW
    refine (HAl.out W ((Hp.out.below hbW).more hbW.size)).mono ?_
    rintro e w1 ⟨S1, c1, rfl, hs1, hc1, hm1, hb1⟩
    have hbel := hbW.trans (hb1.mono hbW.size)
    have hxy := PQ.below hxy hb1
    have ⟨⟨x0, x1, x2, x3, x4, x5, x6⟩, _⟩ := hxy
    clear hb1 hbW
    go_wp2_with fail
    refine (HWt.out w1 ((Hp.out.below hbel).more hbel.size)).mono ?_
    rintro e w2 ⟨S2, c2', rfl, hs2, hc2, hm2, hb2⟩
    have hb1c := hb2
    have hbel := hbel.trans (hb2.mono hbel.size)
    have hxy := PQ.below hxy hb2
    clear x0 x1 x2 x3 x4 x5 x6
    have ⟨⟨x0, x1, x2, x3, x4, x5, x6⟩, _⟩ := hxy
    clear hb2
    go_wp2_with fail
    refine (HCp.out w2 ((Hp.out.below hbel).more hbel.size) (HT.out.below hbel)).mono ?_
    rintro e w3 ⟨rfl, hb3⟩
    have hb2c := hb3
    have hb1c := hb1c.trans (hb3.mono hb1c.size)
    have hbel := hbel.trans (hb3.mono hbel.size)
    have hxy := PQ.below hxy hb3
    clear x0 x1 x2 x3 x4 x5 x6
    have Hs1 := Lib.hid hs1
    have Hs2 := Lib.hid hs2
    clear hb3 hs1 hs2
    go_wp2_with fail
    have hxy := PQ.below hxy ((Below.refl w3.heap.size w3).drew)
    have hbel := hbel.drew
    have hb1c := hb1c.drew
    have hb2c := hb2c.drew
    go_region_held (fun w' => (w'.cell? ⟨w.heap.size, 0, none⟩ = some (str p.type) ∧ w'.cell? ⟨w.heap.size, 1, none⟩ = some (str p.cs) ∧ w'.cell? ⟨w.heap.size, 2, none⟩ = some (str p.id) ∧ w'.cell? ⟨w.heap.size, 3, none⟩ = some (str p.loc) ∧ w'.cell? ⟨w.heap.size, 4, none⟩ = some (.int .i64 p.how) ∧ w'.cell? ⟨w.heap.size, 5, none⟩ = some (.slice A p.body.length c) ∧ w'.cell? ⟨w.heap.size, 6, none⟩ = some (.slice A2 p.parts.length c2)) ∧ (w'.cell? ⟨w.heap.size + 1, 0, none⟩ = some (str q.type) ∧ w'.cell? ⟨w.heap.size + 1, 1, none⟩ = some (str q.cs) ∧ w'.cell? ⟨w.heap.size + 1, 2, none⟩ = some (str q.id) ∧ w'.cell? ⟨w.heap.size + 1, 3, none⟩ = some (str q.loc) ∧ w'.cell? ⟨w.heap.size + 1, 4, none⟩ = some (.int .i64 q.how) ∧ w'.cell? ⟨w.heap.size + 1, 5, none⟩ = some (.slice B1 q.body.length d) ∧ w'.cell? ⟨w.heap.size + 1, 6, none⟩ = some (.slice B2 q.parts.length d2))) (exact ⟨hxy.1, hxy.2⟩) ((first | (go_at_call 14; refine (parted_any _).mono ?_; rintro e wn ⟨rfl, hb⟩; have hxy := PQ.below hxy hb; have hbel := hbel.trans (hb.mono hbel.size); have hb1c := hb1c.trans (hb.mono hb1c.size); have hb2c := hb2c.trans (hb.mono hb2c.size)) | (go_at_call 15; refine (HCk.out _ hbel).mono ?_; rintro e wn ⟨rfl, hb⟩; have hxy := PQ.below hxy hb; have hbel := hbel.trans (hb.mono hbel.size); have hb1c := hb1c.trans (hb.mono hb1c.size); have hb2c := hb2c.trans (hb.mono hb2c.size)) | (go_at_call 16; refine (HSa.out _ hbel).mono ?_; rintro e wn ⟨rfl, hb⟩; have hxy := PQ.below hxy hb; have hbel := hbel.trans (hb.mono hbel.size); have hb1c := hb1c.trans (hb.mono hb1c.size); have hb2c := hb2c.trans (hb.mono hb2c.size)) | (go_at_call 17; refine (HSp.out _ hbel).mono ?_; rintro e wn ⟨rfl, hb⟩; have hxy := PQ.below hxy hb; have hbel := hbel.trans (hb.mono hbel.size); have hb1c := hb1c.trans (hb.mono hb1c.size); have hb2c := hb2c.trans (hb.mono hb2c.size)) | (go_at_call 18; refine (HTy.out _).mono ?_; rintro e wn ⟨rfl, hb⟩; have hxy := PQ.below hxy hb; have hbel := hbel.trans (hb.mono hbel.size); have hb1c := hb1c.trans (hb.mono hb1c.size); have hb2c := hb2c.trans (hb.mono hb2c.size)) | (go_at_call 19; refine (HIt.out _ hbel).mono ?_; rintro e wn ⟨rfl, hb⟩; have hxy := PQ.below hxy hb; have hbel := hbel.trans (hb.mono hbel.size); have hb1c := hb1c.trans (hb.mono hb1c.size); have hb2c := hb2c.trans (hb.mono hb2c.size)) | (go_at_call 20; refine (HMa.out _).mono ?_; rintro e wn ⟨rfl, rfl⟩) | (go_at_call 21; refine (HIm.out _).mono ?_; rintro e wn ⟨rfl, hb⟩; have hxy := PQ.below hxy hb; have hbel := hbel.trans (hb.mono hbel.size); have hb1c := hb1c.trans (hb.mono hb1c.size); have hb2c := hb2c.trans (hb.mono hb2c.size)) | (go_at_call 22; refine (HWo.out _).mono ?_; rintro e wn ⟨rfl, hb⟩; have hxy := PQ.below hxy hb; have hbel := hbel.trans (hb.mono hbel.size); have hb1c := hb1c.trans (hb.mono hb1c.size); have hb2c := hb2c.trans (hb.mono hb2c.size)) | (go_at_call 23; refine (HIw.out _).mono ?_; rintro e wn ⟨rfl, hb⟩; have hxy := PQ.below hxy hb; have hbel := hbel.trans (hb.mono hbel.size); have hb1c := hb1c.trans (hb.mono hb1c.size); have hb2c := hb2c.trans (hb.mono hb2c.size))))
    clear HCk HSa HSp HTy HIt HMa HIm HWo HIw e1 e2 e3 e4 e5
    have ⟨⟨x0, x1, x2, x3, x4, x5, x6⟩, _⟩ := hxy
    go_wp2_with fail
    refine (HFl.out _ hbel.size (by rw [← Hn.out]; exact hl12) (Hp.out.below hbel)).mono ?_
    rintro e wF ⟨S3, c3, rows, rfl, hown, hrows, hbF⟩
    rw [← Hn.out] at hown ⊢
    have hszn := hbel.size
    have hxyn := hxy
    have hc3 := own_cap hown
    have hcm3 := own_capmax hown
    have Hown := Lib.hid hown
    have Hrows := Lib.hid hrows
    have Hcm3 := Lib.hid hcm3
    clear hown hrows hcm3 x0 x1 x2 x3 x4 x5 x6 HFl
    go_wp2_with fail
    go_loopw [86] (AllRel2 L w.heap.size n S3 c3 wn) (fun iv _ => n - (intOf iv).toNat)
    case atStart => exact ⟨0, [], rows, rfl, Nat.zero_le _, rfl, Hown.out, rfl, Hrows.out, hbF⟩
    case round =>
      clear Hown Hrows
      obtain ⟨i, done, rest, rfl, hi, hdl, hown, hpd, hpr, hbelr⟩ := hrel
      by_cases hin : i < n
      · obtain ⟨g, cap, hv, hgb, hgl⟩ := hown.form (by omega)
        injection hv with hS2 _ hcap
        subst hS2
        subst hcap
        have hiL : i < L.length := by rw [← Hn.out]; exact hin
        rw [List.drop_eq_getElem_cons hiL] at hpr
        obtain ⟨r, rs, rfl, hpq, hprs⟩ := hpr
        have hpd7 := PartsAt.rows _ _ hpd
        have ht : (L.take (i + 1)).map bareD = (L.take i).map bareD ++ [bareD L[i]] := by rw [List.take_succ_eq_append_getElem hiL, List.map_append]; rfl
        generalize L[i] = q at hpq ht
        obtain ⟨A', c', A2', c2'', rfl, _⟩ := hpq.open
        have hrw7 : ∀ x ∈ done ++ [str q.type, str q.cs, str q.id, str q.loc, .int .i64 q.how, .slice A' q.body.length c', .slice A2' q.parts.length c2''] :: rs, x.length = 7 := by
          intro x hx
          rcases List.mem_append.1 hx with hx | hx
          · exact hpd7 x hx
          · rcases List.mem_cons.1 hx with rfl | hx
            · rfl
            · exact PartsAt.rows _ _ hprs x hx
        have q6 : wr.cell? ⟨g, i * 7 + 6, none⟩ = some (.slice A2' q.parts.length c2'') := by
          rw [hown.cellAt _ (by omega), flat7_at _ hrw7 i 6 _ (by rw [List.getElem?_append_right (by omega), hdl, Nat.sub_self]; rfl) (by omega)]
          rfl
        have f6 : wr.frozen? ⟨g, i * 7 + 6, none⟩ = false := hown.frozenAt _
        have hown7 := (hown.stored (i * 7 + 6) (.slice none 0 0)).1
        have hfs := flat7_set6 done hpd7 (str q.type) (str q.cs) (str q.id) (str q.loc) (.int .i64 q.how) (.slice A' q.body.length c') (.slice A2' q.parts.length c2'') (.slice none 0 0) rs
        rw [hdl] at hfs
        rw [hfs] at hown7
        have hbel7 := hbelr.setCell (p := ⟨g, i * 7 + 6, none⟩) hgb (.slice none 0 0)
        have far : ∀ a : Addr, a.block < w.heap.size → (wr.setCell ⟨g, i * 7 + 6, none⟩ (.slice none 0 0)).cell? a = wr.cell? a := fun a ha => World.cell?_setCell_other _ _ _ _ (by rintro rfl; simp at ha; omega)
        have h1 := PartsAt.change (fun _ h => h) far _ _ hpd
        have h2 := PartsAt.change (fun _ h => h) far _ _ hprs
        have h3 := PartAt.change (fun _ h => h) far _ _ (bare_at hpq)
        have Ht := Lib.hid ht
        have Hown7 := Lib.hid hown7
        have Hdl := Lib.hid hdl
        clear hfs hown hpd hpq hprs ht hown7 hdl hrw7
        go_wp2_with fail
        refine ⟨⟨i + 1, done ++ [[str q.type, str q.cs, str q.id, str q.loc, .int .i64 q.how, .slice A' q.body.length c', .slice none 0 0]], rs, by go_num, by omega, by simp [Hdl.out], Hown7.out, ?_, h2, hbel7⟩, by simp [intOf]; omega⟩
        rw [Ht.out]
        exact PartsAt.app _ _ _ _ h1 ⟨_, _, rfl, h3, rfl⟩
      · obtain rfl : i = n := by omega
        have hr0 : rest = [] := by
          rw [List.drop_of_length_le (by rw [← Hn.out]; exact Nat.le_refl _)] at hpr
          exact hpr
        subst hr0
        rw [List.append_nil] at hown
        rw [List.take_of_length_le (by rw [← Hn.out]; exact Nat.le_refl _)] at hpd
        have hbelw := hbel.trans (hbelr.mono hbel.size)
        have hQ : SlP (· < wr.heap.size) wr S3 i (L.map bareD) := ⟨done, Sl.of_own hown, PartsAt.change (fun _ h => Nat.lt_of_lt_of_le h hbelw.size) (fun _ _ => rfl) _ _ hpd⟩
        have hbc1 := hb1c.trans (hbelr.mono hb1c.size)
        have hbc2 := hb2c.trans (hbelr.mono hb2c.size)
        have hP1 := (Hs1.out.below hbc1).more hbc1.size
        have hef := EqualFunc_parts 17 (enters_of Tryd.func17 (by kernel_rfl) rfl) sameD S1 S3 i c1 i c3 wr.heap.size (L.map bareD) (L.map bareD) wr hP1 hQ (Nat.le_refl _) (Nat.le_trans hc1 hm1)
          (fun W1 j x y vx vy _ _ hxa hya _ => SamePart_any (flatD x).length x y vx vy W1 (Nat.le_refl _) hxa hya)
        rw [all2_refl] at hef
        have Hef := Lib.hid hef
        have hxr := PQ.below hxyn hbelr
        clear hef hQ hP1 hown hpd hpr
        go_wp2_with fail
        refine Hef.out.mono ?_
        rintro e w5 ⟨rfl, hb5⟩
        have hx5 := PQ.below hxr hb5
        have ⟨⟨x0, x1, x2, x3, x4, x5, x6⟩, _⟩ := hx5
        have hbel5 := hbelw.trans (hb5.mono hbelw.size)
        have hbc5 := hbc2.trans (hb5.mono hbc2.size)
        go_wp2_with fail
        refine (HIn.out _ hbel5.size (by rw [← Hn.out]; exact hl12) (Hp.out.below hbel5)).mono ?_
        rintro e w6 ⟨S4, n4, c4, rfl, hn4, hown4, hb6⟩
        have hbel6 := hbel5.trans (hb6.mono hbel5.size)
        have hbc6 := hbc5.trans (hb6.mono hbc5.size)
        rw [← Hn.out] at hn4
        subst hn4
        have heq := Equal_ints S2 S4 _ c2' _ c4 w6.heap.size w6.heap.size (inwD p) (inwD p) w6 (Sl.more (Sl.below Hs2.out hbc6) hbc6.size) (Sl.of_own hown4) (by omega) (by omega)
        rw [show (inwD p == inwD p) = true from by simp] at heq
        have Heq := Lib.hid heq
        clear heq hown4 x0 x1 x2 x3 x4 x5 x6 hx5 hxr
        go_wp2_with fail
        refine Heq.out.mono ?_
        rintro e w7 ⟨rfl, q7, rfl⟩
        go_wp2_with fail
        go_ret
        exact ⟨rfl, belN hbel6 q7⟩
  · simp only [if_neg hR] at HAl HWt
    have eR : ((R : Int) != 0) = true := by simp; omega
    clear hok
    go_enter Tryd.func3, Tryd.ntmps3
    go_wp2_with fail
    rw [← hW]
    clear hW
    refine (HAl.out W ((Hp.out.below hbW).more hbW.size)).mono ?_
    rintro e w1 ⟨S1, c1, rfl, hs1, hc1, hm1, hb1⟩
    have hbel := hbW.trans (hb1.mono hbW.size)
    have hxy := PQ.below hxy hb1
    have ⟨⟨x0, x1, x2, x3, x4, x5, x6⟩, _⟩ := hxy
    clear hb1 hbW
    go_wp2_with fail
    refine (HWt.out w1 ((Hp.out.below hbel).more hbel.size)).mono ?_
    rintro e w2 ⟨S2, c2', rfl, hs2, hc2, hm2, hb2⟩
    have hb1c := hb2
    have hbel := hbel.trans (hb2.mono hbel.size)
    have hxy := PQ.below hxy hb2
    clear x0 x1 x2 x3 x4 x5 x6
    have ⟨⟨x0, x1, x2, x3, x4, x5, x6⟩, _⟩ := hxy
    clear hb2
    go_wp2_with fail
    refine (HCp.out w2 ((Hp.out.below hbel).more hbel.size) (HT.out.below hbel)).mono ?_
    rintro e w3 ⟨rfl, hb3⟩
    have hb2c := hb3
    have hb1c := hb1c.trans (hb3.mono hb1c.size)
    have hbel := hbel.trans (hb3.mono hbel.size)
    have hxy := PQ.below hxy hb3
    clear x0 x1 x2 x3 x4 x5 x6
    have Hs1 := Lib.hid hs1
    have Hs2 := Lib.hid hs2
    clear hb3 hs1 hs2
    go_wp2_with fail
    have hxy := PQ.below hxy ((Below.refl w3.heap.size w3).drew)
    have hbel := hbel.drew
    have hb1c := hb1c.drew
    have hb2c := hb2c.drew
    go_region_held (fun w' => (w'.cell? ⟨w.heap.size, 0, none⟩ = some (str p.type) ∧ w'.cell? ⟨w.heap.size, 1, none⟩ = some (str p.cs) ∧ w'.cell? ⟨w.heap.size, 2, none⟩ = some (str p.id) ∧ w'.cell? ⟨w.heap.size, 3, none⟩ = some (str p.loc) ∧ w'.cell? ⟨w.heap.size, 4, none⟩ = some (.int .i64 p.how) ∧ w'.cell? ⟨w.heap.size, 5, none⟩ = some (.slice A p.body.length c) ∧ w'.cell? ⟨w.heap.size, 6, none⟩ = some (.slice A2 p.parts.length c2)) ∧ (w'.cell? ⟨w.heap.size + 1, 0, none⟩ = some (str q.type) ∧ w'.cell? ⟨w.heap.size + 1, 1, none⟩ = some (str q.cs) ∧ w'.cell? ⟨w.heap.size + 1, 2, none⟩ = some (str q.id) ∧ w'.cell? ⟨w.heap.size + 1, 3, none⟩ = some (str q.loc) ∧ w'.cell? ⟨w.heap.size + 1, 4, none⟩ = some (.int .i64 q.how) ∧ w'.cell? ⟨w.heap.size + 1, 5, none⟩ = some (.slice B1 q.body.length d) ∧ w'.cell? ⟨w.heap.size + 1, 6, none⟩ = some (.slice B2 q.parts.length d2))) (exact ⟨hxy.1, hxy.2⟩) ((first | (go_at_call 14; refine (parted_any _).mono ?_; rintro e wn ⟨rfl, hb⟩; have hxy := PQ.below hxy hb; have hbel := hbel.trans (hb.mono hbel.size); have hb1c := hb1c.trans (hb.mono hb1c.size); have hb2c := hb2c.trans (hb.mono hb2c.size)) | (go_at_call 15; refine (HCk.out _ hbel).mono ?_; rintro e wn ⟨rfl, hb⟩; have hxy := PQ.below hxy hb; have hbel := hbel.trans (hb.mono hbel.size); have hb1c := hb1c.trans (hb.mono hb1c.size); have hb2c := hb2c.trans (hb.mono hb2c.size)) | (go_at_call 16; refine (HSa.out _ hbel).mono ?_; rintro e wn ⟨rfl, hb⟩; have hxy := PQ.below hxy hb; have hbel := hbel.trans (hb.mono hbel.size); have hb1c := hb1c.trans (hb.mono hb1c.size); have hb2c := hb2c.trans (hb.mono hb2c.size)) | (go_at_call 17; refine (HSp.out _ hbel).mono ?_; rintro e wn ⟨rfl, hb⟩; have hxy := PQ.below hxy hb; have hbel := hbel.trans (hb.mono hbel.size); have hb1c := hb1c.trans (hb.mono hb1c.size); have hb2c := hb2c.trans (hb.mono hb2c.size)) | (go_at_call 18; refine (HTy.out _).mono ?_; rintro e wn ⟨rfl, hb⟩; have hxy := PQ.below hxy hb; have hbel := hbel.trans (hb.mono hbel.size); have hb1c := hb1c.trans (hb.mono hb1c.size); have hb2c := hb2c.trans (hb.mono hb2c.size)) | (go_at_call 19; refine (HIt.out _ hbel).mono ?_; rintro e wn ⟨rfl, hb⟩; have hxy := PQ.below hxy hb; have hbel := hbel.trans (hb.mono hbel.size); have hb1c := hb1c.trans (hb.mono hb1c.size); have hb2c := hb2c.trans (hb.mono hb2c.size)) | (go_at_call 20; refine (HMa.out _).mono ?_; rintro e wn ⟨rfl, rfl⟩) | (go_at_call 21; refine (HIm.out _).mono ?_; rintro e wn ⟨rfl, hb⟩; have hxy := PQ.below hxy hb; have hbel := hbel.trans (hb.mono hbel.size); have hb1c := hb1c.trans (hb.mono hb1c.size); have hb2c := hb2c.trans (hb.mono hb2c.size)) | (go_at_call 22; refine (HWo.out _).mono ?_; rintro e wn ⟨rfl, hb⟩; have hxy := PQ.below hxy hb; have hbel := hbel.trans (hb.mono hbel.size); have hb1c := hb1c.trans (hb.mono hb1c.size); have hb2c := hb2c.trans (hb.mono hb2c.size)) | (go_at_call 23; refine (HIw.out _).mono ?_; rintro e wn ⟨rfl, hb⟩; have hxy := PQ.below hxy hb; have hbel := hbel.trans (hb.mono hbel.size); have hb1c := hb1c.trans (hb.mono hb1c.size); have hb2c := hb2c.trans (hb.mono hb2c.size))))
    go_wp2_with fail
    go_ret
    exact ⟨rfl, hbel⟩
end Go.Proofs.YtdhmmepcnladcaaDoor

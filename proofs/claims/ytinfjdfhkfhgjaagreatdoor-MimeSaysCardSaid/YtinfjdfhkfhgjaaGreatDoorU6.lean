import Derived.Test.YtinfjdfhkfhgjaaGreatDoorU5
import Derived.Test.YtinfjdfhkfhgjaaGreatDoorU3
import Derived.Test.YtinfjdfhkfhgjaaGreatDoorU4
import Derived.Deep.RegionLaw
import Derived.Deep.AppendLies
set_option maxRecDepth 100000
set_option maxHeartbeats 40000000
namespace Go.Proofs.YtinfjdfhkfhgjaaGreatDoor
open Go.RowKit
theorem mid_bytes (w : World) (A : Option Addr) (n c : Nat) (ki kj : IntKind) (i j : Int) (h0 : 0 ≤ i) (h1 : i ≤ j) (h2 : j ≤ n) (hc : n ≤ c) :
 (Instr.slice 22 (.slice A n c) (some (.int ki i)) (some (.int kj j)) none).run Tryz.prog w = .ok (.slice (cutA A c i.toNat 1) (j.toNat - i.toNat) (c - i.toNat)) w :=
 run_mid w _ _ 1 Tryz.underlying22 (Tryz.sizeOf5 w) A n c ki kj i j h0 h1 h2 hc
attribute [local go_sem high] cut_bytes mid_bytes
theorem infoBsM : (Tryz.prog.info? 22).map (fun i => (i.zero, i.size, i.bytes)) = some (some (.slice none 0 0), 1, 24) := by kernel_rfl
/-- The row of texts under way, each in memory of its own. -/
def SpRow (L : Nat) (w : World) (v : Value) (vs : List Value) (out : List (List UInt8)) : Prop :=
 vs.length = out.length ∧ ∀ (j : Nat) (x : List UInt8), out[j]? = some x → ∃ A d, vs[j]? = some (Value.slice A x.length d) ∧ SlS (fun b => L ≤ b ∧ b < w.heap.size ∧ Value.ownBlock v ≠ some b) w 1 A x.length (Lib.byteCells x) ∧ x.length ≤ d ∧ d ≤ maxLen
theorem SpRow.nil_ (L : Nat) (w : World) (v : Value) : SpRow L w v [] [] := ⟨rfl, fun j x h => by simp at h⟩
theorem SpRow.below {L : Nat} {w w' : World} {v : Value} {vs : List Value} {out : List (List UInt8)} (h : SpRow L w v vs out) (hb : Below w.heap.size w w') : SpRow L w' v vs out := by
 refine ⟨h.1, fun j x hx => ?_⟩
 obtain ⟨A, d, h1, h2, h3, h4⟩ := h.2 j x hx
 exact ⟨A, d, h1, SlS.change h2 (fun b hb' => ⟨hb'.1, Nat.lt_of_lt_of_le hb'.2.1 hb.size, hb'.2.2⟩) (fun q hq => hb.cell hq.2.1), h3, h4⟩
theorem SpRow.mono {L L' : Nat} {w : World} {v : Value} {vs : List Value} {out : List (List UInt8)} (h : SpRow L w v vs out) (hL : L' ≤ L) : SpRow L' w v vs out := by
 refine ⟨h.1, fun j x hx => ?_⟩
 obtain ⟨A, d, h1, h2, h3, h4⟩ := h.2 j x hx
 exact ⟨A, d, h1, SlS.change h2 (fun b hb' => ⟨Nat.le_trans hL hb'.1, hb'.2⟩) (fun q hq => rfl), h3, h4⟩
theorem SpRow.one {L : Nat} {w : World} {v : Value} {vs : List Value} {out : List (List UInt8)} (h : SpRow L w v vs out) : ∀ u ∈ vs, u.oneCell' = true := by
 intro u hu
 obtain ⟨j, hj⟩ := List.getElem?_of_mem hu
 have hjl : j < out.length := by
  rw [← h.1]
  rcases Nat.lt_or_ge j vs.length with h' | h'
  · exact h'
  · rw [List.getElem?_eq_none h'] at hj; cases hj
 obtain ⟨A, d, h1, _⟩ := h.2 j _ (List.getElem?_eq_getElem hjl)
 rw [hj] at h1
 injection h1 with h1
 rw [h1]
 rfl
theorem SpRow.app {L : Nat} {w w' : World} {v v' : Value} {vs : List Value} {out : List (List UInt8)} (h : SpRow L w v vs out) (A : Option Addr) (d : Nat) (x : List UInt8)
 (hx : SlS (fun b => L ≤ b ∧ b < w.heap.size ∧ Value.ownBlock v ≠ some b) w 1 A x.length (Lib.byteCells x)) (h1 : x.length ≤ d) (h2 : d ≤ maxLen)
 (hgr : w.grownBy w' (Value.ownBlock v)) (hat : Value.ownBlock v' = Value.ownBlock v ∨ Value.ownBlock v' = some w.heap.size) : SpRow L w' v' (vs ++ [.slice A x.length d]) (out ++ [x]) := by
 have hch : ∀ (A : Option Addr) (y : List UInt8), SlS (fun b => L ≤ b ∧ b < w.heap.size ∧ Value.ownBlock v ≠ some b) w 1 A y.length (Lib.byteCells y) → SlS (fun b => L ≤ b ∧ b < w'.heap.size ∧ Value.ownBlock v' ≠ some b) w' 1 A y.length (Lib.byteCells y) := by
  intro A y hy
  refine SlS.change hy (fun b hb => ⟨hb.1, by have := hgr.size; omega, ?_⟩) (fun q hq => World.cell?_of_block (hgr.block _ hq.2.1 (fun e => hq.2.2 e.symm)))
  rcases hat with e | e
  · rw [e]; exact hb.2.2
  · rw [e]
    intro e2
    injection e2 with e2
    omega
 refine ⟨by rw [List.length_append, List.length_append, h.1]; rfl, fun j y hy => ?_⟩
 rcases Nat.lt_or_ge j out.length with hj | hj
 · rw [List.getElem?_append_left hj] at hy
   obtain ⟨A', d', g1, g2, g3, g4⟩ := h.2 j y hy
   exact ⟨A', d', by rw [List.getElem?_append_left (by rw [h.1]; exact hj)]; exact g1, hch _ _ g2, g3, g4⟩
 · rw [List.getElem?_append_right hj] at hy
   have hj0 : j - out.length = 0 := by
    rcases Nat.eq_zero_or_pos (j - out.length) with h' | h'
    · exact h'
    · rw [List.getElem?_eq_none (by simp; omega)] at hy; cases hy
   rw [hj0] at hy
   have hy := Option.some.inj hy
   subst hy
   exact ⟨A, d, by rw [List.getElem?_append_right (by rw [h.1]; exact hj), h.1, hj0]; rfl, hch _ _ hx, h1, h2⟩
/-- What Split leaves. -/
def SplitRes (r : List (List UInt8) × Nat) (w : World) (e : Ending) (w' : World) : Prop :=
 ∃ S c vs v, e = .returned (.tuple #[.slice S r.1.length c, .int .i64 (r.2 : Nat)]) ∧ SlS (fun b => w.heap.size ≤ b ∧ b < w'.heap.size) w' 1 S r.1.length vs ∧ SpRow w.heap.size w' v vs r.1 ∧ Below w.heap.size w w'
theorem SplitRes.fail {w w' : World} (k : Nat) (h : Below w.heap.size w w') : SplitRes ([], k) w (.returned (.tuple #[.slice none 0 0, .int .i64 (k : Int)])) w' :=
 ⟨none, 0, [], .slice none 0 0, rfl, ⟨rfl, fun h => absurd h (by simp)⟩, SpRow.nil_ _ _ _, h⟩
/-- Where the part began that is read. -/
def curAt (b : List UInt8) (fr : Int) (at_ : Nat) (cur : Option (List UInt8)) : Prop := (fr = -1 ∧ cur = none) ∨ ∃ f : Nat, fr = f ∧ f ≤ at_ ∧ cur = some ((b.take at_).drop f)
def SpRel (w : World) (n : Nat) (b border : List UInt8) (R : List (List UInt8) × Nat) (v4 v5 v6 v7 v8 : Value) (wr : World) : Prop :=
 ∃ (at_ k i c : Nat) (fr : Int) (S : Option Addr) (vs : List Value) (out : List (List UInt8)) (cur : Option (List UInt8)), v4 = .slice none 0 0 ∧ v5 = .int .i64 0 ∧ v6 = .slice S i c ∧ v7 = .int .i64 fr ∧ v8 = .int .i64 (at_ : Nat) ∧ at_ ≤ n ∧ i ≤ at_ ∧ -1 ≤ fr ∧ fr ≤ at_ ∧
  Hid (curAt b fr at_ cur) ∧ Hid (splitF border k (b.drop at_) cur out = R ∧ n - at_ < k) ∧ out.length = i ∧ wr.ownsRow w.heap.size 22 1 (.slice S i c) i vs ∧ SpRow w.heap.size wr (.slice S i c) vs out ∧ Below w.heap.size w wr
theorem cut_grow (b : List UInt8) {f a e : Nat} (h1 : f ≤ a) (h2 : a ≤ e) : (b.take a).drop f ++ (b.take e).drop a = (b.take e).drop f := by
 have e1 : b.take a = (b.take e).take a := by rw [List.take_take, Nat.min_eq_left h2]
 have e2 : (b.take e).drop a = ((b.take e).drop f).drop (a - f) := by rw [List.drop_drop]; congr 1; omega
 have e3 : ((b.take e).take a).drop f = ((b.take e).drop f).take (a - f) := by rw [List.drop_take]
 rw [e1, e3, e2, List.take_append_drop]
theorem Split_any (b border : List UInt8) (A : Option Addr) (n c : Nat) (w : World) (hb : By w w.heap.size A n b) (hn : n ≤ c) (_hc : c ≤ maxLen) (hbd : border.length ≤ maxLen) :
 Calls Tryz.prog 5 #[.slice A n c, str border] w (SplitRes (splitM b border) w) := by
 obtain ⟨i0, hi0, hz0, hz1, hz2⟩ := info_parts infoBsM
 have hl := hb.len
 unfold maxLen at hbd
 by_cases h4 : 40000 < n
 · have hR : splitM b border = ([], 2) := by unfold splitM; rw [if_pos (by omega)]
   rw [hR]
   have d1 : decide ((40000 : Int) < n) = true := by simp; omega
   clear hR hb hl
   go_enter Tryz.func5, Tryz.ntmps5
   go_wp2_with fail
   go_ret2
   exact SplitRes.fail 2 (Below.refl _ _)
 · have d1 : decide ((40000 : Int) < n) = false := by simp; omega
   by_cases hb0 : border = []
   · have hR : splitM b border = ([], 3) := by unfold splitM; rw [if_neg (by omega), if_pos (.inl hb0)]
     rw [hR]
     have d2 : border.isEmpty = true := by rw [hb0]; rfl
     have d3 : (border == []) = true := by rw [hb0]; rfl
     have Hb0 := Lib.hid hb0
     clear hR hb hl hb0
     go_enter Tryz.func5, Tryz.ntmps5
     go_wp2_with fail
     go_ret2
     exact SplitRes.fail 3 (Below.refl _ _)
   · have d2 : border.isEmpty = false := by cases border with | nil => exact absurd rfl hb0 | cons _ _ => rfl
     have d3 : (border == []) = false := by simpa using hb0
     by_cases hb6 : 60 < border.length
     · have hR : splitM b border = ([], 3) := by unfold splitM; rw [if_neg (by omega), if_pos (.inr hb6)]
       rw [hR]
       have d4 : decide ((60 : Int) < border.length) = true := by simp; omega
       clear hR hb hl hb0
       go_enter Tryz.func5, Tryz.ntmps5
       go_wp2_with fail
       go_ret2
       exact SplitRes.fail 3 (Below.refl _ _)
     · have hR : splitM b border = splitF border (b.length + 1) b none [] := by unfold splitM; rw [if_neg (by omega), if_neg (by intro h; rcases h with h | h; exact hb0 h; exact hb6 h)]
       rw [hR]
       have d4 : decide ((60 : Int) < border.length) = false := by simp; omega
       obtain ⟨R, hRR⟩ : ∃ R, R = splitF border (b.length + 1) b none [] := ⟨_, rfl⟩
       rw [← hRR]
       have HR := Lib.hid hRR
       have HB := Lib.hid hb
       have Hl := Lib.hid hl
       have Hb0 := Lib.hid hb0
       have hn4 : n ≤ 40000 := by omega
       have hb60 : border.length ≤ 60 := by omega
       clear hR hRR hb hl hb0 h4 hb6
       go_enter Tryz.func5, Tryz.ntmps5
       go_wp2_with fail
       go_loopw [4, 5, 6, 7, 8] (SpRel w n b border R) (fun _ _ _ _ v8 _ => n - (intOf v8).toNat)
       case atStart => exact ⟨0, b.length + 1, 0, 0, -1, none, [], [], none, rfl, rfl, rfl, rfl, rfl, Nat.zero_le _, Nat.le_refl _, by omega, by omega, .inl ⟨rfl, rfl⟩, ⟨HR.out.symm, by rw [Hl.out]; omega⟩, rfl, World.ownsRow_nil _ _ _ _, SpRow.nil_ _ _ _, Below.refl _ _⟩
       case round =>
        obtain ⟨at_, k, i, cs, fr, S, vs, out, cur, rfl, rfl, rfl, rfl, rfl, hat, hia, hf0, hf1, hcur, hE, hol, hown, hrow, hbel⟩ := hrel
        by_cases hlt : at_ < n
        · obtain ⟨r, hr⟩ : ∃ r, r = b.drop at_ := ⟨_, rfl⟩
          have hrl : r.length = n - at_ := by rw [hr, List.length_drop, Hl.out]
          have hr0 : r ≠ [] := fun e => by rw [e] at hrl; simp at hrl; omega
          obtain ⟨k, rfl⟩ : ∃ k', k = k' + 1 := ⟨k - 1, by have := hE.out.2; omega⟩
          have hE1 := hE.out.1
          have hE2 := hE.out.2
          rw [← hr, splitF, if_neg hr0] at hE1
          have hbd10 := idxI_bd r 10
          have hxi : Lib.indexByte r 10 = idxI r 10 := rfl
          obtain ⟨x, hx⟩ : ∃ x, x = idxI r 10 := ⟨_, rfl⟩
          obtain ⟨en, hen⟩ : ∃ en, en = if x < 0 then n else at_ + x.toNat + 1 := ⟨_, rfl⟩
          rw [← hx] at hbd10
          have hen1 : at_ < en ∧ en ≤ n := by
           rw [hen]
           split <;> omega
          have hln : lineM r = ((b.take en).drop at_, b.drop en) := by
           unfold lineM
           rw [hxi, ← hx]
           by_cases h0 : x < 0
           · rw [if_pos h0] at hen ⊢
             rw [hen, List.take_of_length_le (by rw [Hl.out]; exact Nat.le_refl _), show b.drop n = [] from List.drop_of_length_le (by rw [Hl.out]; exact Nat.le_refl _), hr]
           · rw [if_neg h0] at hen ⊢
             rw [hr, hen, List.drop_drop, List.take_drop]
             congr 2 <;> omega
          rw [hln] at hE1
          simp only at hE1
          have hby := (HB.out.below hbel)
          have hbyr := (hby.more hbel.size).cut (k := at_) (c := c) hat hn
          rw [← hr] at hbyr
          have hib := ByteAt r 10 (cutA A c at_ 1) (n - at_) (c - at_) wr.heap.size wr hbyr (by omega)
          rw [← hx] at hib
          have hbyl := ((hby.more hbel.size).upto hen1.2).cut (k := at_) (c := c) (Nat.le_of_lt hen1.1) (by omega)
          have hts := run_toStr (P := Tryz.prog) wr 22 9 5 _ (cutA A c at_ 1) (en - at_) (c - at_) _ hbyl Tryz.underlying22 Tryz.underlying5 Tryz.underlying9
          obtain ⟨l1, hl1⟩ : ∃ l, l = (b.take en).drop at_ := ⟨_, rfl⟩
          have hl1l : l1.length = en - at_ := by rw [hl1, List.length_drop, List.length_take, Hl.out]; omega
          rw [← hl1] at hts hE1
          have htr := fun W => TrimRight_any l1 [32, 9, 13, 10] W (by unfold maxLen; omega) (by decide) (by decide)
          have hblen : (bareM l1).length ≤ l1.length := by
           obtain ⟨z, hz⟩ := bare_pre l1
           have := congrArg List.length hz
           rw [List.length_append] at this
           omega
          obtain ⟨bl, hbl⟩ : ∃ bl, bl = bareM l1 := ⟨_, rfl⟩
          have htr2 : ∀ W, Calls Tryz.prog 19 #[str l1, .string ⟨([32, 9, 13, 10] : List UInt8).toArray⟩] W fun e w' => e = .returned (str bl) ∧ Below W.heap.size W w' := fun W => by rw [hbl]; exact htr W
          rw [← hbl] at hE1 hblen
          have Hib := Lib.hid hib
          have Htr := Lib.hid htr2
          have HE1 := Lib.hid hE1
          have Hen := Lib.hid hen
          have Hhr := Lib.hid hr
          have Hx := Lib.hid hx
          have Hl1 := Lib.hid hl1
          have Hbl := Lib.hid hbl
          have hend1 := hen1.1
          have hend2 := hen1.2
          have Hcur := Lib.hid hcur.out
          have Hown := Lib.hid hown
          have Hrow := Lib.hid hrow
          have a0 : (0 : Int) ≤ (at_ : Int) := by omega
          have a1 : (at_ : Int) ≤ n := by omega
          have e0 : (at_ : Int) ≤ en := by omega
          have e1 : (en : Int) ≤ n := by omega
          clear hib htr htr2 hE1 hen hr hx hl1 hbl hxi hln hr0 hby hbyr hbyl hen1 hown hrow hE hcur
          obtain ⟨tk, htk⟩ : ∃ t, t = decide ((0 : Int) ≤ x) := ⟨_, rfl⟩
          have dk : decide ((0 : Int) ≤ x) = tk := htk.symm
          have Htk := Lib.hid htk
          have Hk := Lib.hid (show n - at_ < k + 1 from hE2)
          clear htk hE2
          go_wp2_with fail
          refine Hib.out.mono ?_
          rintro e w1 ⟨rfl, rfl⟩
          go_upto_if 33 with (fail)
          go_cut [9] from 32 to 37 (fun s9 wx => s9 = .int .i64 (en : Nat) ∧ wr = wx)
          case first =>
           by_cases hx0 : x < 0
           · obtain rfl : tk = false := by rw [Htk.out]; simp; omega
             have hee : en = n := by rw [Hen.out, if_pos hx0]
             have Hee := Lib.hid hee
             clear hee hx0
             go_wp2_with fail
             go_meet
             exact ⟨by rw [Hee.out], rfl⟩
           · obtain rfl : tk = true := by rw [Htk.out]; simp; omega
             have hee : en = at_ + x.toNat + 1 := by rw [Hen.out, if_neg hx0]
             have hx1 : 0 ≤ x := by omega
             have hx2 : x ≤ 40000 := by omega
             have hei : (at_ : Int) + x + 1 = (en : Int) := by omega
             have Hei := Lib.hid hei
             clear hee hei hx0
             go_wp2_with fail
             go_meet
             exact ⟨by rw [Hei.out], rfl⟩
          case rest =>
           obtain ⟨rfl, hwc⟩ := hcut
           subst hwc
           go_wp2_with fail
           refine (Htr.out _).mono ?_
           rintro e wt ⟨rfl, hbt⟩
           have hownT := own_below Hown.out hbt
           have hrowT := Hrow.out.below hbt
           have hbelT := hbel.trans (hbt.mono hbel.size)
           by_cases ht1 : bl = dash border
           · have dt1 : (bl == 45 :: 45 :: border) = true := by rw [ht1]; exact beq_self_eq_true _
             have hL2 : 2 + border.length ≤ 62 := by omega
             obtain ⟨out2, hout2⟩ : ∃ o, o = openM cur out := ⟨_, rfl⟩
             have Hout2 := Lib.hid hout2
             have ho2l : out2.length ≤ i + 1 := by
              rw [hout2]
              unfold openM
              split
              · omega
              · rw [List.length_append]; simp; omega
             have hE3 : Hid (splitF border k (b.drop en) (some []) out2 = R) := by
              have this := HE1.out
              rw [if_pos (show bl = [45, 45] ++ border from ht1)] at this
              rw [← hout2] at this
              exact this
             obtain ⟨tb, htb⟩ : ∃ t, t = decide ((0 : Int) ≤ fr) := ⟨_, rfl⟩
             have d0 : decide ((0 : Int) ≤ fr) = tb := htb.symm
             have Htb := Lib.hid htb
             have Ht1 := Lib.hid ht1
             clear hout2 htb HE1 Hbl ht1
             go_upto_if 56 with (fail)
             go_cut [6] from 55 to 65 (fun s6 wx => ∃ S' c' vs', s6 = .slice S' out2.length c' ∧ wx.ownsRow w.heap.size 22 1 (.slice S' out2.length c') out2.length vs' ∧ SpRow w.heap.size wx (.slice S' out2.length c') vs' out2 ∧ Below w.heap.size w wx)
             case first =>
              rcases Hcur.out with ⟨hf, hcn⟩ | ⟨f, hf, hfa, hcs⟩
              · obtain rfl : tb = false := by rw [Htb.out, hf]; rfl
                have ho : out2 = out := by rw [Hout2.out, hcn]; rfl
                have Ho := Lib.hid (And.intro ho hol)
                have Hfin := Lib.hid (And.intro hownT (And.intro hrowT hbelT))
                clear hf hcn ho hownT hrowT
                go_wp2_with fail
                go_meet
                obtain ⟨rfl, rfl⟩ := Ho.out
                exact ⟨S, cs, vs, rfl, Hfin.out⟩
              · obtain rfl : tb = true := by rw [Htb.out, hf]; simp
                have ho : out2 = out ++ [innerM ((b.take at_).drop f)] := by rw [Hout2.out, hcs]; rfl
                have f0 : (0 : Int) ≤ fr := by omega
                have f2 : fr.toNat = f := by omega
                have hbyT := (HB.out.below hbelT).more hbelT.size
                have hbyi := (hbyT.upto hat).cut (k := f) (c := c) hfa (by omega)
                have hin := inner_any _ (cutA A c f 1) (at_ - f) (c - f) wt.heap.size wt hbyi (Nat.le_refl _) (by omega) (by omega)
                have hilen : (innerM ((b.take at_).drop f)).length ≤ at_ - f := by
                 have h1 : ∀ (l : List UInt8) (c : UInt8), (chopB l c).length ≤ l.length := by
                  intro l c
                  unfold chopB
                  split
                  · simp
                  · exact Nat.le_refl _
                 have h2 := h1 (chopB ((b.take at_).drop f) 10) 13
                 have h3 := h1 ((b.take at_).drop f) 10
                 have h4 : ((b.take at_).drop f).length ≤ at_ - f := by rw [List.length_drop, List.length_take]; omega
                 unfold innerM
                 omega
                obtain ⟨iq, hiq⟩ : ∃ q, q = innerM ((b.take at_).drop f) := ⟨_, rfl⟩
                unfold InnerRes at hin
                rw [← hiq] at hin ho hilen
                have Hin := Lib.hid hin
                have Hf2 := Lib.hid f2
                have Ho := Lib.hid ho
                have HbT := Lib.hid hbelT
                have HownT := Lib.hid hownT
                have HrowT := Lib.hid hrowT
                have hfi : fr ≤ at_ := by omega
                clear hf hcs ho hin hbyi hbyT hiq f2 hownT hrowT
                go_wp2_with fail
                rw [Hf2.out]
                refine Hin.out.mono ?_
                rintro e w3 ⟨m3, rfl, hm3, hby3, hb3⟩
                have hm3' : m3 = iq.length := hby3.len.symm
                have hcl := Clone_bytes iq (cutA A c f 1) m3 (c - f) wt.heap.size w3 hby3 (by omega)
                have Hcl := Lib.hid hcl
                have hown3 := own_below HownT.out hb3
                have hrow3 := HrowT.out.below hb3
                have hbel3 := HbT.out.trans (hb3.mono HbT.out.size)
                clear hcl hby3 hm3' hb3
                go_wp2_with fail
                refine Hcl.out.mono ?_
                rintro e w4 ⟨A5, c5, rfl, hs5, hc5, hm5, hb5⟩
                have hown4 := own_below hown3 hb5
                have hrow4 := hrow3.below hb5
                have hbel4 := hbel3.trans (hb5.mono hbel3.size)
                have hs6 : SlS (fun b => w.heap.size ≤ b ∧ b < (w4.alloc (.cells #[.slice A5 iq.length c5] 22)).heap.size ∧ Value.ownBlock (.slice S i cs) ≠ some b) (w4.alloc (.cells #[.slice A5 iq.length c5] 22)) 1 A5 iq.length (Lib.byteCells iq) := by
                 refine SlS.change hs5 (fun b hb => ⟨Nat.le_trans hbel3.size hb.1, by have := hb.2; simp; omega, fun e => ?_⟩) (fun q hq => World.cell?_alloc_lt w4 _ q hq.2)
                 have := (hown3.lt b e).2
                 have := hb.1
                 omega
                have hrow5 := hrow4.below ((Below.refl w4.heap.size w4).alloc (Nat.le_refl _) (.cells #[.slice A5 iq.length c5] 22))
                have Hrow5 := Lib.hid hrow5
                have Hs6 := Lib.hid hs6
                have Hb4 := Lib.hid hbel4
                have hsz4 := hbel4.size
                clear hs5 hs6 hrow3 hrow4 hrow5 hown3 hb5 hbel3 hbel4 Hcl
                go_wp2_with (at_builtin; refine wpListM_app2 rfl _ _ 29 rfl w.heap.size 22 i0 (.slice none 0 0) 1 24 Tryz.underlying29 hi0 hz0 hz1 hz2 rfl (by decide) S i cs vs rfl (hown4.alloc _) _ _ 1 1 [.slice A5 iq.length c5] rfl (Sl.one _ _ _) (fun u hu => by rw [List.mem_singleton.1 hu]; rfl) (by unfold maxLen; omega) (by omega) (by simp; omega) ?_)
                intro S' c' w6 hown6 hb6 hgr6 hat6
                have hrow6 := SpRow.app (v' := .slice S' (i + 1) c') Hrow5.out A5 c5 iq Hs6.out hc5 hm5 hgr6 (by simpa using hat6)
                have ho2 : out2.length = i + 1 := by rw [Ho.out, List.length_append, hol]; rfl
                have hb7 := (Hb4.out.alloc hsz4 (.cells #[.slice A5 iq.length c5] 22)).trans hb6
                have Hfin : Hid (∃ (S'' : Option Addr) (c'' : Nat) (vs' : List Value), Value.slice S' (i + 1) c' = .slice S'' out2.length c'' ∧ w6.ownsRow w.heap.size 22 1 (.slice S'' out2.length c'') out2.length vs' ∧ SpRow w.heap.size w6 (.slice S'' out2.length c'') vs' out2 ∧ Below w.heap.size w w6) :=
                 Lib.hid ⟨S', c', _, by rw [ho2], by rw [ho2]; exact hown6, by rw [ho2, Ho.out]; exact hrow6, hb7⟩
                clear hown6 hb6 hgr6 hat6 hrow6 ho2 hb7 hown4
                go_wp2_with fail
                go_meet
                exact Hfin.out
             case rest =>
              obtain ⟨S2, k2, vs2, rfl, hown2, hrow2, hbel2⟩ := hcut
              have Hown2 := Lib.hid hown2
              have Hrow2 := Lib.hid hrow2
              clear hown2 hrow2
              go_wp2_with fail
              exact ⟨⟨en, k, out2.length, k2, en, S2, vs2, out2, some [], rfl, rfl, rfl, rfl, rfl, by omega, by omega, by omega, by omega, .inr ⟨en, rfl, Nat.le_refl _, by rw [List.drop_of_length_le (by rw [List.length_take]; omega)]⟩, ⟨hE3.out, by have := Hk.out; omega⟩, rfl, Hown2.out, Hrow2.out, hbel2⟩, by simp [intOf]; omega⟩
           · have dt1 : (bl == 45 :: 45 :: border) = false := beq_eq_false_iff_ne.2 ht1
             have hL2 : 2 + border.length ≤ 62 := by omega
             by_cases ht2 : bl = dash border ++ [45, 45]
             · have dt2 : (bl == 45 :: 45 :: (border ++ [45, 45])) = true := by rw [ht2]; exact beq_self_eq_true _
               obtain ⟨out2, hout2⟩ : ∃ o, o = openM cur out := ⟨_, rfl⟩
               have Hout2 := Lib.hid hout2
               have ho2l : out2.length ≤ i + 1 := by
                rw [hout2]
                unfold openM
                split
                · omega
                · rw [List.length_append]; simp; omega
               have hE3 : Hid (R = (out2, 0)) := by
                have this := HE1.out
                rw [if_neg (show ¬ bl = [45, 45] ++ border from ht1), if_pos (show bl = [45, 45] ++ border ++ [45, 45] from ht2)] at this
                replace this := this.symm
                rw [← hout2] at this
                exact this
               obtain ⟨tb, htb⟩ : ∃ t, t = decide ((0 : Int) ≤ fr) := ⟨_, rfl⟩
               have d0 : decide ((0 : Int) ≤ fr) = tb := htb.symm
               have Htb := Lib.hid htb
               have Ht1 := Lib.hid ht1
               have Ht2 := Lib.hid ht2
               clear ht2
               clear hout2 htb HE1 Hbl ht1
               go_upto_if 56 with (fail)
               go_cut [6] from 55 to 65 (fun s6 wx => ∃ S' c' vs', s6 = .slice S' out2.length c' ∧ wx.ownsRow w.heap.size 22 1 (.slice S' out2.length c') out2.length vs' ∧ SpRow w.heap.size wx (.slice S' out2.length c') vs' out2 ∧ Below w.heap.size w wx)
               case first =>
                rcases Hcur.out with ⟨hf, hcn⟩ | ⟨f, hf, hfa, hcs⟩
                · obtain rfl : tb = false := by rw [Htb.out, hf]; rfl
                  have ho : out2 = out := by rw [Hout2.out, hcn]; rfl
                  have Ho := Lib.hid (And.intro ho hol)
                  have Hfin := Lib.hid (And.intro hownT (And.intro hrowT hbelT))
                  clear hf hcn ho hownT hrowT
                  go_wp2_with fail
                  go_meet
                  obtain ⟨rfl, rfl⟩ := Ho.out
                  exact ⟨S, cs, vs, rfl, Hfin.out⟩
                · obtain rfl : tb = true := by rw [Htb.out, hf]; simp
                  have ho : out2 = out ++ [innerM ((b.take at_).drop f)] := by rw [Hout2.out, hcs]; rfl
                  have f0 : (0 : Int) ≤ fr := by omega
                  have f2 : fr.toNat = f := by omega
                  have hbyT := (HB.out.below hbelT).more hbelT.size
                  have hbyi := (hbyT.upto hat).cut (k := f) (c := c) hfa (by omega)
                  have hin := inner_any _ (cutA A c f 1) (at_ - f) (c - f) wt.heap.size wt hbyi (Nat.le_refl _) (by omega) (by omega)
                  have hilen : (innerM ((b.take at_).drop f)).length ≤ at_ - f := by
                   have h1 : ∀ (l : List UInt8) (c : UInt8), (chopB l c).length ≤ l.length := by
                    intro l c
                    unfold chopB
                    split
                    · simp
                    · exact Nat.le_refl _
                   have h2 := h1 (chopB ((b.take at_).drop f) 10) 13
                   have h3 := h1 ((b.take at_).drop f) 10
                   have h4 : ((b.take at_).drop f).length ≤ at_ - f := by rw [List.length_drop, List.length_take]; omega
                   unfold innerM
                   omega
                  obtain ⟨iq, hiq⟩ : ∃ q, q = innerM ((b.take at_).drop f) := ⟨_, rfl⟩
                  unfold InnerRes at hin
                  rw [← hiq] at hin ho hilen
                  have Hin := Lib.hid hin
                  have Hf2 := Lib.hid f2
                  have Ho := Lib.hid ho
                  have HbT := Lib.hid hbelT
                  have HownT := Lib.hid hownT
                  have HrowT := Lib.hid hrowT
                  have hfi : fr ≤ at_ := by omega
                  clear hf hcs ho hin hbyi hbyT hiq f2 hownT hrowT
                  go_wp2_with fail
                  rw [Hf2.out]
                  refine Hin.out.mono ?_
                  rintro e w3 ⟨m3, rfl, hm3, hby3, hb3⟩
                  have hm3' : m3 = iq.length := hby3.len.symm
                  have hcl := Clone_bytes iq (cutA A c f 1) m3 (c - f) wt.heap.size w3 hby3 (by omega)
                  have Hcl := Lib.hid hcl
                  have hown3 := own_below HownT.out hb3
                  have hrow3 := HrowT.out.below hb3
                  have hbel3 := HbT.out.trans (hb3.mono HbT.out.size)
                  clear hcl hby3 hm3' hb3
                  go_wp2_with fail
                  refine Hcl.out.mono ?_
                  rintro e w4 ⟨A5, c5, rfl, hs5, hc5, hm5, hb5⟩
                  have hown4 := own_below hown3 hb5
                  have hrow4 := hrow3.below hb5
                  have hbel4 := hbel3.trans (hb5.mono hbel3.size)
                  have hs6 : SlS (fun b => w.heap.size ≤ b ∧ b < (w4.alloc (.cells #[.slice A5 iq.length c5] 22)).heap.size ∧ Value.ownBlock (.slice S i cs) ≠ some b) (w4.alloc (.cells #[.slice A5 iq.length c5] 22)) 1 A5 iq.length (Lib.byteCells iq) := by
                   refine SlS.change hs5 (fun b hb => ⟨Nat.le_trans hbel3.size hb.1, by have := hb.2; simp; omega, fun e => ?_⟩) (fun q hq => World.cell?_alloc_lt w4 _ q hq.2)
                   have := (hown3.lt b e).2
                   have := hb.1
                   omega
                  have hrow5 := hrow4.below ((Below.refl w4.heap.size w4).alloc (Nat.le_refl _) (.cells #[.slice A5 iq.length c5] 22))
                  have Hrow5 := Lib.hid hrow5
                  have Hs6 := Lib.hid hs6
                  have Hb4 := Lib.hid hbel4
                  have hsz4 := hbel4.size
                  clear hs5 hs6 hrow3 hrow4 hrow5 hown3 hb5 hbel3 hbel4 Hcl
                  go_wp2_with (at_builtin; refine wpListM_app2 rfl _ _ 29 rfl w.heap.size 22 i0 (.slice none 0 0) 1 24 Tryz.underlying29 hi0 hz0 hz1 hz2 rfl (by decide) S i cs vs rfl (hown4.alloc _) _ _ 1 1 [.slice A5 iq.length c5] rfl (Sl.one _ _ _) (fun u hu => by rw [List.mem_singleton.1 hu]; rfl) (by unfold maxLen; omega) (by omega) (by simp; omega) ?_)
                  intro S' c' w6 hown6 hb6 hgr6 hat6
                  have hrow6 := SpRow.app (v' := .slice S' (i + 1) c') Hrow5.out A5 c5 iq Hs6.out hc5 hm5 hgr6 (by simpa using hat6)
                  have ho2 : out2.length = i + 1 := by rw [Ho.out, List.length_append, hol]; rfl
                  have hb7 := (Hb4.out.alloc hsz4 (.cells #[.slice A5 iq.length c5] 22)).trans hb6
                  have Hfin : Hid (∃ (S'' : Option Addr) (c'' : Nat) (vs' : List Value), Value.slice S' (i + 1) c' = .slice S'' out2.length c'' ∧ w6.ownsRow w.heap.size 22 1 (.slice S'' out2.length c'') out2.length vs' ∧ SpRow w.heap.size w6 (.slice S'' out2.length c'') vs' out2 ∧ Below w.heap.size w w6) :=
                   Lib.hid ⟨S', c', _, by rw [ho2], by rw [ho2]; exact hown6, by rw [ho2, Ho.out]; exact hrow6, hb7⟩
                  clear hown6 hb6 hgr6 hat6 hrow6 ho2 hb7 hown4
                  go_wp2_with fail
                  go_meet
                  exact Hfin.out
               case rest =>
                obtain ⟨S2, k2, vs2, rfl, hown2, hrow2, hbel2⟩ := hcut
                have Hown2 := Lib.hid hown2
                have Hrow2 := Lib.hid hrow2
                clear hown2 hrow2
                go_wp2_with fail
                go_ret2
                rw [hE3.out]
                exact ⟨S2, k2, vs2, _, rfl, own_slsM Hown2.out, Hrow2.out, hbel2⟩
             · have dt2 : (bl == 45 :: 45 :: (border ++ [45, 45])) = false := beq_eq_false_iff_ne.2 ht2
               have hE3 : Hid (splitF border k (b.drop en) (cur.map (· ++ l1)) out = R) := by
                have this := HE1.out
                rw [if_neg (show ¬ bl = [45, 45] ++ border from ht1), if_neg (show ¬ bl = [45, 45] ++ border ++ [45, 45] from ht2)] at this
                exact this
               have hcur2 : Hid (curAt b fr en (cur.map (· ++ l1))) := by
                rcases Hcur.out with ⟨hf, hcn⟩ | ⟨f, hf, hfa, hcs⟩
                · exact .inl ⟨hf, by rw [hcn]; rfl⟩
                · exact .inr ⟨f, hf, by omega, by rw [hcs, Hl1.out, Option.map_some, cut_grow b hfa (by omega)]⟩
               have HownT := Lib.hid hownT
               have HrowT := Lib.hid hrowT
               clear ht1 ht2 HE1 hownT hrowT
               go_wp2_with fail
               exact ⟨⟨en, k, i, cs, fr, S, vs, out, cur.map (· ++ l1), rfl, rfl, rfl, rfl, rfl, by omega, by omega, by omega, by omega, hcur2.out, ⟨hE3.out, by have := Hk.out; omega⟩, hol, HownT.out, HrowT.out, hbelT⟩, by simp [intOf]; omega⟩
        · have hR : R = ([], 1) := by
           have h1 := hE.out.1
           have h2 : b.drop at_ = [] := List.drop_of_length_le (by rw [Hl.out]; omega)
           rw [h2] at h1
           rw [← h1]
           cases k with
           | zero => rfl
           | succ k => rw [splitF, if_pos rfl]
          have HR2 := Lib.hid hR
          clear hR hE hown hrow
          go_wp2_with fail
          go_ret2
          rw [HR2.out]
          exact SplitRes.fail 1 hbel
end Go.Proofs.YtinfjdfhkfhgjaaGreatDoor
namespace Go.Proofs.YtinfjdfhkfhgjaaGreatDoor
open Go.RowKit
attribute [local go_sem high] cut_bytes upto_bytes
theorem IndexByte_digits (x : Nat) (hx : x < 256) (w : World) :
 Calls Tryz.prog 89 #[.string ⟨#[48, 49, 50, 51, 52, 53, 54, 55, 56, 57, 65, 66, 67, 68, 69, 70]⟩, .int .u8 (x : Int)] w fun e w' => e = .returned (.int .i64 (idxI digits x)) ∧ w' = w :=
 (IndexByteR_any digits x hx w).mono fun _e _w' h => ⟨h.1, h.2.symm⟩
theorem hex_any (x : Nat) (hx : x < 256) (w : World) :
 Calls Tryz.prog 145 #[.int .u8 (x : Int)] w fun e w' => e = .returned (.int .i64 (hexQ x)) ∧ w' = w := by
 by_cases h : 97 ≤ x ∧ x ≤ 102
 · obtain ⟨h1, h2⟩ := h
   have e : hexQ x = idxI digits (x - 32) := by unfold hexQ; rw [if_pos (by simp; omega)]
   rw [e]
   clear e
   go_enter Tryz.func145, Tryz.ntmps145
   go_wp2_with fail
   rw [show (x : Int) - 32 = ((x - 32 : Nat) : Int) from by omega]
   refine (IndexByte_digits (x - 32) (by omega) _).mono ?_
   rintro e w1 ⟨rfl, rfl⟩
   go_wp2_with fail
   go_ret
   exact ⟨rfl, rfl⟩
 · have e : hexQ x = idxI digits x := by unfold hexQ; rw [if_neg (by simp; omega)]
   rw [e]
   clear e
   by_cases h1 : 97 ≤ x
   · have h2 : 102 < x := by omega
     clear h
     go_enter Tryz.func145, Tryz.ntmps145
     go_wp2_with fail
     refine (IndexByte_digits x hx _).mono ?_
     rintro e w1 ⟨rfl, rfl⟩
     go_wp2_with fail
     go_ret
     exact ⟨rfl, rfl⟩
   · have h2 : x < 97 := by omega
     clear h h1
     go_enter Tryz.func145, Tryz.ntmps145
     go_wp2_with fail
     refine (IndexByte_digits x hx _).mono ?_
     rintro e w1 ⟨rfl, rfl⟩
     go_wp2_with fail
     go_ret
     exact ⟨rfl, rfl⟩
def strLen : Value → Nat | .string s => s.size | _ => 0
theorem strLen_str (l : List UInt8) : strLen (str l) = l.length := by simp [strLen, str, ByteArray.size]
def QRel1 (r : List UInt8 × Nat) (w0 : World) (sv ov : Value) (wr : World) : Prop :=
 ∃ k s out O ol oc, sv = str s ∧ ov = .slice O ol oc ∧ Hid (linesQ k s out = r ∧ s.length ≤ k ∧ out.length = ol) ∧ s.length ≤ 16000 ∧ ol ≤ 4000 ∧ ol ≤ oc ∧
  wr.ownsRow w0.heap.size 5 1 (.slice O ol oc) ol (Lib.byteCells out) ∧ Below w0.heap.size w0 wr
def QRel2 (b : List UInt8) (m : Nat) (R : Option (List UInt8)) (w0 : World) (ov iv : Value) (wr : World) : Prop :=
 ∃ i out O ol oc, ov = .slice O ol oc ∧ iv = .int .i64 (i : Nat) ∧ i ≤ m ∧ Hid ((decQ (b.drop i)).map (out ++ ·) = R ∧ out.length = ol) ∧ ol ≤ 4000 + i ∧ ol ≤ oc ∧
  wr.ownsRow w0.heap.size 5 1 (.slice O ol oc) ol (Lib.byteCells out) ∧ Below w0.heap.size w0 wr
theorem quoteRead_anyF (s : List UInt8) (w : World) (hs : s.length ≤ 9223372036854775807) :
 Calls Tryz.prog 111 #[str s] w (BytesResF w (readQ s)) := by
 obtain ⟨j0, hj0, hjz0, hjz1, hjz2⟩ := info_parts infoByte
 by_cases h16 : 16000 < s.length
 · have hr : readQ s = ([], 2) := by unfold readQ; rw [if_pos h16]
   rw [hr]
   go_enter Tryz.func111, Tryz.ntmps111
   go_wp2_with fail
   go_ret2
   exact BytesResF.fail 2 (Below.refl _ _)
 · obtain ⟨r, hr⟩ : ∃ r, r = readQ s := ⟨_, rfl⟩
   have hr2 : Hid (linesQ s.length s [] = r) := by
    show _ = r
    rw [hr]; unfold readQ; rw [if_neg h16]
   rw [← hr]
   clear hr
   have hlen : s.length ≤ 16000 := by omega
   clear h16 hs
   go_enter Tryz.func111, Tryz.ntmps111
   go_wp2_with fail
   go_loopw [0, 4] (QRel1 r w) (fun sv _ _ => strLen sv)
   case atStart => exact ⟨_, s, [], none, 0, 0, rfl, rfl, ⟨hr2.out, Nat.le_refl _, rfl⟩, hlen, by omega, by omega, World.ownsRow_nil _ _ _ _, Below.refl _ _⟩
   case round =>
    obtain ⟨k, s, out, O, ol, oc, rfl, rfl, hE, hsl, hol, hoc, hown, hbel⟩ := hrel
    clear hr2 hlen
    by_cases hs0 : s = []
    · subst hs0
      have hr : Hid (r = (out, 0)) := by show r = _; rw [← hE.out.1, linesQ_end]
      have HO := Lib.hid hE.out.2.2
      clear hE
      go_wp2_with fail
      go_ret2
      rw [hr.out]
      refine ⟨O, oc, ?_, ?_, ?_, own_capR hown, hbel⟩
      · show _ = Ending.returned (.tuple #[.slice O out.length oc, .int .i64 ((0 : Nat) : Int)])
        rw [HO.out]; rfl
      · show SlS _ _ 1 _ out.length (Lib.byteCells out)
        rw [HO.out]; exact own_slsR hown
      · show out.length ≤ oc
        rw [HO.out]; exact hoc
    · have hs1 : (s == ([] : List UInt8)) = false := by simpa using hs0
      obtain ⟨k, rfl⟩ : ∃ k', k = k' + 1 := ⟨k - 1, by have := hE.out.2.1; have := List.length_pos_iff.2 hs0; omega⟩
      have hst := linesQ_step k s out hs0
      rw [hE.out.1] at hst
      have hcl := cut10_len s hs0
      have hcut := Cut_one s 10 wr (by unfold maxLen; omega)
      have hend : endQ s = if (Lib.cut s [10]).2.2 && !softQ (trimQ (Lib.cut s [10]).1) then [13, 10] else [] := rfl
      unfold behindQ at hst
      generalize endQ s = E at hst hend
      generalize Lib.cut s [10] = x at hst hcl hcut hend
      obtain ⟨line, rest, whole⟩ := x
      simp only at hst hcl hcut hend
      obtain ⟨hl1, hl2⟩ := hcl
      have HK := Lib.hid hE.out.2.1
      have HOl := Lib.hid hE.out.2.2
      have Hcut := Lib.hid hcut
      have htl := trimQ_len line
      have hsf := soft_pos (trimQ line)
      have hlm : line.length ≤ maxLen := by unfold maxLen; omega
      have htr := fun W => TrimRight_any line [32, 9, 13] W hlm (by decide) (by decide)
      rw [show Lib.trimRightS line [32, 9, 13] = trimQ line from rfl] at htr
      have hbq : bareQ (trimQ line) = if softQ (trimQ line) then (trimQ line).take ((trimQ line).length - 1) else trimQ line := rfl
      generalize bareQ (trimQ line) = b at hst hbq
      have hsuf := fun W => HasSuffix_any (trimQ line) [61] W (by unfold maxLen; omega)
      rw [show Lib.hasSuffix (trimQ line) [61] = softQ (trimQ line) from rfl] at hsuf
      generalize softQ (trimQ line) = soft at hsf hbq hend hsuf
      generalize trimQ line = t at htl hsf hbq htr hsuf
      have Htr := Lib.hid htr
      have Hsuf := Lib.hid hsuf
      obtain ⟨R, hR⟩ : ∃ R, (decQ b).map (out ++ ·) = R := ⟨_, rfl⟩
      rw [hR] at hst
      have HR := Lib.hid hR
      have Hst := Lib.hid hst
      have Hend := Lib.hid hend
      have Hbq := Lib.hid hbq
      have Hsf := Lib.hid hsf
      clear hst hR hend hcut hE htr hsuf hbq hsf hs0
      go_wp2_with fail
      refine Hcut.out.mono ?_
      rintro e w1 ⟨rfl, q1, rfl⟩
      have hb1 : Below w.heap.size w (wr.drewN q1) := belN hbel q1
      have hown1 : (wr.drewN q1).ownsRow w.heap.size 5 1 (.slice O ol oc) ol (Lib.byteCells out) := hown
      generalize wr.drewN q1 = w1 at hb1 hown1 ⊢
      clear hown hbel Hcut
      go_wp2_with fail
      refine (Htr.out _).mono ?_
      rintro e w2 ⟨rfl, hb2⟩
      have hown2 := own_below hown1 hb2
      have hbel2 := hb1.trans (hb2.mono hb1.size)
      clear hown1 hb1 Htr
      go_wp2_with fail
      refine (Hsuf.out _).mono ?_
      rintro e w3 ⟨rfl, rfl⟩
      clear Hsuf
      cases soft
      case' true =>
       have h1 : 1 ≤ t.length := Hsf.out rfl
       go_wp2_with fail
       have hbq2 : List.take (t.length - 1) t = b := Hbq.out.symm
       have hbl : b.length ≤ 16000 := by rw [← hbq2]; simp; omega
       rw [hbq2]
       clear hbq2 h1
       have Hend2 : Hid (E = []) := by show E = _; rw [Hend.out]; simp
       have Hr2 : Hid (2 = 2) := rfl
      case' false =>
       go_wp2_with fail
       obtain rfl : b = t := Hbq.out
       have hbl : b.length ≤ 16000 := by omega
       have Hend2 : Hid (E = if whole then [13, 10] else []) := by show E = _; rw [Hend.out]; simp
      all_goals
       clear Hbq Hsf Hend
       go_loopw [4, 9] (QRel2 b b.length R w) (fun _ iv _ => b.length - (intOf iv).toNat)
       case atStart => exact ⟨0, out, O, ol, oc, rfl, rfl, by omega, ⟨HR.out, HOl.out⟩, by omega, hoc, hown2, hbel2⟩
       case round =>
        clear hown2 hbel2 hol hoc hb2 HOl HR
        obtain ⟨i, out2, O2, ol2, oc2, rfl, rfl, him, hE, hol2, hoc2, hown, hbel⟩ := hrel
        by_cases hib : i < b.length
        · have hx8 := nth_lt b i
          by_cases h61 : nth b i = 61
          · have hx1 : ((nth b i : Int) != 61) = false := by simp [h61]
            have H61 := Lib.hid h61; clear h61
            by_cases h2 : i + 2 < b.length
            · have ha := nth_lt b (i + 1)
              have hd := nth_lt b (i + 2)
              have hbad := decQ_bad b i H61.out h2
              have hok := decQ_ok b i H61.out h2
              have hba := hexQ_bd (nth b (i + 1))
              have hbd := hexQ_bd (nth b (i + 2))
              have hca := fun W => hex_any (nth b (i + 1)) ha W
              have hcd := fun W => hex_any (nth b (i + 2)) hd W
              generalize hexQ (nth b (i + 1)) = u at hbad hok hba hca
              generalize hexQ (nth b (i + 2)) = v at hbad hok hbd hcd
              obtain ⟨hu1, hu2⟩ := hba
              obtain ⟨hv1, hv2⟩ := hbd
              have Hca := Lib.hid hca
              have Hcd := Lib.hid hcd
              have Hbad := Lib.hid hbad
              have Hok := Lib.hid hok
              have hi2 : (i : Int) + 2 < b.length := by omega
              have hi1 : (i : Int) + 1 < b.length := by omega
              have j1 : ((i : Int) + 1).toNat = i + 1 := by omega
              have j2 : ((i : Int) + 2).toNat = i + 2 := by omega
              clear hbad hok hca hcd
              by_cases hu : u < 0
              · have hR0 : R = none := by rw [← hE.out.1, Hbad.out (.inl hu)]; rfl
                have hr : Hid (r = ([], 1)) := by show r = _; rw [Hst.out, hR0]
                clear hR0
                go_wp2_with fail
                refine (Hca.out _).mono ?_
                rintro e w4 ⟨rfl, rfl⟩
                go_wp2_with fail
                go_ret2
                rw [hr.out]
                exact BytesResF.fail 1 hbel
              · by_cases hv : v < 0
                · have hR0 : R = none := by rw [← hE.out.1, Hbad.out (.inr hv)]; rfl
                  have hr : Hid (r = ([], 1)) := by show r = _; rw [Hst.out, hR0]
                  clear hR0
                  go_wp2_with fail
                  refine (Hca.out _).mono ?_
                  rintro e w4 ⟨rfl, rfl⟩
                  go_wp2_with fail
                  refine (Hcd.out _).mono ?_
                  rintro e w5 ⟨rfl, rfl⟩
                  go_wp2_with fail
                  go_ret2
                  rw [hr.out]
                  exact BytesResF.fail 1 hbel
                · obtain ⟨x, rfl⟩ := Int.eq_ofNat_of_zero_le (by omega : 0 ≤ u)
                  obtain ⟨y, rfl⟩ := Int.eq_ofNat_of_zero_le (by omega : 0 ≤ v)
                  have hE2 : Hid ((decQ (b.drop (i + 3))).map ((out2 ++ [UInt8.ofNat (x * 16 + y)]) ++ ·) = R) := by
                   show _ = R
                   rw [← hE.out.1, Hok.out (by omega) (by omega), map_app]
                   rfl
                  have Hol := Lib.hid hE.out.2
                  clear hE
                  go_wp2_with fail
                  refine (Hca.out _).mono ?_
                  rintro e w4 ⟨rfl, rfl⟩
                  go_wp2_with fail
                  refine (Hcd.out _).mono ?_
                  rintro e w5 ⟨rfl, rfl⟩
                  go_wp2_with fail
                  have i1 : IntKind.i64.wrap ((i : Int) + 1) = (i : Int) + 1 := IntWalk.i64_in _ (by omega)
                  have i2 : IntKind.i64.wrap ((i : Int) + 2) = (i : Int) + 2 := IntWalk.i64_in _ (by omega)
                  have k1 : 0 ≤ (i : Int) + 1 := by omega
                  have k2 : 0 ≤ (i : Int) + 2 := by omega
                  have o1 : bits .or .i64 ((x : Int) * 16) (y : Int) = ((x * 16 + y : Nat) : Int) := by
                   have h := i64_or (x * 16) y (by omega) (by omega)
                   rw [or_low x y 4 (by omega)] at h
                   simpa using h
                  have i3 : IntKind.i64.wrap ((x : Int) * 16) = (x : Int) * 16 := IntWalk.i64_in _ (by omega)
                  have hxy : x * 16 + y < 256 := by omega
                  have i4 : IntKind.u8.wrap ((x * 16 + y : Nat) : Int) = ((x * 16 + y : Nat) : Int) := wrap_u8N _ hxy
                  generalize hz : x * 16 + y = z at o1 i4 hE2 hxy
                  clear hz
                  have h63 : ol2 + 1 ≤ maxLen := by unfold maxLen; omega
                  have h47 : (ol2 + 1) * 1 ≤ 140737488355328 := by omega
                  go_region_law (first
                   | (go_simp; go_at_call 145; (with_reducible refine (Hca.out _).mono ?_); rintro e w4 ⟨rfl, rfl⟩)
                   | (go_simp; go_at_call 145; (with_reducible refine (Hcd.out _).mono ?_); rintro e w4 ⟨rfl, rfl⟩)
                   | (refine step_append_lies (w := (w5.alloc (.cells #[.int .u8 (z : Nat)] 5)).drew) (by rfl) (.tmp 69) (.tmp 83) 22 (by rfl) w.heap.size 5 j0 (.int .u8 0) 1 1 Tryz.underlying22 hj0 hjz0 hjz1 hjz2 rfl (by decide) (.slice O2 ol2 oc2) ol2 (Lib.byteCells out2) (by simp [Act.eval]) (hown.alloc _).drew ⟨w5.heap.size, 0, none⟩ 1 1 [.int .u8 (z : Nat)] (by simp [Act.eval]) rfl (news_one w5 _ _) (one_u8 _) (by decide) h63 h47 (by have := hbel.size; simp; omega) _ rfl ?_; intro g cap w6 hown6 hgrow6 hat6 hlt6))
                  all_goals
                   have hc' := own_cap hown6
                   have hb6 := (hbel.alloc hbel.size _).drew.grown hgrow6 (by have := hbel.size; simp; omega) (fun k hk => (hown.lt k hk).1)
                   clear hgrow6 hat6 hlt6 i1 i2 i3 i4 o1 j1 j2
                   go_wp2_with fail
                   refine ⟨⟨i + 3, out2 ++ [UInt8.ofNat z], some ⟨g, 0, none⟩, ol2 + 1, cap, rfl, by go_num, by omega, ⟨hE2.out, by simp [Hol.out]⟩, by omega, hc', ?_, hb6⟩, by simp [intOf]; omega⟩
                   rw [byteCells_append, byte_cell _ hxy]
                   exact hown6
            · have hR0 : R = none := by rw [← hE.out.1, decQ_short b i hib H61.out (by omega)]; rfl
              have hr : Hid (r = ([], 1)) := by show r = _; rw [Hst.out, hR0]
              clear hR0
              go_wp2_with fail
              go_ret2
              rw [hr.out]
              exact BytesResF.fail 1 hbel
          · have hx1 : ((nth b i : Int) != 61) = true := by simp; omega
            have hE1 := decQ_plain b i hib h61
            have hE2 : Hid ((decQ (b.drop (i + 1))).map ((out2 ++ [UInt8.ofNat (nth b i)]) ++ ·) = R) := by
             show _ = R
             rw [← hE.out.1, hE1, map_app]
            have Hol := Lib.hid hE.out.2
            clear hE1 hE h61
            have h63 : ol2 + 1 ≤ maxLen := by unfold maxLen; omega
            have h47 : (ol2 + 1) * 1 ≤ 140737488355328 := by omega
            go_wp2_with (at_builtin; refine wpList_app rfl _ _ 22 rfl w.heap.size 5 j0 (.int .u8 0) 1 1 Tryz.underlying22 hj0 hjz0 hjz1 hjz2 rfl (by decide) O2 ol2 oc2 (Lib.byteCells out2) rfl (hown.alloc _) _ _ 1 1 [.int .u8 (nth b i : Nat)] rfl (Sl.one _ _ _) (one_u8 _) h63 h47 ?c2 ?_)
            case c2 => have := hbel.size; simp; omega
            intro S' c' w4 hown4 hb4 _
            have hc' := own_cap hown4
            go_wp2_with fail
            refine ⟨⟨i + 1, out2 ++ [UInt8.ofNat (nth b i)], S', ol2 + 1, c', rfl, by go_num, by omega, ⟨hE2.out, by simp [Hol.out]⟩, by omega, hc', ?_, (hbel.alloc hbel.size _).trans hb4⟩, by simp [intOf]; omega⟩
            rw [byteCells_append, byte_cell _ hx8]
            exact hown4
        · obtain rfl : i = b.length := by omega
          have hR0 : R = some out2 := by rw [← hE.out.1, List.drop_of_length_le (Nat.le_refl _)]; simp [decQ]
          have hr1 : Hid (r = if 4000 < (out2 ++ E).length then ([], 2) else linesQ k rest (out2 ++ E)) := by
           show r = _; rw [Hst.out, hR0]
          have Hol := Lib.hid hE.out.2
          clear hR0 hE
          cases whole
          all_goals
           first
           | obtain rfl : E = [] := by have := Hend2.out; simpa using this
             by_cases h4 : 4000 < ol2
             · have hr : Hid (r = ([], 2)) := by show r = _; rw [hr1.out, List.append_nil, Hol.out, if_pos h4]
               go_wp2_with fail
               go_ret2
               rw [hr.out]
               exact BytesResF.fail 2 hbel
             · have hr : Hid (r = linesQ k rest out2) := by show r = _; rw [hr1.out, List.append_nil, Hol.out, if_neg h4]
               go_wp2_with fail
               exact ⟨⟨k, rest, out2, O2, ol2, oc2, rfl, rfl, ⟨hr.out.symm, by have := HK.out; omega, Hol.out⟩, by omega, by omega, hoc2, hown, hbel⟩, by rw [strLen_str, strLen_str]; exact hl2⟩
           | obtain rfl : E = [13, 10] := by have := Hend2.out; simpa using this
             have hL : Hid ((out2 ++ [13, 10]).length = ol2 + 2) := by show _ = _; simp [Hol.out]
             have h63 : ol2 + 2 ≤ maxLen := by unfold maxLen; omega
             have h47 : (ol2 + 2) * 1 ≤ 140737488355328 := by omega
             go_wp2_with (at_builtin; refine wpList_app rfl _ _ 22 rfl w.heap.size 5 j0 (.int .u8 0) 1 1 Tryz.underlying22 hj0 hjz0 hjz1 hjz2 rfl (by decide) O2 ol2 oc2 (Lib.byteCells out2) rfl (hown.alloc _) _ _ 2 2 [.int .u8 13, .int .u8 10] rfl (Sl.row _ _ 1 2 _ rfl) (two_u8 _ _) h63 h47 ?c4 ?_)
             case c4 => have := hbel.size; simp; omega
             intro S' c' w4 hown4 hb4 _
             have hc' := own_cap hown4
             have hbel4 := (hbel.alloc hbel.size _).trans hb4
             by_cases h4 : 4000 < ol2 + 2
             · have hr : Hid (r = ([], 2)) := by show r = _; rw [hr1.out, hL.out, if_pos h4]
               go_wp2_with fail
               go_ret2
               rw [hr.out]
               exact BytesResF.fail 2 hbel4
             · have hr : Hid (r = linesQ k rest (out2 ++ [13, 10])) := by show r = _; rw [hr1.out, hL.out, if_neg h4]
               go_wp2_with fail
               exact ⟨⟨k, rest, out2 ++ [13, 10], S', ol2 + 2, c', rfl, rfl, ⟨hr.out.symm, by have := HK.out; omega, hL.out⟩, by omega, by omega, hc', by rw [byteCells_append]; exact hown4, hbel4⟩, by rw [strLen_str, strLen_str]; exact hl2⟩
end Go.Proofs.YtinfjdfhkfhgjaaGreatDoor
namespace Go.Proofs.YtinfjdfhkfhgjaaGreatDoor
open Go.RowKit
theorem Parse_fields (b : List UInt8) (A : Option Addr) (n c : Nat) (w : World) (hb : By w w.heap.size A n b) (_hn : n ≤ c) (_hm : n ≤ maxLen) :
 Calls Tryz.prog 61 #[.slice A n c] w (ParseRes (parseF b) w) := by
 obtain ⟨i0, hi0, hz0, hz1, hz2⟩ := info_parts infoField
 have hl := hb.len
 by_cases h4 : 40000 < n
 · rw [show parseF b = ([], 0, 2) from parse_many (by omega)]
   have d : decide ((40000 : Int) < n) = true := by simp; omega
   clear hb hl
   go_enter Tryz.func61, Tryz.ntmps61
   go_wp2_with fail
   go_ret3
   exact ParseRes.fail 2 (Below.refl _ _)
 · have d : decide ((40000 : Int) < n) = false := by simp; omega
   rw [parseF_fin (by omega), hl]
   obtain ⟨R, hR⟩ : ∃ R, linesF (n + 1) b [] = R := ⟨_, rfl⟩
   rw [hR]
   have hts := run_toStr (P := Tryz.prog) w 22 9 5 _ A n c b hb Tryz.underlying22 Tryz.underlying5 Tryz.underlying9
   have HR := Lib.hid hR
   have Hl := Lib.hid hl
   obtain ⟨r, hr⟩ : ∃ r, r = finF n R := ⟨_, rfl⟩
   rw [← hr]
   have Hr := Lib.hid hr
   have hn4 : n ≤ 40000 := by omega
   clear hR hl hb hr
   go_enter Tryz.func61, Tryz.ntmps61
   go_wp2_with fail
   go_loopw [2, 6] (PLRel n R w) (fun _ sv _ => strLn sv)
   case atStart => exact ⟨n + 1, b, [], none, 0, 0, rfl, rfl, ⟨HR.out, by rw [Hl.out]; omega, rfl, by simp [wtF, Hl.out]⟩, by rw [Hl.out]; exact Nat.le_refl _, Nat.zero_le _, Nat.le_refl _, World.ownsRow_nil _ _ _ _, Below.refl _ _⟩
   case round =>
    clear HR
    obtain ⟨k, s, out, S, m, cS, rfl, rfl, hE, hsn, hm20, hmc, hown, hbel⟩ := hrel
    obtain ⟨k, rfl⟩ : ∃ k', k = k' + 1 := ⟨k - 1, by have := hE.out.2.1; omega⟩
    have hcut := Cut_one s 10 wr (by unfold maxLen; omega)
    have hsum := @cut_sum s 10
    have l1 := @lines_no k s out
    have l2 := @lines_end k s out
    have l3 := @lines_bad k s out
    have l4 := fun m' => @lines_go k s out m'
    generalize Lib.cut s [10] = x at hcut hsum l1 l2 l3 l4
    obtain ⟨line0, rest, whole⟩ := x
    simp only at hcut hsum l1 l2 l3 l4
    have Hcut := Lib.hid hcut
    cases whole
    case false =>
     have hr1 : Hid (r = ([], 0, 1)) := by show r = _; rw [Hr.out, ← hE.out.1, l1 rfl]; rfl
     clear hcut hsum l1 l2 l3 l4 hE hown
     go_wp2_with fail
     refine Hcut.out.mono ?_
     rintro e w1 ⟨rfl, q, rfl⟩
     go_wp2_with fail
     refine (pfail_any 1 _).mono ?_
     rintro e w2 ⟨rfl, rfl⟩
     go_wp2_with fail
     go_ret3
     rw [hr1.out]
     exact ParseRes.fail 1 (belN hbel q)
    case true =>
     have hsl := hsum rfl
     have hcl := chop_len line0
     have hTs := fun W => TrimSuffix13 line0 W (by unfold maxLen; omega)
     generalize hline : chopF line0 = line at hTs hcl l2 l3 l4
     have HTs := Lib.hid hTs
     have hline4 : line.length ≤ 40000 := by omega
     have hrest : rest.length ≤ n ∧ rest.length < s.length := by omega
     obtain ⟨hrest1, hrest2⟩ := hrest
     by_cases hl0 : line = []
     · -- the empty line
       have hRv : R = if chkF out = 0 then (out, rest, 0) else ([], [], chkF out) := by rw [← hE.out.1]; exact l2 rfl hl0
       have hol := hE.out.2.2.1
       have hwt := hE.out.2.2.2
       have hsm : smallF out := wtF_small (N := 40000) (by omega) (by unfold maxLen; omega)
       have d0 : (line == []) = true := by simpa using hl0
       have hck := fun W (hW : Below wr.heap.size wr W) => FCheck_any out S m cS wr.heap.size W ((Sl.of_own hown).below hW) hW.size hsm (by unfold maxLen; omega)
       have hslw := Sl.of_own hown
       have hcm := own_capF hown
       have hrS : r = if chkF out = 0 then (out, n - rest.length, 0) else ([], 0, chkF out) := by
        rw [Hr.out, hRv]
        unfold finF
        by_cases h0 : chkF out = 0
        · rw [if_pos h0, if_pos h0, if_pos rfl]
        · rw [if_neg h0, if_neg h0, if_neg (by simpa using h0)]
       generalize chkF out = e0 at hck hrS
       have Hck := Lib.hid hck
       have Hslw := Lib.hid hslw
       have Hsm := Lib.hid hsm
       have Hol := Lib.hid hol
       have hnr : ((n : Int) - (rest.length : Int)) = ((n - rest.length : Nat) : Int) := by omega
       clear hcut hsum l1 l2 l3 l4 hE hown hRv hck hslw hsm hol hwt hTs hline hl0
       by_cases he0 : e0 = 0
       · subst he0
         have hr1 : Hid (r = (out, n - rest.length, 0)) := by show r = _; rw [hrS, if_pos rfl]
         clear hrS
         go_wp2_with fail
         refine Hcut.out.mono ?_
         rintro e w1 ⟨rfl, q, rfl⟩
         have hb1 := belN (Below.refl wr.heap.size wr) q
         have hbel1 := belN hbel q
         go_wp2_with fail
         refine (HTs.out _).mono ?_
         rintro e w2 ⟨rfl, rfl⟩
         go_wp2_with fail
         refine (Hck.out _ hb1).mono ?_
         rintro e w3 ⟨rfl, hb3⟩
         go_wp2_with fail
         go_ret3
         rw [hr1.out]
         have hbw := hb1.trans (hb3.mono hb1.size)
         exact ⟨S, cS, by rw [← Hol.out]; rfl, by rw [show (out, n - rest.length, 0).1.length = m from Hol.out]; exact (Hslw.out.below hbw).more hbw.size, Hsm.out, by show out.length ≤ cS; rw [Hol.out]; exact hmc, hcm, hbel1.trans (hb3.mono hbel1.size)⟩
       · have hr1 : Hid (r = ([], 0, e0)) := by show r = _; rw [hrS, if_neg he0]
         have de : ((e0 : Int) != 0) = true := by simp; omega
         clear hrS he0
         go_wp2_with fail
         refine Hcut.out.mono ?_
         rintro e w1 ⟨rfl, q, rfl⟩
         have hb1 := belN (Below.refl wr.heap.size wr) q
         have hbel1 := belN hbel q
         go_wp2_with fail
         refine (HTs.out _).mono ?_
         rintro e w2 ⟨rfl, rfl⟩
         go_wp2_with fail
         refine (Hck.out _ hb1).mono ?_
         rintro e w3 ⟨rfl, hb3⟩
         go_wp2_with fail
         refine (pfail_any e0 _).mono ?_
         rintro e w2 ⟨rfl, rfl⟩
         go_wp2_with fail
         go_ret3
         rw [hr1.out]
         exact ParseRes.fail e0 (hbel1.trans (hb3.mono hbel1.size))
     · have d0 : (line == []) = false := by simpa using hl0
       have hll : 0 < line.length := List.length_pos_iff.2 hl0
       have hi0' : (0 : Int) ≤ 0 := by omega
       have hi1' : (0 : Int) < line.length := by omega
       have l3 := l3 rfl hl0
       have l4 := fun m' => l4 m' rfl hl0
       clear hsum l1 l2 hcut
       by_cases h32 : nth line 0 = 32
       · have t1 : ((nth line 0 : Int) == 32) = true := by simp [h32]
         have hbl : blankF (nth line 0) = true := blank_32 h32
         by_cases hm0 : m = 0
         · have hout : out = [] := List.eq_nil_of_length_eq_zero (by rw [hE.out.2.2.1]; exact hm0)
           have hr1 : Hid (r = ([], 0, 1)) := by show r = _; rw [Hr.out, ← hE.out.1, l3 (goF_blank0 hbl hout)]; rfl
           subst hm0
           clear l3 l4 hE hown hbl
           go_wp2_with fail
           refine Hcut.out.mono ?_
           rintro e w1 ⟨rfl, q, rfl⟩
           go_wp2_with fail
           refine (HTs.out _).mono ?_
           rintro e w2 ⟨rfl, rfl⟩
           go_wp2_with fail
           refine (pfail_any 1 _).mono ?_
           rintro e w3 ⟨rfl, rfl⟩
           go_wp2_with fail
           go_ret3
           rw [hr1.out]
           exact ParseRes.fail 1 (belN hbel q)
         · have hout : out ≠ [] := fun e => hm0 (by rw [← hE.out.2.2.1, e]; rfl)
           obtain ⟨init, f, rfl⟩ : ∃ init f, out = init ++ [f] := ⟨out.dropLast, out.getLast hout, (List.dropLast_concat_getLast hout).symm⟩
           have hmi : m = init.length + 1 := by rw [← hE.out.2.2.1]; simp
           have hgo := l4 _ (goF_blank hbl hout)
           have hwt := more_wt init f line
           have hms := more_snoc init f line
           obtain ⟨g, cap, hv, hgb, hgl⟩ := hown.form (by omega)
           injection hv with hS2 _ hcap
           subst hS2
           subst hcap
           have hj : m - 1 = init.length := by omega
           have q1 : wr.cell? ⟨g, (m - 1) * 2 + 1, none⟩ = some (str f.value) := by
            rw [hown.cellAt _ (by omega), fieldC_app, List.getElem?_append_right (by rw [fieldC_len]; omega), fieldC_len, hj, show init.length * 2 + 1 - init.length * 2 = 1 from by omega]
            rfl
           have f1 : wr.frozen? ⟨g, (m - 1) * 2 + 1, none⟩ = false := hown.frozenAt _
           have htl := trim_len line [32, 9]
           have hT1 := fun W => Trim_any line [32, 9] W (by unfold maxLen; omega) (by decide) (by decide)
           have hfv : f.value.length ≤ 40000 := by
            have h1 := hE.out.2.2.2
            have h2 := @wtF_mem (init ++ [f]) f (by simp)
            omega
           generalize hT1d : Lib.trimS line [32, 9] = t1 at hT1 htl hms
           have hT2 := fun W => Trim_any (f.value ++ 32 :: t1) [32] W (by unfold maxLen; simp only [List.length_append, List.length_cons]; omega) (by decide) (by decide)
           generalize hT2d : Lib.trimS (f.value ++ 32 :: t1) [32] = t2 at hT2 hms
           have HT1 := Lib.hid hT1
           have HT2 := Lib.hid hT2
           have hownS := fun (u : Value) => (hown.stored ((m - 1) * 2 + 1) u).1
           have hput : (fieldC (init ++ [f])).set ((m - 1) * 2 + 1) (str t2) = fieldC (moreF (init ++ [f]) line) := by rw [hj, fieldC_put, hms]
           have hml : (moreF (init ++ [f]) line).length = m := by rw [hms, hmi]; simp
           have hR2 : Hid (R = if 20 < m then ([], [], 2) else linesF k rest (moreF (init ++ [f]) line)) := by show R = _; rw [← hE.out.1, hgo, hml]
           have hwt2 : Hid (wtF (moreF (init ++ [f]) line) + rest.length ≤ n) := by
            show _ ≤ _
            have := hE.out.2.2.2
            omega
           have hk2 : Hid (rest.length < k) := by show _ < _; have := hE.out.2.1; omega
           generalize moreF (init ++ [f]) line = out2 at hput hml hR2 hwt2
           have Hown := Lib.hid hown
           have Hput := Lib.hid hput
           have Hml := Lib.hid hml
           have Hmi := Lib.hid hmi
           have hm1 : 0 < m := by omega
           clear l3 l4 hE hown hbl hgo hwt hms hT1 hT2 hput hml hT1d hT2d hownS hm0 hmi hj
           go_wp2_with fail
           refine Hcut.out.mono ?_
           rintro e w1 ⟨rfl, q, rfl⟩
           go_wp2_with fail
           refine (HTs.out _).mono ?_
           rintro e w2 ⟨rfl, rfl⟩
           have q1d : (wr.drewN q).cell? ⟨g, (m - 1) * 2 + 1, none⟩ = some (str f.value) := q1
           have f1d : (wr.drewN q).frozen? ⟨g, (m - 1) * 2 + 1, none⟩ = false := f1
           have hb1 := belN (Below.refl wr.heap.size wr) (q + 1)
           have hszd : g < (wr.drewN q).drew.heap.size := hgl
           go_wp2_with fail
           go_region_with (first
            | (go_at_call 79; (with_reducible refine (HT1.out _).mono ?_); rintro e w4 ⟨rfl, hb4⟩; have q4 := (hb4.cell (p := ⟨g, (m - 1) * 2 + 1, none⟩) hszd).trans q1d; have f4 := (hb4.frozen (p := ⟨g, (m - 1) * 2 + 1, none⟩) hszd).trans f1d; have hsz4 := Nat.lt_of_lt_of_le hszd hb4.size)
            | (go_at_call 79; (with_reducible refine (HT2.out _).mono ?_); rintro e w5 ⟨rfl, hb5⟩; have q5 := (hb5.cell (p := ⟨g, (m - 1) * 2 + 1, none⟩) hsz4).trans q4; have f5 := (hb5.frozen (p := ⟨g, (m - 1) * 2 + 1, none⟩) hsz4).trans f4))
           all_goals
            have hbw := hb1.trans ((hb4.trans (hb5.mono hb4.size)).mono (show wr.heap.size ≤ (wr.drewN q).drew.heap.size from Nat.le_refl _))
            have hown5 := (own_below Hown.out hbw).stored ((m - 1) * 2 + 1) (str t2) |>.1
            rw [Hput.out] at hown5
            have hbel5 := (hbel.trans (hbw.mono hbel.size)).setCell (p := ⟨g, (m - 1) * 2 + 1, none⟩) hgb (str t2)
            have d20 : decide ((20 : Int) < (m : Int)) = false := by simp; omega
            have hR3 : Hid (linesF k rest out2 = R) := by show _ = R; rw [hR2.out, if_neg (by omega)]
            have Hown5 := Lib.hid hown5
            clear hown5 q1 f1 q1d f1d q4 f4 q5 f5 hb1 hb4 hb5 hbw
            go_wp2_with fail
            exact ⟨⟨k, rest, out2, some ⟨g, 0, none⟩, m, cS, rfl, rfl, ⟨hR3.out, hk2.out, Hml.out, hwt2.out⟩, hrest1, hm20, hmc, Hown5.out, hbel5⟩, by rw [strLn_str, strLn_str]; exact hrest2⟩
       · have t1 : ((nth line 0 : Int) == 32) = false := by simp; omega
         by_cases h9 : nth line 0 = 9
         · have t2 : ((nth line 0 : Int) == 9) = true := by simp [h9]
           have hbl : blankF (nth line 0) = true := blank_9 h9
           by_cases hm0 : m = 0
           · have hout : out = [] := List.eq_nil_of_length_eq_zero (by rw [hE.out.2.2.1]; exact hm0)
             have hr1 : Hid (r = ([], 0, 1)) := by show r = _; rw [Hr.out, ← hE.out.1, l3 (goF_blank0 hbl hout)]; rfl
             subst hm0
             clear l3 l4 hE hown hbl
             go_wp2_with fail
             refine Hcut.out.mono ?_
             rintro e w1 ⟨rfl, q, rfl⟩
             go_wp2_with fail
             refine (HTs.out _).mono ?_
             rintro e w2 ⟨rfl, rfl⟩
             go_wp2_with fail
             refine (pfail_any 1 _).mono ?_
             rintro e w3 ⟨rfl, rfl⟩
             go_wp2_with fail
             go_ret3
             rw [hr1.out]
             exact ParseRes.fail 1 (belN hbel q)
           · have hout : out ≠ [] := fun e => hm0 (by rw [← hE.out.2.2.1, e]; rfl)
             obtain ⟨init, f, rfl⟩ : ∃ init f, out = init ++ [f] := ⟨out.dropLast, out.getLast hout, (List.dropLast_concat_getLast hout).symm⟩
             have hmi : m = init.length + 1 := by rw [← hE.out.2.2.1]; simp
             have hgo := l4 _ (goF_blank hbl hout)
             have hwt := more_wt init f line
             have hms := more_snoc init f line
             obtain ⟨g, cap, hv, hgb, hgl⟩ := hown.form (by omega)
             injection hv with hS2 _ hcap
             subst hS2
             subst hcap
             have hj : m - 1 = init.length := by omega
             have q1 : wr.cell? ⟨g, (m - 1) * 2 + 1, none⟩ = some (str f.value) := by
              rw [hown.cellAt _ (by omega), fieldC_app, List.getElem?_append_right (by rw [fieldC_len]; omega), fieldC_len, hj, show init.length * 2 + 1 - init.length * 2 = 1 from by omega]
              rfl
             have f1 : wr.frozen? ⟨g, (m - 1) * 2 + 1, none⟩ = false := hown.frozenAt _
             have htl := trim_len line [32, 9]
             have hT1 := fun W => Trim_any line [32, 9] W (by unfold maxLen; omega) (by decide) (by decide)
             have hfv : f.value.length ≤ 40000 := by
              have h1 := hE.out.2.2.2
              have h2 := @wtF_mem (init ++ [f]) f (by simp)
              omega
             generalize hT1d : Lib.trimS line [32, 9] = t1 at hT1 htl hms
             have hT2 := fun W => Trim_any (f.value ++ 32 :: t1) [32] W (by unfold maxLen; simp only [List.length_append, List.length_cons]; omega) (by decide) (by decide)
             generalize hT2d : Lib.trimS (f.value ++ 32 :: t1) [32] = t2 at hT2 hms
             have HT1 := Lib.hid hT1
             have HT2 := Lib.hid hT2
             have hownS := fun (u : Value) => (hown.stored ((m - 1) * 2 + 1) u).1
             have hput : (fieldC (init ++ [f])).set ((m - 1) * 2 + 1) (str t2) = fieldC (moreF (init ++ [f]) line) := by rw [hj, fieldC_put, hms]
             have hml : (moreF (init ++ [f]) line).length = m := by rw [hms, hmi]; simp
             have hR2 : Hid (R = if 20 < m then ([], [], 2) else linesF k rest (moreF (init ++ [f]) line)) := by show R = _; rw [← hE.out.1, hgo, hml]
             have hwt2 : Hid (wtF (moreF (init ++ [f]) line) + rest.length ≤ n) := by
              show _ ≤ _
              have := hE.out.2.2.2
              omega
             have hk2 : Hid (rest.length < k) := by show _ < _; have := hE.out.2.1; omega
             generalize moreF (init ++ [f]) line = out2 at hput hml hR2 hwt2
             have Hown := Lib.hid hown
             have Hput := Lib.hid hput
             have Hml := Lib.hid hml
             have Hmi := Lib.hid hmi
             have hm1 : 0 < m := by omega
             clear l3 l4 hE hown hbl hgo hwt hms hT1 hT2 hput hml hT1d hT2d hownS hm0 hmi hj
             go_wp2_with fail
             refine Hcut.out.mono ?_
             rintro e w1 ⟨rfl, q, rfl⟩
             go_wp2_with fail
             refine (HTs.out _).mono ?_
             rintro e w2 ⟨rfl, rfl⟩
             have q1d : (wr.drewN q).cell? ⟨g, (m - 1) * 2 + 1, none⟩ = some (str f.value) := q1
             have f1d : (wr.drewN q).frozen? ⟨g, (m - 1) * 2 + 1, none⟩ = false := f1
             have hb1 := belN (Below.refl wr.heap.size wr) (q + 1)
             have hszd : g < (wr.drewN q).drew.heap.size := hgl
             go_wp2_with fail
             go_region_with (first
              | (go_at_call 79; (with_reducible refine (HT1.out _).mono ?_); rintro e w4 ⟨rfl, hb4⟩; have q4 := (hb4.cell (p := ⟨g, (m - 1) * 2 + 1, none⟩) hszd).trans q1d; have f4 := (hb4.frozen (p := ⟨g, (m - 1) * 2 + 1, none⟩) hszd).trans f1d; have hsz4 := Nat.lt_of_lt_of_le hszd hb4.size)
              | (go_at_call 79; (with_reducible refine (HT2.out _).mono ?_); rintro e w5 ⟨rfl, hb5⟩; have q5 := (hb5.cell (p := ⟨g, (m - 1) * 2 + 1, none⟩) hsz4).trans q4; have f5 := (hb5.frozen (p := ⟨g, (m - 1) * 2 + 1, none⟩) hsz4).trans f4))
             all_goals
              have hbw := hb1.trans ((hb4.trans (hb5.mono hb4.size)).mono (show wr.heap.size ≤ (wr.drewN q).drew.heap.size from Nat.le_refl _))
              have hown5 := (own_below Hown.out hbw).stored ((m - 1) * 2 + 1) (str t2) |>.1
              rw [Hput.out] at hown5
              have hbel5 := (hbel.trans (hbw.mono hbel.size)).setCell (p := ⟨g, (m - 1) * 2 + 1, none⟩) hgb (str t2)
              have d20 : decide ((20 : Int) < (m : Int)) = false := by simp; omega
              have hR3 : Hid (linesF k rest out2 = R) := by show _ = R; rw [hR2.out, if_neg (by omega)]
              have Hown5 := Lib.hid hown5
              clear hown5 q1 f1 q1d f1d q4 f4 q5 f5 hb1 hb4 hb5 hbw
              go_wp2_with fail
              exact ⟨⟨k, rest, out2, some ⟨g, 0, none⟩, m, cS, rfl, rfl, ⟨hR3.out, hk2.out, Hml.out, hwt2.out⟩, hrest1, hm20, hmc, Hown5.out, hbel5⟩, by rw [strLn_str, strLn_str]; exact hrest2⟩
         · have t2 : ((nth line 0 : Int) == 9) = false := by simp; omega
           have hbl : blankF (nth line 0) = false := blank_no h32 h9
           have hcut2 := fun W => Cut_one line 58 W (by unfold maxLen; omega)
           have hc1 := @goF_none out line hbl
           have hc2 := @goF_new out line hbl
           have hc3 := new_wt out line
           have hcs := @cut_sum line 58
           generalize Lib.cut line [58] = y at hcut2 hc1 hc2 hc3 hcs
           obtain ⟨name, value, ok⟩ := y
           simp only at hcut2 hc1 hc2 hc3 hcs
           have Hcut2 := Lib.hid hcut2
           cases ok
           case false =>
            have hr1 : Hid (r = ([], 0, 1)) := by show r = _; rw [Hr.out, ← hE.out.1, l3 (hc1 rfl)]; rfl
            clear l3 l4 hE hown hbl hcut2 hc1 hc2 hc3 hcs
            go_wp2_with fail
            refine Hcut.out.mono ?_
            rintro e w1 ⟨rfl, q, rfl⟩
            go_wp2_with fail
            refine (HTs.out _).mono ?_
            rintro e w2 ⟨rfl, rfl⟩
            go_wp2_with fail
            refine (Hcut2.out _).mono ?_
            rintro e w3 ⟨rfl, q3, rfl⟩
            go_wp2_with fail
            refine (pfail_any 1 _).mono ?_
            rintro e w4 ⟨rfl, rfl⟩
            go_wp2_with fail
            go_ret3
            rw [hr1.out]
            exact ParseRes.fail 1 (belN hbel (q + q3))
           case true =>
            have hgo := l4 _ (hc2 rfl)
            have hwt := hc3 rfl
            have hls := hcs rfl
            have hT1 := fun W => Trim_any value [32, 9] W (by unfold maxLen; omega) (by decide) (by decide)
            have hR2 : Hid (R = if 20 < m + 1 then ([], [], 2) else linesF k rest (out ++ [⟨name, Lib.trimS value [32, 9]⟩])) := by
             show R = _
             rw [← hE.out.1, hgo]
             simp only [List.length_append, List.length_cons, List.length_nil, hE.out.2.2.1, Nat.zero_add]
            have hwt2 : Hid (wtF (out ++ [⟨name, Lib.trimS value [32, 9]⟩]) + rest.length ≤ n) := by
             show _ ≤ _
             have := hE.out.2.2.2
             omega
            generalize Lib.trimS value [32, 9] = t at hT1 hR2 hwt2
            have hml : Hid ((out ++ [FieldD.mk name t]).length = m + 1) := by show _ = _; simp [hE.out.2.2.1]
            have hk2 : Hid (rest.length < k) := by show _ < _; have := hE.out.2.1; omega
            have HT1 := Lib.hid hT1
            have Hown := Lib.hid hown
            have h63 : m + 1 ≤ maxLen := by unfold maxLen; omega
            have h47 : (m + 1) * 32 ≤ 140737488355328 := by omega
            have hone : ∀ u ∈ [str name, str t], u.oneCell' = true := by intro u hu; simp at hu; rcases hu with rfl | rfl <;> rfl
            have Hone := Lib.hid hone
            clear l3 l4 hE hown hbl hcut2 hc1 hc2 hc3 hcs hgo hwt hT1 hone
            go_wp2_with fail
            refine Hcut.out.mono ?_
            rintro e w1 ⟨rfl, q, rfl⟩
            go_wp2_with fail
            refine (HTs.out _).mono ?_
            rintro e w2 ⟨rfl, rfl⟩
            go_wp2_with fail
            refine (Hcut2.out _).mono ?_
            rintro e w3 ⟨rfl, q3, rfl⟩
            have hb1 := belN (Below.refl wr.heap.size wr) (q + q3)
            go_wp2_with fail
            refine (HT1.out _).mono ?_
            rintro e w4 ⟨rfl, hb4⟩
            have hbw := hb1.trans (hb4.mono hb1.size)
            have hbel4 := hbel.trans (hbw.mono hbel.size)
            have hown4 := own_below Hown.out hbw
            have hsz4 := hbel4.size
            clear hb1 hb4 hbw
            go_wp2_with (at_builtin; refine wpList_app rfl _ _ 59 rfl w.heap.size 100 i0 (.agg #[.string ⟨#[]⟩, .string ⟨#[]⟩]) 2 32 Tryz.underlying59 hi0 hz0 hz1 hz2 rfl (by decide) S m cS (fieldC out) rfl (hown4.alloc _) _ _ 1 1 [str name, str t] rfl (Sl.row _ _ 2 1 _ rfl) Hone.out h63 h47 ?c2 ?_)
            case c2 => simp; omega
            intro S' c' w5 hown5 hb5 _
            have hc' := own_cap hown5
            have hbel5 := (hbel4.alloc hsz4 (.cells #[str name, str t] 100)).trans hb5
            rw [show fieldC out ++ [str name, str t] = fieldC (out ++ [⟨name, t⟩]) from by rw [fieldC_app]; rfl] at hown5
            have Hown5 := Lib.hid hown5
            clear hown4 hown5 hb5
            by_cases h20 : 20 < m + 1
            · have d20 : decide ((20 : Int) < (m : Int) + 1) = true := by simp; omega
              have hr1 : Hid (r = ([], 0, 2)) := by show r = _; rw [Hr.out, hR2.out, if_pos h20]; rfl
              go_wp2_with fail
              refine (pfail_any 2 _).mono ?_
              rintro e w6 ⟨rfl, rfl⟩
              go_wp2_with fail
              go_ret3
              rw [hr1.out]
              exact ParseRes.fail 2 hbel5
            · have d20 : decide ((20 : Int) < (m : Int) + 1) = false := by simp; omega
              have hR3 : Hid (linesF k rest (out ++ [⟨name, t⟩]) = R) := by show _ = R; rw [hR2.out, if_neg h20]
              go_wp2_with fail
              exact ⟨⟨k, rest, _, S', m + 1, c', rfl, rfl, ⟨hR3.out, hk2.out, hml.out, hwt2.out⟩, hrest1, by omega, hc', Hown5.out, hbel5⟩, by rw [strLn_str, strLn_str]; exact hrest2⟩
end Go.Proofs.YtinfjdfhkfhgjaaGreatDoor

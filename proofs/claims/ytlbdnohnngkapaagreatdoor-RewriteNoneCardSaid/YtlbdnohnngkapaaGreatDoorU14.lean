import Derived.Test.YtlbdnohnngkapaaGreatDoorU12
import Derived.Test.YtlbdnohnngkapaaGreatDoorU4
import Derived.Test.YtlbdnohnngkapaaGreatDoorU11
import Derived.Deep.Onto
import Derived.Test.YtlbdnohnngkapaaGreatDoorU8
import Derived.Test.YtlbdnohnngkapaaGreatDoorU13
namespace Go.Proofs.YtlbdnohnngkapaaGreatDoor
open Go.RowKit

/-! ### Plain laws of what package bundle computes -/
theorem read_ab : readU [97, 58, 98] = (⟨[97], false, [], [98], false, [], false, []⟩, 0) := by kernel_rfl
/-- Where one is led is an address with a scheme, and leads to itself. -/
theorem led_led {f t : List UInt8} (h : ledB f t ≠ []) : ∃ x, readU (ledB f t) = (x, 0) ∧ x.scheme ≠ [] ∧ ledB [97, 58, 98] (ledB f t) = ledB f t := by
  by_cases hf : (readU f).2 ≠ 0
  · exact absurd (by unfold ledB; rw [if_pos hf]) h
  · by_cases ht : (readU t).2 ≠ 0
    · exact absurd (by unfold ledB; rw [if_neg hf, if_pos ht]) h
    · by_cases hl : (leadU (readU f).1 (readU t).1).2 ≠ 0
      · exact absurd (by unfold ledB; rw [if_neg hf, if_neg ht, if_pos hl]) h
      · have he : ledB f t = (printU (leadU (readU f).1 (readU t).1).1).1 := by unfold ledB; rw [if_neg hf, if_neg ht, if_neg hl]
        obtain ⟨x, hx⟩ : ∃ x, x = (leadU (readU f).1 (readU t).1).1 := ⟨_, rfl⟩
        have hL : leadU (readU f).1 (readU t).1 = (x, 0) := by
          rw [hx]
          exact Prod.ext rfl (by simpa using hl)
        obtain ⟨_, _, hs, hu, hc⟩ := lead_parts hL
        have hp : printU x = (textU x, 0) := by unfold printU; rw [if_pos hc]
        have hxs : x.scheme ≠ [] := by rw [hu, (undot_path _).2.1]; exact (led_scheme hs).1
        rw [he, ← hx, hp]
        refine ⟨x, read_text hc, hxs, ?_⟩
        unfold ledB
        rw [read_ab]
        simp only
        rw [read_text hc, lead_self hL (show checkU _ = 0 by kernel_rfl) (by simp), hp]
        simp
theorem whereF_pre : ∀ (F : List PartD) (T : List Int) (out : List (List UInt8)), (whereF F T out).take out.length = out
  | [], _, out => by rw [whereF]; simp
  | _ :: _, [], out => by rw [whereF]; simp
  | x :: xs, k :: ks, out => by
    rw [whereF]
    have h := whereF_pre xs ks (out ++ [stepW out x.loc k])
    have := congrArg (List.take out.length) h
    rw [List.take_take] at this
    simpa [Nat.min_eq_left] using this
theorem whereF_at : ∀ (F : List PartD) (T : List Int) (out : List (List UInt8)) (i : Nat) (x : PartD) (k : Int), F[i]? = some x → T[i]? = some k →
    (whereF F T out)[out.length + i]? = some (stepW ((whereF F T out).take (out.length + i)) x.loc k)
  | [], _, _, i, x, k, h, _ => by simp at h
  | _ :: _, [], _, i, x, k, _, h => by simp at h
  | y :: xs, k' :: ks, out, 0, x, k, h1, h2 => by
    simp at h1 h2
    subst h1; subst h2
    have h := whereF_pre (y :: xs) (k' :: ks) out
    rw [Nat.add_zero, h, whereF]
    have h2 := congrArg (·[out.length]?) (whereF_pre xs ks (out ++ [stepW out y.loc k']))
    simpa [List.getElem?_take] using h2
  | y :: xs, k' :: ks, out, i + 1, x, k, h1, h2 => by
    have h := whereF_at xs ks (out ++ [stepW out y.loc k']) i x k (by simpa using h1) (by simpa using h2)
    rw [whereF]
    rw [List.length_append, List.length_singleton, show out.length + 1 + i = out.length + (i + 1) by omega] at h
    exact h
theorem fromW_take (W : List (List UInt8)) (i : Nat) (k : Int) (h : k < i) : fromW (W.take i) k = fromW W k := by
  unfold fromW
  by_cases h0 : 0 ≤ k
  · have : k.toNat < i := by omega
    rw [show (W.take i).getD k.toNat [] = W.getD k.toNat [] by simp [List.getD_eq_getElem?_getD, this]]
  · rw [if_neg (fun e => h0 e.1), if_neg (fun e => h0 e.1)]
/-- Where a part is, told by where the others are. -/
theorem where_at (p : PartD) (hch : ∀ q ∈ flatD p, chkD q = 0) (i : Nat) (hi : i < (flatD p).length) : ∃ (x : PartD) (k : Int) (s : List UInt8), (flatD p)[i]? = some x ∧ (wthD p 0 (-1))[i]? = some k ∧ -1 ≤ k ∧ k < i ∧ (whereD p)[i]? = some s ∧
    s = (if x.loc = [] then fromW (whereD p) k else ledB (fromW (whereD p) k) x.loc) := by
  obtain ⟨k, _, hk, h1, h2⟩ := wth_at p hch i hi
  have hx := List.getElem?_eq_getElem hi
  have h := whereF_at (flatD p) (wthD p 0 (-1)) [] i _ k hx hk
  rw [List.length_nil, Nat.zero_add] at h
  refine ⟨_, k, _, hx, hk, h1, h2, h, ?_⟩
  unfold stepW
  rw [fromW_take _ i k h2]
  rfl
theorem goalsF_pre (F0 : List PartD) (W0 : List (List UInt8)) : ∀ (F : List PartD) (W : List (List UInt8)) (i : Nat) (out G : List GoalD), goalsF F0 W0 F W i out = some G → G.take out.length = out
  | [], _, i, out, G, h => by
    rw [goalsF] at h
    injection h with h
    subst h
    simp
  | _ :: _, [], i, out, G, h => by
    rw [goalsF] at h
    injection h with h
    subst h
    simp
  | x :: xs, s :: ss, i, out, G, h => by
    rw [goalsF] at h
    split at h
    · split at h
      · have h1 := goalsF_pre F0 W0 xs ss (i + 1) _ G h
        have := congrArg (List.take out.length) h1
        rw [List.take_take] at this
        simpa [Nat.min_eq_left] using this
      · cases h
    · exact goalsF_pre F0 W0 xs ss (i + 1) out G h
/-- One page's goals stand where they belong. -/
theorem goals_page {F0 : List PartD} {W0 : List (List UInt8)} {F : List PartD} {W : List (List UInt8)} {i k : Nat} {f : List UInt8} {ls : List LinkD} {G : List GoalD} (hk : k ≤ G.length) (h : goalsF F0 W0 F W i (G.take k ++ ls.map (goalOf F0 W0 (i - 1) f)) = some G) :
    k + ls.length ≤ G.length ∧ G.take k ++ ls.map (goalOf F0 W0 (i - 1) f) = G.take (k + ls.length) ∧ ∀ j (hj : j < ls.length), G[k + j]? = some (goalOf F0 W0 (i - 1) f ls[j]) := by
  have h1 := goalsF_pre F0 W0 F W i _ G h
  have hl : (G.take k ++ ls.map (goalOf F0 W0 (i - 1) f)).length = k + ls.length := by simp [Nat.min_eq_left hk]
  rw [hl] at h1
  have h2 := congrArg List.length h1
  rw [hl, List.length_take] at h2
  refine ⟨by omega, h1.symm, fun j hj => ?_⟩
  have h3 : G[k + j]? = (G.take (k + ls.length))[k + j]? := by rw [List.getElem?_take, if_pos (by omega)]
  rw [h3, h1, List.getElem?_append_right (by simp [Nat.min_eq_left hk]), List.length_take, Nat.min_eq_left hk, Nat.add_sub_cancel_left, List.getElem?_map, List.getElem?_eq_getElem hj]
  rfl
theorem findF_range : ∀ (F : List PartD) (L : List (List UInt8)) (t : List UInt8) (i : Nat), -1 ≤ findF F L t i ∧ findF F L t i < ((i + F.length : Nat) : Int)
  | [], _, t, i => by rw [findF]; omega
  | _ :: _, [], t, i => by rw [findF]; omega
  | x :: xs, h :: hs, t, i => by
    rw [findF]
    have := findF_range xs hs t (i + 1)
    rw [List.length_cons]
    split <;> omega
end Go.Proofs.YtlbdnohnngkapaaGreatDoor

namespace Go.Proofs.YtlbdnohnngkapaaGreatDoor

theorem no60 {b : List UInt8} (h : b.any (fun c => c == 60) = false) : ∀ x ∈ b, pIs 60 x.toNat = false := by
  intro x hx
  have := List.any_eq_false.1 h x hx
  simp only [beq_iff_eq] at this
  simp only [pIs, beq_eq_false_iff_ne]
  intro e
  exact this (UInt8.toNat_inj.1 e)
theorem pcs_step (r : List UInt8) (h : r ≠ []) : pcs r = prep (stopT (pIs 60) r) (catP (stepP (stopD (pIs 60) r)).1 (pcs (stepP (stopD (pIs 60) r)).2)) := by
  have h1 := pcs_find r (r.length + 1) (by omega)
  have hlt := stepP_round r h
  unfold findP at h1
  rw [if_neg h, pcs_find _ r.length (by omega)] at h1
  exact (Option.some.inj h1).symm
theorem pcs_nil : pcs [] = raw [] := rfl
theorem pcs_ahead (b c : List UInt8) (h : b.any (fun c => c == 60) = false) : pcs (b ++ c) = prep b (pcs c) := by
  have hb := no60 h
  have hp := stopD_pre (pIs 60) b c hb
  by_cases hbc : b ++ c = []
  · have h1 : b = [] := by cases b with | nil => rfl | cons a b => simp at hbc
    subst h1
    rw [List.nil_append]
    rfl
  · rw [pcs_step _ hbc, hp.1, hp.2]
    by_cases hc : c = []
    · subst hc
      rw [pcs_nil]
      have e : stopD (pIs 60) [] = [] := rfl
      have e2 : stopT (pIs 60) [] = [] := rfl
      rw [e, e2, stepP_nil, pcs_nil]
      simp [prep, catP, catL, raw]
    · rw [pcs_step c hc]
      simp [prep]
theorem pcs_no60 (b : List UInt8) (h : b.any (fun c => c == 60) = false) : pcs b = raw b := by
  have := pcs_ahead b [] h
  rw [List.append_nil, pcs_nil] at this
  rw [this]
  simp [prep, raw]
def shiftL (k : Nat) (l : List LinkD) : List LinkD := l.map fun x => ⟨x.frm + k, x.til + k, x.text⟩
theorem linksL_shift (k : Nat) : ∀ (l : List (List UInt8 × List UInt8)) (pos : Nat), linksL (pos + k) l = shiftL k (linksL pos l)
  | [], _ => rfl
  | x :: l, pos => by
    have := linksL_shift k l (pos + x.1.length + x.2.length)
    simp only [linksL, shiftL, List.map_cons] at this ⊢
    rw [← this]
    congr 1
    · congr 1; omega
    · congr 1; omega
theorem find_ahead (b c : List UInt8) (h : b.any (fun c => c == 60) = false) : findB (b ++ c) = (findB c).map (shiftL b.length) := by
  rw [findB_eq, findB_eq, pcs_ahead b c h]
  have e : (prep b (pcs c)).2 = (pcs c).2 := rfl
  rw [e]
  split
  · rfl
  · rw [links_prep]
    unfold links
    rw [Option.map_some, ← linksL_shift]
    congr 2
    omega
theorem find_no60 (b : List UInt8) (h : b.any (fun c => c == 60) = false) : findB b = some [] := by
  rw [findB_eq, pcs_no60 b h]
  rfl
theorem picks_none : ∀ (l : List (List UInt8 × List UInt8)), picks l (List.replicate l.length []) = l.map (·.1)
  | [] => rfl
  | x :: l => by simp [picks, pick, List.replicate_succ, picks_none l]
/-- Where nothing is put all stays. -/
theorem put_none (b : List UInt8) (l : List LinkD) (hl : findB b = some l) (h4 : b.length ≤ 4000) : putB b (List.replicate l.length []) = (b, 0) := by
  have hf := findB_eq b
  rw [hl] at hf
  split at hf
  · cases hf
  · have hf := Option.some.inj hf
    unfold putB
    rw [hl]
    simp only
    have hany : (List.replicate l.length ([] : List UInt8)).any (fun t => t.any fun c => badPut c.toNat) = false := by
      rw [List.any_eq_false]
      intro x hx
      rw [(List.mem_replicate.1 hx).2]
      simp
    have hp : putL b 0 [] l (List.replicate l.length []) = b := by
      have hn : l.length = (pcs b).2.length := by rw [hf, links_len]
      rw [hn, hf, putL_weave b _ (by simp), picks_none]
      exact (pcs_app b).symm
    rw [if_neg (by simp), hany, hp, if_neg (by simp), if_neg (show ¬ 4000 < b.length by omega)]
end Go.Proofs.YtlbdnohnngkapaaGreatDoor

namespace Go.Proofs.YtlbdnohnngkapaaGreatDoor
open Go.RowKit
attribute [local go_sem high] cut_u8 mid_u8

def putE (l : List UInt8) (ts : List (List UInt8)) : List UInt8 × Nat := if 4000 < l.length then ([], 2) else putB l ts
def PutOut (T : List UInt8 × Nat) (w : World) (e : Ending) (w' : World) : Prop :=
  ∃ S c, e = .returned (.tuple #[.slice S T.1.length c, .int .i64 (T.2 : Nat)]) ∧ w'.ownsRow w.heap.size 5 1 (.slice S T.1.length c) T.1.length (Lib.byteCells T.1) ∧ Below w.heap.size w w'
def sumL (ts : List (List UInt8)) : Nat := (ts.map List.length).sum
theorem putE_none {l : List UInt8} {ts : List (List UInt8)} (h : (findE l).2 ≠ 0) : putE l ts = ([], 2) ∧ (findE l).2 = 2 := by
  unfold findE at h ⊢
  unfold putE
  split
  · exact ⟨rfl, rfl⟩
  · rename_i h4
    rw [if_neg h4] at h
    cases hf : findB l with
    | none => unfold putB; rw [hf]; exact ⟨rfl, rfl⟩
    | some ls => rw [hf] at h; exact absurd rfl h
theorem putE_some {l : List UInt8} {ts : List (List UInt8)} (h : (findE l).2 = 0) : findB l = some (findE l).1 ∧ l.length ≤ 4000 ∧ putE l ts = if ts.length ≠ (findE l).1.length then ([], 4) else if ts.any (fun t => t.any fun c => badPut c.toNat) then ([], 1) else if 4000 < (putL l 0 [] (findE l).1 ts).length then ([], 2) else (putL l 0 [] (findE l).1 ts, 0) := by
  unfold findE at h ⊢
  unfold putE
  split
  · rename_i h4; rw [if_pos h4] at h; cases h
  · rename_i h4
    rw [if_neg h4] at h
    cases hf : findB l with
    | none => rw [hf] at h; cases h
    | some ls => exact ⟨rfl, by omega, by unfold putB; rw [hf]; rfl⟩
theorem findB_len {l : List UInt8} {ls : List LinkD} (h : findB l = some ls) : ls.length ≤ 60 := by
  rw [findB_eq] at h
  split at h
  · cases h
  · have h := Option.some.inj h
    rw [← h, links_len]
    omega
def PutRel (w w1 : World) (n m : Nat) (l : List UInt8) (ls : List LinkD) (ts : List (List UInt8)) (T : Nat) (R : List UInt8) (ov av iv : Value) (wr : World) : Prop :=
  ∃ (i at_ no co : Nat) (So : Option Addr) (out : List UInt8), ov = .slice So no co ∧ av = .int .i64 (at_ : Nat) ∧ iv = .int .i64 (i : Nat) ∧ i ≤ m ∧ no = out.length ∧ wr.ownsRow w1.heap.size 5 1 (.slice So no co) no (Lib.byteCells out) ∧
    Below w1.heap.size w1 wr ∧ LOk at_ n (ls.drop i) ∧ Hid (putL l at_ out (ls.drop i) (ts.drop i) = R) ∧ Hid ((ts.take i).any (fun t => t.any fun c => badPut c.toNat) = false) ∧ no + sumL (ts.drop i) ≤ at_ + T
set_option maxRecDepth 100000 in
set_option maxHeartbeats 1000000 in
theorem Put_any (A TA : Option Addr) (n c tn tc : Nat) (l : List UInt8) (ts : List (List UInt8)) (w : World) (hM : MaxLenOk w) (hb : By w w.heap.size A n l) (hc : n ≤ c) (hcm : c ≤ maxLen) (hts : Sl w w.heap.size 1 TA tn (ts.map str)) (hT : sumL ts ≤ 1000000000000) :
    Calls Tryz.prog 50 #[.slice A n c, .slice TA tn tc] w (PutOut (putE l ts) w) := by
  obtain ⟨i0, hi0, hz0, hz1, hz2⟩ := info_parts infoByte
  have Hi0 := Lib.hid hi0
  clear hi0
  have hnl := hb.len
  have htn : ts.length = tn := by have := hts.1; simpa using this
  have hfind := Find_any A n c l w hM hb hc hcm
  have he0 := fun h => (putE_none (l := l) (ts := ts) h)
  have he1 := fun h => (putE_some (l := l) (ts := ts) h)
  unfold FindOut at hfind
  generalize findE l = F at hfind he0 he1
  obtain ⟨ls, fe⟩ := F
  simp only at hfind he0 he1
  by_cases hfe : fe = 0
  · subst hfe
    obtain ⟨e1, e2, e3⟩ := he1 rfl
    have hok := LOk.find e1
    have hm60 := findB_len e1
    have Hfind := Lib.hid hfind
    clear he0 he1 hfind
    obtain ⟨m, hm⟩ : ∃ m, m = ls.length := ⟨_, rfl⟩
    rw [← hm] at e3 hm60
    have Hm := Lib.hid hm
    have Htn := Lib.hid htn
    rw [htn] at e3
    by_cases hlen : tn = m
    · have hne : ((tn : Int) != (m : Int)) = false := by simp; omega
      rw [if_neg (by omega)] at e3
      obtain ⟨R, hR⟩ : ∃ R, R = putL l 0 [] ls ts := ⟨_, rfl⟩
      obtain ⟨bad, hbad⟩ : ∃ bad, bad = ts.any (fun t => t.any fun c => badPut c.toNat) := ⟨_, rfl⟩
      rw [← hR, ← hbad] at e3
      have hn4 : n ≤ 4000 := by omega
      rw [hnl] at hok
      have Hnl := Lib.hid hnl
      have HR := Lib.hid hR
      have Hbad := Lib.hid hbad
      have Hlen := Lib.hid hlen
      have E3 := Lib.hid e3
      clear hR hbad hlen e1 e2 e3 hm htn hnl
      go_enter Tryz.func50, Tryz.ntmps50
      go_wp2_with fail
      refine Hfind.out.mono ?_
      rw [← Hm.out]
      rintro e w1 ⟨S, cS, rfl, hown1, hb1⟩
      have hsz1 := hb1.size
      have hbP := hb.below hb1
      have htP := hts.below hb1
      have hsl := Sl.of_own hown1
      have hcap := own_cap hown1
      clear hown1 Hfind hb hts
      go_wp2_with fail
      go_loopw [8, 9, 27] (PutRel w w1 n m l ls ts (sumL ts) R) (fun _ _ iv _ => m - (intOf iv).toNat)
      case atStart => exact ⟨0, 0, 0, 0, none, [], rfl, rfl, rfl, Nat.zero_le _, rfl, World.ownsRow_nil _ _ _ _, Below.refl _ _, hok, HR.out.symm, rfl, by simp⟩
      case round =>
        obtain ⟨i, at_, no, co, So, out, rfl, rfl, rfl, hi, hno, hrow, hbel, hok, hE, hz, hT2⟩ := hrel
        have hsz := hbel.size
        by_cases hin : i < m
        · obtain ⟨b, off, x, rfl, hbS, hdx, x0, x1, x2⟩ := (hsl.belowN hbel (Nat.le_refl _)).link i hin
          obtain ⟨tb, toff, u, rfl, htb, hu, htc⟩ := (htP.belowN hbel hsz1).at_ (k := i) (by have := Hlen.out; omega)
          have hil : i < ts.length := by have := Htn.out; have := Hlen.out; omega
          have hdt := List.drop_eq_getElem_cons hil
          obtain ⟨t, ht⟩ : ∃ t, t = ts[i] := ⟨_, rfl⟩
          rw [← ht] at hdt
          have hut : u = str t := by
            rw [List.getElem?_map, List.getElem?_eq_getElem hil, ← ht] at hu
            simpa using hu.symm
          subst hut
          rw [hdx] at hok
          obtain ⟨o1, o2, o3⟩ := hok
          have o4 := o3.le
          have o5 : x.frm ≤ n := Nat.le_trans o2 o4
          have hE' : Hid (putL l at_ out (x :: ls.drop (i + 1)) (t :: ts.drop (i + 1)) = R) := by show _ = _; rw [← hdx, ← hdt]; exact hE.out
          have hT3 : no + (t.length + sumL (ts.drop (i + 1))) ≤ at_ + sumL ts := by rw [hdt] at hT2; simpa [sumL] using hT2
          have hzt : Hid ((ts.take (i + 1)).any (fun t => t.any fun c => badPut c.toNat) = (t.any fun c => badPut c.toNat)) := by
            show _ = _
            rw [List.take_add_one, List.getElem?_eq_getElem hil, ← ht, List.any_append, hz.out]
            simp
          have Ht := Lib.hid ht
          have Hno := Lib.hid hno
          have Hdt := Lib.hid hdt
          clear hu ht hdt hdx hE hT2 hno
          have htn2 : i < tn := by have := Hlen.out; omega
          obtain ⟨W, hW⟩ : ∃ W, W = wr.alloc (.cells #[.int .i64 (x.frm : Nat), .int .i64 (x.til : Nat), str x.text] 53) := ⟨_, rfl⟩
          have htcW := (World.cell?_alloc_lt wr (.cells #[.int .i64 (x.frm : Nat), .int .i64 (x.til : Nat), str x.text] 53) ⟨tb, toff + i, none⟩ (by show tb < _; omega)).trans htc
          have hbW : Below wr.heap.size wr W := by rw [hW]; exact (Below.refl _ wr).alloc (Nat.le_refl _) _
          have hbelW := hbel.trans (hbW.mono hsz)
          have hrowW := own_below hrow hbW
          have hxb : W.heap[wr.heap.size]? = some (.cells #[.int .i64 (x.frm : Nat), .int .i64 (x.til : Nat), str x.text] 53) := by rw [hW]; exact heap_alloc_new wr _
          by_cases ht0 : t = []
          · have b0 : (t == ([] : List UInt8)) = true := by rw [ht0]; rfl
            have Ht0 := Lib.hid ht0
            clear ht0
            go_wp2_with fail
            rw [← hW]
            refine ⟨⟨i + 1, at_, no, co, So, out, rfl, rfl, by go_num, by omega, Hno.out, hrowW, hbelW, ?_, ?_, ?_, by omega⟩, by simp [intOf]; omega⟩
            · cases hlsd : ls.drop (i + 1) with
              | nil => rw [hlsd] at o3; exact Nat.le_trans o1 (Nat.le_trans o2 o3)
              | cons y l' => rw [hlsd] at o3; exact ⟨by have := o3.1; omega, o3.2.1, o3.2.2⟩
            · show _ = R
              rw [← hE'.out, putL, if_pos Ht0.out]
            · show _ = _
              rw [hzt.out, Ht0.out]; rfl
          · have b0 : (t == ([] : List UInt8)) = false := by simpa using ht0
            have Ht0 := Lib.hid ht0
            have hcp := containsPut_any t W
            clear ht0
            by_cases hbt : (t.any fun c => badPut c.toNat) = true
            · rw [hbt] at hcp
              have Hcp := Lib.hid hcp
              have hbb : bad = true := by
                rw [Hbad.out, List.any_eq_true]
                exact ⟨t, by rw [Ht.out]; exact List.getElem_mem hil, hbt⟩
              have Hbb := Lib.hid hbb
              clear hcp hbt hbb
              go_wp2_with fail
              rw [← hW]
              refine Hcp.out.mono ?_
              rintro e w3 ⟨rfl, hb3⟩
              go_wp2_with fail
              go_ret2
              rw [E3.out, Hbb.out]
              exact ⟨none, 0, rfl, World.ownsRow_nil _ _ _ _, hb1.trans ((hbelW.trans (hb3.mono hbelW.size)).mono hsz1)⟩
            · have hbf : (t.any fun c => badPut c.toNat) = false := by simpa using hbt
              rw [hbf] at hcp hzt
              have Hcp := Lib.hid hcp
              clear hcp hbt hbf
              go_wp2_with fail
              rw [← hW]
              refine Hcp.out.mono ?_
              rintro e w3 ⟨rfl, hb3⟩
              have hbel3 := hbelW.trans (hb3.mono hbelW.size)
              have hrow3 := own_below hrowW hb3
              have hxb3 := (hb3.block wr.heap.size (by rw [hW]; simp)).trans hxb
              have z0 : w3.cell? ⟨wr.heap.size, 0, none⟩ = some (.int .i64 (x.frm : Nat)) := by rw [Go.Joins.cell_of_block hxb3]; rfl
              have z1 : w3.cell? ⟨wr.heap.size, 1, none⟩ = some (.int .i64 (x.til : Nat)) := by rw [Go.Joins.cell_of_block hxb3]; rfl
              obtain ⟨xb, hxbE⟩ : ∃ xb, xb = wr.heap.size := ⟨_, rfl⟩
              have hxlt : xb < w3.heap.size := by rw [hxbE]; exact Nat.lt_of_lt_of_le (by rw [hW]; simp) hb3.size
              rw [← hxbE] at z0 z1 ⊢
              have HxbE := Lib.hid hxbE
              clear hxbE
              have htW : W.cell? ⟨tb, toff + i, none⟩ = some (str t) := by rw [hW]; exact htcW
              have htc3 := (hb3.cell (p := ⟨tb, toff + i, none⟩) (by show tb < _; rw [hW]; simp; omega)).trans htW
              clear htW htcW htc x0 x1 x2
              have hbP3 : By w3 w.heap.size A n l := hbP.belowN hbel3 hsz1
              have hmid : By w3 w.heap.size (cutA A c at_ 1) (x.frm - at_) ((l.take x.frm).drop at_) := by
                have h1 := (hbP3.cut (k := at_) (by omega) hc).upto (k := x.frm - at_) (by omega)
                rw [← List.drop_take] at h1
                exact h1
              have hmn : no ≤ at_ + sumL ts := by omega
              have h63 : no + (x.frm - at_) ≤ maxLen := by unfold maxLen; omega
              have h47 : (no + (x.frm - at_)) * 1 ≤ 140737488355328 := by omega
              have hbase3 : w1.heap.size ≤ w3.heap.size := hbel3.size
              have hS3 : w3.drew.cell? ⟨xb, 0, none⟩ = some (.int .i64 (x.frm : Nat)) ∧ w3.drew.cell? ⟨tb, toff + i, none⟩ = some (str t) := ⟨z0, htc3⟩
              have hone := oneCell_byteCells ((l.take x.frm).drop at_)
              have hxo : (Value.slice So no co).ownBlock ≠ some xb := by
                intro e
                have := (hrow.lt _ e)
                have := HxbE.out
                omega
              go_wp2_with fail
              refine wp_region_held (S := fun W' => W'.cell? ⟨xb, 0, none⟩ = some (.int .i64 (x.frm : Nat)) ∧ W'.cell? ⟨tb, toff + i, none⟩ = some (str t)) (by kernel_rfl) ?_
              change wpAnyH _ _ _ _ _ _ _ _ (World.drew w3)
              refine wpAnyH_take (i := 0) (v := ?_) rfl (by kernel_rfl) (by kernel_rfl) (by kernel_rfl) (fun _ _ _ h => h) (Or.inl ⟨by kernel_rfl, ?_⟩) hS3 ?_
              rotate_left 1
              · rintro W' ⟨q0, q1⟩; go_simp; try exact rfl
              refine wpAnyH_take (i := 1) (v := ?_) rfl (by kernel_rfl) (by kernel_rfl) (by kernel_rfl) (fun _ _ _ h => h) (Or.inl ⟨by kernel_rfl, ?_⟩) hS3 ?_
              rotate_left 1
              · rintro W' ⟨q0, q1⟩; go_simp; try exact rfl
              refine wpAnyH_take (i := 2) (v := ?_) rfl (by kernel_rfl) (by kernel_rfl) (by kernel_rfl) (fun _ _ _ h => h) (Or.inl ⟨by kernel_rfl, ?_⟩) hS3 ?_
              rotate_left 1
              · rintro W' ⟨q0, q1⟩; go_simp; try exact rfl
              refine wpAnyH_take (i := 3) (v := ?_) rfl (by kernel_rfl) (by kernel_rfl) (by kernel_rfl) (fun _ _ _ h => h) (Or.inl ⟨by kernel_rfl, ?_⟩) hS3 ?_
              rotate_left 1
              · rintro W' ⟨q0, q1⟩; go_simp; try exact rfl
              refine wpAnyH_take (i := 4) (v := ?_) rfl (by kernel_rfl) (by kernel_rfl) (by kernel_rfl) (fun _ _ _ h => h) (Or.inl ⟨by kernel_rfl, ?_⟩) hS3 ?_
              rotate_left 1
              · rintro W' ⟨q0, q1⟩; go_simp; try exact rfl
              refine wpAnyH_take (i := 5) (v := ?_) rfl (by kernel_rfl) (by kernel_rfl) (by kernel_rfl) (fun _ _ _ h => h) (Or.inl ⟨by kernel_rfl, ?_⟩) hS3 ?_
              rotate_left 1
              · rintro W' ⟨q0, q1⟩; go_simp; try exact rfl
              refine wpAnyH_take (i := 7) (v := ?_) rfl (by kernel_rfl) (by kernel_rfl) (by kernel_rfl) (fun _ _ _ h => h) (Or.inl ⟨by kernel_rfl, ?_⟩) hS3 ?_
              rotate_left 1
              · rintro W' ⟨q0, q1⟩; go_simp; try exact rfl
              refine wpAnyH_take (i := 8) (v := ?_) rfl (by kernel_rfl) (by kernel_rfl) (by kernel_rfl) (fun _ _ _ h => h) (Or.inl ⟨by kernel_rfl, ?_⟩) hS3 ?_
              rotate_left 1
              · rintro W' ⟨q0, q1⟩; go_simp; try exact rfl
              refine wpAnyH_take (i := 9) (v := ?_) rfl (by kernel_rfl) (by kernel_rfl) (by kernel_rfl) (fun _ _ _ h => h) (Or.inl ⟨by kernel_rfl, ?_⟩) hS3 ?_
              rotate_left 1
              · rintro W' ⟨q0, q1⟩; go_simp; try exact rfl
              refine wpAnyH_take (i := 10) (v := ?_) rfl (by kernel_rfl) (by kernel_rfl) (by kernel_rfl) (fun _ _ _ h => h) (Or.inl ⟨by kernel_rfl, ?_⟩) hS3 ?_
              rotate_left 1
              · rintro W' ⟨q0, q1⟩; go_simp; try exact rfl
              refine wpAnyH_all (rs := [6]) (by kernel_rfl) (by simp) ?_
              intro k hk
              simp only [List.mem_singleton] at hk
              subst hk
              go_simp
              refine wpOp_app rfl rfl _ _ 22 rfl w1.heap.size 5 i0 _ 1 1 Tryz.underlying22 Hi0.out hz0 hz1 hz2 rfl (by decide) So no co (Lib.byteCells out) (by rfl) hrow3 _ (cutA A c at_ 1) (x.frm - at_) (c - at_) (Lib.byteCells ((l.take x.frm).drop at_)) (by rfl) hmid hone h63 h47 hbase3 ?_
              intro S4 c4 w4 hown4 hb4 hg4
              have hS4 : w4.cell? ⟨xb, 0, none⟩ = some (.int .i64 (x.frm : Nat)) ∧ w4.cell? ⟨tb, toff + i, none⟩ = some (str t) :=
                ⟨(World.cell?_of_block (hg4.block xb hxlt (fun e => hxo e.symm))).trans z0, (hb4.cell (p := ⟨tb, toff + i, none⟩) (by show tb < _; omega)).trans htc3⟩
              have z14 : w4.cell? ⟨xb, 1, none⟩ = some (.int .i64 (x.til : Nat)) := (World.cell?_of_block (hg4.block xb hxlt (fun e => hxo e.symm))).trans z1
              refine ⟨hS4, ?_⟩
              have hxo4 : (Value.slice S4 (no + (x.frm - at_)) c4).ownBlock ≠ some xb := by
                intro e
                rcases hown4.2 with ⟨hv, _⟩ | ⟨g, cap, cur, hv, _, hg, _⟩
                · rw [hv] at e; cases e
                · rw [hv] at e
                  injection e with e
                  simp only at e
                  subst e
                  have h5 : w4.heap[g]? = w3.heap[g]? := hg4.block g hxlt (fun e => hxo e.symm)
                  have h6 : w3.heap[g]? = some (.cells #[.int .i64 (x.frm : Nat), .int .i64 (x.til : Nat), str x.text] 53) := by rw [HxbE.out]; exact hxb3
                  rw [h5, h6] at hg
                  injection hg with hg
                  injection hg with _ hg _
                  exact absurd hg (by decide)
              have h63b : no + (x.frm - at_) + t.length ≤ maxLen := by unfold maxLen; omega
              have h47b : no + (x.frm - at_) + t.length ≤ 140737488355328 := by omega
              refine wpAnyH_all (rs := [11]) (by kernel_rfl) (by simp) ?_
              intro k hk
              simp only [List.mem_singleton] at hk
              subst hk
              go_simp
              refine wpOp_appStr rfl rfl _ _ 22 9 rfl w1.heap.size 5 i0 Tryz.underlying22 Tryz.underlying9 Hi0.out hz0 hz1 hz2 S4 (no + (x.frm - at_)) c4 _ (by rfl) hown4 t (by rfl) h63b h47b (Nat.le_trans hbase3 hb4.size) ?_
              intro S5 c5 w5 hown5 hb5 hg5
              have hS5 : w5.cell? ⟨xb, 0, none⟩ = some (.int .i64 (x.frm : Nat)) ∧ w5.cell? ⟨tb, toff + i, none⟩ = some (str t) :=
                ⟨(World.cell?_of_block (hg5.block xb (Nat.lt_of_lt_of_le hxlt hg4.size) (fun e => hxo4 e.symm))).trans hS4.1, (hb5.cell (p := ⟨tb, toff + i, none⟩) (by show tb < _; omega)).trans hS4.2⟩
              have z15 : w5.cell? ⟨xb, 1, none⟩ = some (.int .i64 (x.til : Nat)) := (World.cell?_of_block (hg5.block xb (Nat.lt_of_lt_of_le hxlt hg4.size) (fun e => hxo4 e.symm))).trans z14
              refine ⟨hS5, ?_⟩
              refine wpAnyH_all (rs := [12]) (by kernel_rfl) (by simp) ?_
              intro k hk
              simp only [List.mem_singleton] at hk
              subst hk
              go_simp
              refine wpOp_val rfl rfl (.slice S5 (no + (x.frm - at_) + t.length) c5) (by rfl) ?_
              refine ⟨hS5, ?_⟩
              refine wpAnyH_done (by kernel_rfl) ?_ _
              have hbel5 : Below w1.heap.size w1 w5 := (hbel3.trans ((Below.drew (Below.refl _ w3)).trans hb4)).trans hb5
              rw [← byteCells_append, ← byteCells_append] at hown5
              have Hown5 := Lib.hid hown5
              clear hown5 hown4 hg4 hg5 hb4 hb5 hS4 hS5 z14 z0 z1 htc3 hS3 hmid
              go_wp2_with fail
              refine ⟨⟨i + 1, x.til, no + (x.frm - at_) + t.length, c5, S5, out ++ (l.take x.frm).drop at_ ++ t, rfl, rfl, by go_num, by omega, ?_, Hown5.out, hbel5, o3, ?_, hzt, by omega⟩, by simp [intOf]; omega⟩
              · have hlx : ((l.take x.frm).drop at_).length = x.frm - at_ := by
                  rw [List.length_drop, List.length_take, Nat.min_eq_left (by have := Hnl.out; omega)]
                rw [List.length_append, List.length_append, hlx, Hno.out]
              · show _ = R
                rw [← hE'.out, putL, if_neg Ht0.out]
        · obtain rfl : i = m := by omega
          have hE2 : out ++ l.drop at_ = R := by
            have h := hE.out
            rw [List.drop_of_length_le (by have := Hm.out; omega), List.drop_of_length_le (by have := Htn.out; have := Hlen.out; omega)] at h
            rw [← h]
            rfl
          have hb0 : bad = false := by
            rw [Hbad.out]
            have h := hz.out
            rw [List.take_of_length_le (by have := Htn.out; have := Hlen.out; omega)] at h
            exact h
          have hat : at_ ≤ n := hok.le
          have hbPr := hbP.belowN hbel hsz1
          have hcutr : By wr w.heap.size (cutA A c at_ 1) (n - at_) (l.drop at_) := hbPr.cut hat hc
          have hoR : no + (n - at_) = R.length := by rw [← hE2, List.length_append, List.length_drop, ← hno]; have := Hnl.out; omega
          have hmn : no ≤ at_ + sumL ts := by omega
          have h63 : no + (n - at_) ≤ maxLen := by unfold maxLen; omega
          have h47 : (no + (n - at_)) * 1 ≤ 140737488355328 := by omega
          have hone := oneCell_byteCells (l.drop at_)
          have HoR := Lib.hid hoR
          have HE2 := Lib.hid hE2
          have Hb0 := Lib.hid hb0
          clear hE2 hb0 hoR hno
          go_wp2_with (at_builtin; refine wpList_app rfl _ _ 22 rfl w1.heap.size 5 i0 _ 1 1 Tryz.underlying22 Hi0.out hz0 hz1 hz2 rfl (by decide) So no co (Lib.byteCells out) rfl hrow _ (cutA A c at_ 1) (n - at_) (c - at_) (Lib.byteCells (l.drop at_)) rfl hcutr hone h63 h47 hsz ?_)
          intro S5 c5 w5 hown5 hb5 hg5
          rw [← byteCells_append, HE2.out] at hown5
          have hbel5 : Below w.heap.size w w5 := hb1.trans ((hbel.trans hb5).mono hsz1)
          have Hown5 := Lib.hid hown5
          clear hown5 hg5 hb5
          by_cases h4 : 4000 < no + (n - at_)
          · go_wp2_with fail
            go_ret2
            rw [E3.out, Hb0.out, if_neg (by simp), if_pos (by rw [← HoR.out]; exact h4)]
            exact ⟨none, 0, rfl, World.ownsRow_nil _ _ _ _, hbel5⟩
          · go_wp2_with fail
            go_ret2
            rw [E3.out, Hb0.out, if_neg (by simp), if_neg (by rw [← HoR.out]; exact h4)]
            have h := Hown5.out.mono (base' := w.heap.size) hsz1
            rw [HoR.out] at h
            exact ⟨S5, c5, by rw [← HoR.out]; rfl, h, hbel5⟩
    · have hne : ((tn : Int) != (m : Int)) = true := by simp; omega
      have hR : putE l ts = ([], 4) := by rw [e3, if_pos hlen]
      rw [hR]
      clear hR e3 e1 hlen hm htn
      go_enter Tryz.func50, Tryz.ntmps50
      go_wp2_with fail
      refine Hfind.out.mono ?_
      rw [← Hm.out]
      rintro e w1 ⟨S, cS, rfl, hown1, hb1⟩
      go_wp2_with fail
      go_ret2
      exact ⟨none, 0, rfl, World.ownsRow_nil _ _ _ _, hb1⟩
  · obtain ⟨hR, rfl⟩ := he0 hfe
    rw [hR]
    have Hfind := Lib.hid hfind
    clear hR he0 he1 hfe hfind hnl htn
    go_enter Tryz.func50, Tryz.ntmps50
    go_wp2_with fail
    refine Hfind.out.mono ?_
    rintro e w1 ⟨S, cS, rfl, hown1, hb1⟩
    go_wp2_with fail
    go_ret2
    exact ⟨none, 0, rfl, World.ownsRow_nil _ _ _ _, hb1⟩
end Go.Proofs.YtlbdnohnngkapaaGreatDoor

namespace Go.Proofs.YtlbdnohnngkapaaGreatDoor

/-! ### Two lists of parts, held against one another -/
def all2 (f : PartD → PartD → Bool) : List PartD → List PartD → Bool
  | [], [] => true
  | p :: ps, q :: qs => f p q && all2 f ps qs
  | [], _ :: _ => false
  | _ :: _, [] => false
theorem all2_len (f : PartD → PartD → Bool) : ∀ (ps qs : List PartD), ps.length ≠ qs.length → all2 f ps qs = false
  | [], [], h => absurd rfl h
  | [], _ :: _, _ => rfl
  | _ :: _, [], _ => rfl
  | p :: ps, q :: qs, h => by
    rw [all2, all2_len f ps qs (by simpa using h)]; simp
theorem all2_miss (f : PartD → PartD → Bool) : ∀ (ps qs : List PartD) (i : Nat) (p q : PartD), ps[i]? = some p → qs[i]? = some q → f p q = false → all2 f ps qs = false
  | [], _, i, p, q, h, _, _ => by simp at h
  | _ :: _, [], i, p, q, _, h, _ => by simp at h
  | a :: ps, b :: qs, 0, p, q, h1, h2, h3 => by
    simp at h1 h2
    rw [all2, h1, h2, h3]; rfl
  | a :: ps, b :: qs, i + 1, p, q, h1, h2, h3 => by
    rw [all2, all2_miss f ps qs i p q (by simpa using h1) (by simpa using h2) h3]; simp
theorem all2_hit (f : PartD → PartD → Bool) : ∀ (ps qs : List PartD), ps.length = qs.length → (∀ (i : Nat) (p q : PartD), ps[i]? = some p → qs[i]? = some q → f p q = true) → all2 f ps qs = true
  | [], [], _, _ => rfl
  | [], _ :: _, h, _ => by simp at h
  | _ :: _, [], h, _ => by simp at h
  | a :: ps, b :: qs, h, h2 => by
    rw [all2, h2 0 a b rfl rfl, all2_hit f ps qs (by simpa using h) (fun i p q h3 h4 => h2 (i + 1) p q (by simpa using h3) (by simpa using h4))]; rfl
theorem all2_congr (f g : PartD → PartD → Bool) : ∀ (ps qs : List PartD), (∀ p ∈ ps, ∀ q ∈ qs, f p q = g p q) → all2 f ps qs = all2 g ps qs
  | [], [], _ => rfl
  | [], _ :: _, _ => rfl
  | _ :: _, [], _ => rfl
  | a :: ps, b :: qs, h => by
    rw [all2, all2, h a (by simp) b (by simp), all2_congr f g ps qs (fun p hp q hq => h p (by simp [hp]) q (by simp [hq]))]
/-- part.Same, all tests by themselves. -/
def oneSame (p q : PartD) : Bool := p.type == q.type && (p.cs == q.cs && (p.id == q.id && (p.loc == q.loc && (p.how == q.how && p.body == q.body))))
mutual
def sameD : PartD → PartD → Bool
  | ⟨t, cs, id, loc, how, body, parts⟩, ⟨t', cs', id', loc', how', body', parts'⟩ => (t == t' && (cs == cs' && (id == id' && (loc == loc' && (how == how' && body == body'))))) && samesD parts parts'
def samesD : List PartD → List PartD → Bool
  | [], [] => true
  | p :: ps, q :: qs => sameD p q && samesD ps qs
  | [], _ :: _ => false
  | _ :: _, [] => false
end
theorem samesD_eq : ∀ (ps qs : List PartD), samesD ps qs = all2 sameD ps qs
  | [], [] => by rw [samesD, all2]
  | [], _ :: _ => by rw [samesD, all2]
  | _ :: _, [] => by rw [samesD, all2]
  | p :: ps, q :: qs => by rw [samesD, all2, samesD_eq ps qs]
theorem sameD_eq (p q : PartD) : sameD p q = (oneSame p q && all2 sameD p.parts q.parts) := by
  cases p; cases q; rw [sameD, samesD_eq]; rfl
mutual
theorem sameD_refl : ∀ (p : PartD), sameD p p = true
  | ⟨t, cs, id, loc, how, body, parts⟩ => by rw [sameD, samesD_refl parts]; simp
theorem samesD_refl : ∀ (ps : List PartD), samesD ps ps = true
  | [] => by rw [samesD]
  | p :: ps => by rw [samesD, sameD_refl p, samesD_refl ps]; rfl
end
theorem all2_refl (ps : List PartD) : all2 sameD ps ps = true := by rw [← samesD_eq]; exact samesD_refl ps

/-! ### A part put into another one -/
theorem firstErr_of : ∀ (L : List PartD), (∀ q ∈ L, chkD q = 0) → firstErr L = 0
  | [], _ => rfl
  | x :: L, h => by
    unfold firstErr
    rw [if_pos (h x (by simp))]
    exact firstErr_of L fun q hq => h q (by simp [hq])
theorem cntsD_mono (k : Nat) (ih : ∀ p c, cntD k p = some c → cntD (k + 1) p = some c) : ∀ (ps : List PartD) (n c : Nat), cntsD k n ps = some c → cntsD (k + 1) n ps = some c := by
  intro ps
  induction ps with
  | nil => intro n c h; rw [cntsD] at h ⊢; exact h
  | cons p ps ih2 =>
    intro n c h
    rw [cntsD_cons] at h ⊢
    cases hc : cntD k p with
    | none => rw [hc] at h; cases h
    | some d =>
      rw [hc] at h
      rw [ih p d hc]
      simp only [cntNext] at h ⊢
      split at h
      · cases h
      · rename_i h0
        rw [if_neg h0]
        exact ih2 _ _ h
theorem cntD_mono : ∀ (k : Nat) (p : PartD) (c : Nat), cntD k p = some c → cntD (k + 1) p = some c := by
  intro k
  induction k with
  | zero => intro p c h; obtain ⟨t, cs, id, loc, how, body, parts⟩ := p; rw [cntD] at h; cases h
  | succ k ih =>
    intro p c h
    obtain ⟨t, cs, id, loc, how, body, parts⟩ := p
    rw [cntD] at h ⊢
    exact cntsD_mono k ih parts 1 c h
def wrapD (p q : PartD) : PartD := { type := [109, 117, 108, 116, 105, 112, 97, 114, 116, 47, 109, 105, 120, 101, 100], cs := [], id := [], loc := [], how := 0, body := [], parts := [p, q] }
theorem flat_wrap (p q : PartD) : flatD (wrapD p q) = wrapD p q :: (flatD p ++ flatD q) := by
  rw [flatD_eq]; simp only [wrapD, flatsD, List.append_nil]
theorem check_parts (p q : PartD) (h : checkD (wrapD p q) = 0) : checkD p = 0 ∧ checkD q = 0 := by
  cases hc : cntD 3 (wrapD p q) with
  | none => rw [checkD_none _ hc] at h; cases h
  | some c =>
    rw [checkD_some _ c hc, flat_wrap] at h
    have hall : ∀ (L : List PartD), firstErr L = 0 → ∀ q ∈ L, chkD q = 0 := by
      intro L
      induction L with
      | nil => simp
      | cons x L ih =>
        intro h q hq
        unfold firstErr at h
        split at h
        · rename_i h0
          rcases List.mem_cons.1 hq with rfl | hq
          · exact h0
          · exact ih h q hq
        · rename_i h0; exact absurd h h0
    have hL := hall _ h
    have hp1 := firstErr_of (flatD p) fun x hx => hL x (by simp [hx])
    have hq1 := firstErr_of (flatD q) fun x hx => hL x (by simp [hx])
    rw [wrapD, cntD, cntsD_cons] at hc
    cases h1 : cntD 2 p with
    | none => rw [h1] at hc; cases hc
    | some a =>
      rw [h1] at hc
      simp only [cntNext] at hc
      split at hc
      · cases hc
      · rw [cntsD_cons] at hc
        cases h2 : cntD 2 q with
        | none => rw [h2] at hc; cases hc
        | some b =>
          exact ⟨by rw [checkD_some p a (cntD_mono 2 p a h1)]; exact hp1, by rw [checkD_some q b (cntD_mono 2 q b h2)]; exact hq1⟩
mutual
theorem wths_shift (d : Nat) : ∀ (ps : List PartD) (n me : Nat), wthsD ps (n + d) (me + d) = (wthsD ps n me).map (fun x => x + (d : Int))
  | [], _, _ => by rw [wthsD, wthsD]; rfl
  | p :: ps, n, me => by
    rw [wthsD, wthsD, List.map_append, ← wths_shift d ps, wth_shift d p n me (me : Int), show n + d + (flatD p).length = n + (flatD p).length + d from by omega, wthD_eq p n (me : Int)]
    simp
theorem wth_shift (d : Nat) : ∀ (p : PartD) (n me : Nat) (inn : Int), wthD p (n + d) ((me + d : Nat) : Int) = ((me : Int) + d) :: ((wthD p n inn).drop 1).map (fun x => x + (d : Int))
  | ⟨t, cs, id, loc, how, body, parts⟩, n, me, inn => by
    rw [wthD, wthD, show n + d + 1 = n + 1 + d from by omega, wths_shift d parts]
    simp
end
end Go.Proofs.YtlbdnohnngkapaaGreatDoor

namespace Go.Proofs.YtlbdnohnngkapaaGreatDoor
open Go.RowKit

/-! ### What package rewrite computes -/
structure NameD where
  part : Int
  name : List UInt8
def nameCells (x : NameD) : List Value := [.int .i64 x.part, str x.name]
def badN (x : Nat) : Bool := (decide (x < 97) || decide (122 < x)) && ((decide (x < 48) || decide (57 < x)) && x != 46)
def nameB (s : List UInt8) : Bool := !(s == []) && (decide (s.length ≤ 30) && (decide (97 ≤ nth s 0) && (decide (nth s 0 ≤ 122) && !s.any (fun b => badN b.toNat))))
def clashN (n : NameD) (ahead : List NameD) : Bool := ahead.any (fun m => m.name == n.name || decide (n.part ≤ m.part))
def namesF (parts : Int) : List NameD → List NameD → Nat
  | _, [] => 0
  | ahead, n :: r => if n.part < 0 ∨ parts ≤ n.part then 5 else if nameB n.name = false then 1 else if clashN n ahead then 6 else namesF parts (ahead ++ [n]) r
def ofN : List NameD → Int → List UInt8
  | [], _ => []
  | n :: r, k => if n.part = k then n.name else ofN r k
def textsN (ns : List NameD) (gs : List GoalD) (i : Nat) : List (List UInt8) := (gs.filter (fun g => g.part == i)).map (fun g => ofN ns g.find)
def bodyN (ns : List NameD) (gs : List GoalD) (x : PartD) (i : Nat) : List UInt8 × Nat := if textsN ns gs i = [] then (x.body, 0) else putE x.body (textsN ns gs i)
def bodiesF (ns : List NameD) (gs : List GoalD) : List PartD → Nat → List (List UInt8) → List (List UInt8) × Nat
  | [], _, out => (out, 0)
  | x :: xs, i, out => if (bodyN ns gs x i).2 = 0 then bodiesF ns gs xs (i + 1) (out ++ [(bodyN ns gs x i).1]) else ([], (bodyN ns gs x i).2)
mutual
def putD : PartD → List (List UInt8) → PartD
  | ⟨t, cs, id, loc, how, _, parts⟩, bs => ⟨t, cs, id, loc, how, bs.headD [], putsD parts (bs.drop 1)⟩
def putsD : List PartD → List (List UInt8) → List PartD
  | [], _ => []
  | p :: ps, bs => putD p bs :: putsD ps (bs.drop (flatD p).length)
end
def zeroP : PartD := ⟨[], [], [], [], 0, [], []⟩
def namesE (p : PartD) (ns : List NameD) : PartD × Nat :=
  if checkD p ≠ 0 then (zeroP, checkD p) else if namesF (flatD p).length [] ns ≠ 0 then (zeroP, namesF (flatD p).length [] ns) else if (goalsE p).2 ≠ 0 then (zeroP, (goalsE p).2)
  else if (bodiesF ns (goalsE p).1 (flatD p) 0 []).2 ≠ 0 then (zeroP, (bodiesF ns (goalsE p).1 (flatD p) 0 []).2) else (putD p (bodiesF ns (goalsE p).1 (flatD p) 0 []).1, 0)

/-! ### Goals, page by page -/
theorem goalsF_old (F0 : List PartD) (W0 : List (List UInt8)) : ∀ (F : List PartD) (W : List (List UInt8)) (i : Nat) (out G : List GoalD), goalsF F0 W0 F W i out = some G → ∀ m, m < i → G.filter (fun g => g.part == m) = out.filter (fun g => g.part == m)
  | [], _, i, out, G, h, m, hm => by
    rw [goalsF] at h
    injection h with h
    rw [h]
  | _ :: _, [], i, out, G, h, m, hm => by
    rw [goalsF] at h
    injection h with h
    rw [h]
  | x :: xs, s :: ss, i, out, G, h, m, hm => by
    rw [goalsF] at h
    split at h
    · split at h
      · rw [goalsF_old F0 W0 xs ss (i + 1) _ G h m (by omega), List.filter_append]
        have : ((findE x.body).1.map (goalOf F0 W0 i (fromG s))).filter (fun g => g.part == m) = [] := by
          rw [List.filter_eq_nil_iff]
          intro g hg
          obtain ⟨y, _, rfl⟩ := List.mem_map.1 hg
          simp only [goalOf, beq_iff_eq]
          omega
        rw [this, List.append_nil]
      · cases h
    · exact goalsF_old F0 W0 xs ss (i + 1) out G h m (by omega)
theorem goalsF_new (F0 : List PartD) (W0 : List (List UInt8)) : ∀ (F : List PartD) (W : List (List UInt8)) (i : Nat) (out G : List GoalD), F.length = W.length → goalsF F0 W0 F W i out = some G → ∀ m x, F[m]? = some x →
    ∃ h, W[m]? = some h ∧ (x.type = htmlB → (findE x.body).2 = 0) ∧ G.filter (fun g => g.part == i + m) = out.filter (fun g => g.part == i + m) ++ (if x.type = htmlB then (findE x.body).1.map (goalOf F0 W0 (i + m) (fromG h)) else [])
  | [], _, i, out, G, _, h, m, x, hx => by simp at hx
  | _ :: _, [], i, out, G, hl, h, m, x, hx => by simp at hl
  | y :: xs, s :: ss, i, out, G, hl, h, 0, x, hx => by
    simp at hx
    subst hx
    rw [goalsF] at h
    refine ⟨s, rfl, ?_⟩
    rw [Nat.add_zero]
    split at h
    · rename_i ht
      split at h
      · rename_i hf
        refine ⟨fun _ => hf, ?_⟩
        rw [goalsF_old F0 W0 xs ss (i + 1) _ G h i (by omega), List.filter_append, if_pos ht]
        congr 1
        rw [List.filter_eq_self]
        intro g hg
        obtain ⟨y, _, rfl⟩ := List.mem_map.1 hg
        simp [goalOf]
      · cases h
    · rename_i ht
      refine ⟨fun e => absurd e ht, ?_⟩
      rw [goalsF_old F0 W0 xs ss (i + 1) out G h i (by omega), if_neg ht, List.append_nil]
  | y :: xs, s :: ss, i, out, G, hl, h, m + 1, x, hx => by
    rw [goalsF] at h
    have hl' : xs.length = ss.length := by simpa using hl
    have hx' : xs[m]? = some x := by simpa using hx
    split at h
    · split at h
      · obtain ⟨h', h1, h2, h3⟩ := goalsF_new F0 W0 xs ss (i + 1) _ G hl' h m x hx'
        refine ⟨h', by simpa using h1, h2, ?_⟩
        rw [show i + (m + 1) = i + 1 + m by omega, h3, List.filter_append]
        have : ((findE y.body).1.map (goalOf F0 W0 i (fromG s))).filter (fun g => g.part == i + 1 + m) = [] := by
          rw [List.filter_eq_nil_iff]
          intro g hg
          obtain ⟨y, _, rfl⟩ := List.mem_map.1 hg
          simp only [goalOf, beq_iff_eq]
          omega
        rw [this, List.append_nil]
      · cases h
    · obtain ⟨h', h1, h2, h3⟩ := goalsF_new F0 W0 xs ss (i + 1) out G hl' h m x hx'
      refine ⟨h', by simpa using h1, h2, ?_⟩
      rw [show i + (m + 1) = i + 1 + m by omega, h3]
/-- The goals of one part. -/
theorem goals_of (p : PartD) (G : List GoalD) (h : goalsD p = some G) (i : Nat) (x : PartD) (hx : (flatD p)[i]? = some x) :
    ∃ s, (whereD p)[i]? = some s ∧ (x.type = htmlB → (findE x.body).2 = 0) ∧ G.filter (fun g => g.part == i) = if x.type = htmlB then (findE x.body).1.map (goalOf (flatD p) (whereD p) i (fromG s)) else [] := by
  obtain ⟨s, h1, h2, h3⟩ := goalsF_new (flatD p) (whereD p) (flatD p) (whereD p) 0 [] G (whereD_len p).symm h i x hx
  rw [Nat.zero_add] at h3
  exact ⟨s, h1, h2, by simpa using h3⟩

/-! ### Bodies put into a tree -/
theorem bodiesF_len (ns : List NameD) (gs : List GoalD) : ∀ (F : List PartD) (i : Nat) (out bs : List (List UInt8)), bodiesF ns gs F i out = (bs, 0) → bs.length = out.length + F.length
  | [], i, out, bs, h => by
    rw [bodiesF] at h
    injection h with h _
    subst h
    simp
  | x :: xs, i, out, bs, h => by
    rw [bodiesF] at h
    split at h
    · rw [bodiesF_len ns gs xs (i + 1) _ bs h]
      simp
      omega
    · rename_i h0
      injection h with _ h
      exact absurd h h0
theorem bodiesF_pre (ns : List NameD) (gs : List GoalD) : ∀ (F : List PartD) (i : Nat) (out bs : List (List UInt8)), bodiesF ns gs F i out = (bs, 0) → bs.take out.length = out
  | [], i, out, bs, h => by
    rw [bodiesF] at h
    injection h with h _
    subst h
    simp
  | x :: xs, i, out, bs, h => by
    rw [bodiesF] at h
    split at h
    · have h1 := bodiesF_pre ns gs xs (i + 1) _ bs h
      have := congrArg (List.take out.length) h1
      rw [List.take_take] at this
      simpa [Nat.min_eq_left] using this
    · rename_i h0
      injection h with _ h
      exact absurd h h0
theorem bodiesF_at (ns : List NameD) (gs : List GoalD) : ∀ (F : List PartD) (i : Nat) (out bs : List (List UInt8)), bodiesF ns gs F i out = (bs, 0) → ∀ m x, F[m]? = some x → bodyN ns gs x (i + m) = (bs.getD (out.length + m) [], 0)
  | [], i, out, bs, h, m, x, hx => by simp at hx
  | y :: xs, i, out, bs, h, 0, x, hx => by
    simp at hx
    subst hx
    rw [bodiesF] at h
    split at h
    · rename_i h0
      have h1 := congrArg (·[out.length]?) (bodiesF_pre ns gs xs (i + 1) _ bs h)
      rw [Nat.add_zero, Nat.add_zero, List.getD_eq_getElem?_getD]
      have h2 : bs[out.length]? = some (bodyN ns gs y i).1 := by simpa [List.getElem?_take] using h1
      rw [h2]
      exact Prod.ext rfl h0
    · rename_i h0
      injection h with _ h
      exact absurd h h0
  | y :: xs, i, out, bs, h, m + 1, x, hx => by
    rw [bodiesF] at h
    split at h
    · have h1 := bodiesF_at ns gs xs (i + 1) _ bs h m x (by simpa using hx)
      rw [List.length_append, List.length_singleton, show i + 1 + m = i + (m + 1) by omega, show out.length + 1 + m = out.length + (m + 1) by omega] at h1
      exact h1
    · rename_i h0
      injection h with _ h
      exact absurd h h0
theorem bodiesF_same (ns : List NameD) (gs : List GoalD) : ∀ (F : List PartD) (i : Nat) (out : List (List UInt8)), (∀ m x, F[m]? = some x → bodyN ns gs x (i + m) = (x.body, 0)) → bodiesF ns gs F i out = (out ++ F.map (·.body), 0)
  | [], i, out, h => by rw [bodiesF]; simp
  | x :: xs, i, out, h => by
    have h0 := h 0 x rfl
    rw [Nat.add_zero] at h0
    rw [bodiesF, h0, if_pos rfl, bodiesF_same ns gs xs (i + 1) _ (fun m y hy => by have := h (m + 1) y (by simpa using hy); rwa [show i + (m + 1) = i + 1 + m by omega] at this)]
    simp
mutual
theorem putD_same : ∀ (p : PartD) (r : List (List UInt8)), putD p ((flatD p).map (·.body) ++ r) = p
  | ⟨t, cs, id, loc, how, body, parts⟩, r => by
    rw [flatD, List.map_cons, List.cons_append, putD, List.headD_cons, List.drop_one, List.tail_cons, putsD_same parts r]
theorem putsD_same : ∀ (ps : List PartD) (r : List (List UInt8)), putsD ps ((flatsD ps).map (·.body) ++ r) = ps
  | [], r => by rw [putsD]
  | p :: ps, r => by
    have hl : (flatD p).length = ((flatD p).map (fun x : PartD => x.body)).length := by rw [List.length_map]
    rw [flatsD, List.map_append, List.append_assoc, putsD, putD_same p, hl, List.drop_left, putsD_same ps r]
end
theorem zip_app {α β γ : Type} (f : α → β → γ) : ∀ (a b : List α) (l : List β), a.length ≤ l.length → List.zipWith f (a ++ b) l = List.zipWith f a l ++ List.zipWith f b (l.drop a.length)
  | [], b, l, _ => by simp
  | x :: a, b, [], h => by simp at h
  | x :: a, b, y :: l, h => by
    rw [List.cons_append, List.zipWith_cons_cons, List.zipWith_cons_cons, zip_app f a b l (by simpa using h), List.length_cons, List.drop_succ_cons, List.cons_append]
end Go.Proofs.YtlbdnohnngkapaaGreatDoor

namespace Go.Proofs.YtlbdnohnngkapaaGreatDoor
open Go.RowKit

def nameC (ns : List NameD) : List Value := ns.flatMap nameCells
theorem nameC_app (a b : List NameD) : nameC (a ++ b) = nameC a ++ nameC b := by simp [nameC]
theorem nameC_len (l : List NameD) : (nameC l).length = l.length * 2 := by
  induction l with
  | nil => rfl
  | cons g l ih =>
    have : nameC (g :: l) = nameCells g ++ nameC l := rfl
    rw [this, List.length_append, ih]
    simp [nameCells]
    omega
theorem nameC_one (l : List NameD) : ∀ u ∈ nameC l, u.oneCell' = true := by
  intro u hu
  obtain ⟨g, _, hg⟩ := List.mem_flatMap.1 hu
  simp only [nameCells, List.mem_cons, List.not_mem_nil, or_false] at hg
  rcases hg with rfl | rfl <;> rfl
theorem Sl.name {w : World} {B n : Nat} {A : Option Addr} {ns : List NameD} (h : Sl w B 2 A n (nameC ns)) (i : Nat) (hi : i < n) :
    ∃ b off x, A = some ⟨b, off, none⟩ ∧ b < B ∧ ns.drop i = x :: ns.drop (i + 1) ∧ w.cell? ⟨b, off + i * 2, none⟩ = some (.int .i64 x.part) ∧ w.cell? ⟨b, off + i * 2 + 1, none⟩ = some (str x.name) := by
  obtain ⟨b, off, hA, hb, hc⟩ := h.2 (by omega)
  have hl : ns.length = n := by have := h.1; rw [nameC_len] at this; omega
  have hil : i < ns.length := by omega
  have hd := List.drop_eq_getElem_cons hil
  have hsplit : nameC ns = nameC (ns.take i) ++ nameC (ns.drop i) := by rw [← nameC_app, List.take_append_drop]
  have hat : ∀ k, k < 2 → (nameC ns)[i * 2 + k]? = [Value.int .i64 ns[i].part, str ns[i].name][k]? := by
    intro k hk
    have e : (nameC (ns.take i)).length = i * 2 := by rw [nameC_len, List.length_take, Nat.min_eq_left (by omega)]
    rw [hsplit, List.getElem?_append_right (by omega), e, Nat.add_sub_cancel_left, hd]
    rw [show nameC (ns[i] :: ns.drop (i + 1)) = [Value.int .i64 ns[i].part, str ns[i].name] ++ nameC (ns.drop (i + 1)) from rfl, List.getElem?_append_left (by simpa using hk)]
  exact ⟨b, off, ns[i], hA, hb, hd, hc _ _ (hat 0 (by omega)), hc _ _ (hat 1 (by omega))⟩
def NamesOk (ns : List NameD) : Prop := ∀ x ∈ ns, x.name.length ≤ maxLen ∧ -9223372036854775808 ≤ x.part ∧ x.part ≤ 9223372036854775807
set_option maxRecDepth 100000 in
set_option maxHeartbeats 800000 in
theorem name1_any (x : Nat) (hx : x < 256) (w : World) : Calls Tryz.prog 144 #[.int .u8 (x : Int)] w fun e w' => e = .returned (.bool (badN x)) ∧ w = w' := by
  go_enter Tryz.func144, Tryz.ntmps144
  go_wp2_with fail
  all_goals
    go_ret
    refine ⟨congrArg (fun b => Ending.returned (.bool b)) (?_ : _ = badN x), rfl⟩
    rw [Bool.eq_iff_iff]
    simp [badN]
    try omega
theorem predNm (w : World) : PredB 144 #[] badN w := fun W x hx _ =>
  (name1_any x hx W).mono fun e w' ⟨h1, h2⟩ => ⟨h1, h2 ▸ Below.refl _ _⟩
set_option maxRecDepth 100000 in
set_option maxHeartbeats 800000 in
theorem name_any (l : List UInt8) (w : World) (hl : l.length ≤ maxLen) : Calls Tryz.prog 75 #[str l] w fun e w' => e = .returned (.bool (nameB l)) ∧ Below w.heap.size w w' := by
  unfold maxLen at hl
  obtain ⟨r, hr⟩ : ∃ r, r = nameB l := ⟨_, rfl⟩
  rw [← hr]
  unfold nameB at hr
  by_cases h0 : l = []
  · have d0 : (l == []) = true := by rw [h0]; rfl
    rw [d0] at hr
    simp only [Bool.not_true, Bool.false_and] at hr
    subst hr
    have H0 := Lib.hid h0
    clear h0
    go_enter Tryz.func75, Tryz.ntmps75
    go_wp2_with fail
    go_ret
    exact ⟨rfl, Below.refl _ _⟩
  · have d0 : (l == []) = false := by simpa using h0
    have hpos : 0 < l.length := List.length_pos_iff.2 h0
    have hpos' : (0 : Int) < l.length := by omega
    rw [d0] at hr
    have H0 := Lib.hid h0
    clear h0
    simp only [Bool.not_false, Bool.true_and] at hr
    by_cases h30 : l.length ≤ 30
    · have d30 : decide ((l.length : Int) ≤ 30) = true := by simp; omega
      rw [decide_eq_true h30, Bool.true_and] at hr
      by_cases h97 : 97 ≤ nth l 0
      · have d97 : decide ((97 : Int) ≤ (nth l 0 : Int)) = true := by simp; omega
        rw [decide_eq_true h97, Bool.true_and] at hr
        by_cases h122 : nth l 0 ≤ 122
        · have d122 : decide ((nth l 0 : Int) ≤ 122) = true := by simp; omega
          rw [decide_eq_true h122, Bool.true_and] at hr
          obtain ⟨A, c, w1, hconv, hby, hnc, hb1, hlt1⟩ := run_toBytes (P := Tryz.prog) w 9 22 5 l Tryz.underlying9 Tryz.underlying22 Tryz.underlying5
          have hcf := ContainsFunc_bytes 144 #[] (enters_of Tryz.func144 (by kernel_rfl) rfl) badN A l.length c _ l w1 hby (Nat.le_refl _) (by unfold maxLen; omega) (predNm w1)
          generalize l.any (fun b => badN b.toNat) = r' at hcf hr
          have Hcf := Lib.hid hcf
          have HR := Lib.hid hr
          clear hcf hby hr
          go_enter Tryz.func75, Tryz.ntmps75
          go_wp2_with fail
          refine Hcf.out.mono ?_
          rintro e w2 ⟨rfl, hb2⟩
          go_wp2_with fail
          go_ret
          exact ⟨by rw [HR.out]; rfl, hb1.trans (hb2.mono hb1.size)⟩
        · have d122 : decide ((nth l 0 : Int) ≤ 122) = false := by simp; omega
          rw [decide_eq_false h122, Bool.false_and] at hr
          subst hr
          go_enter Tryz.func75, Tryz.ntmps75
          go_wp2_with fail
          go_ret
          exact ⟨rfl, Below.refl _ _⟩
      · have d97 : decide ((97 : Int) ≤ (nth l 0 : Int)) = false := by simp; omega
        rw [decide_eq_false h97, Bool.false_and] at hr
        subst hr
        go_enter Tryz.func75, Tryz.ntmps75
        go_wp2_with fail
        go_ret
        exact ⟨rfl, Below.refl _ _⟩
    · have d30 : decide ((l.length : Int) ≤ 30) = false := by simp; omega
      rw [decide_eq_false h30, Bool.false_and] at hr
      subst hr
      go_enter Tryz.func75, Tryz.ntmps75
      go_wp2_with fail
      go_ret
      exact ⟨rfl, Below.refl _ _⟩
set_option maxRecDepth 100000 in
set_option maxHeartbeats 2000000 in
theorem of_any (A : Option Addr) (n c : Nat) (ns : List NameD) (k : Int) (w : World) (h : Sl w w.heap.size 2 A n (nameC ns)) (hn : n ≤ maxLen) :
    Calls Tryz.prog 66 #[.slice A n c, .int .i64 k] w fun e w' => e = .returned (str (ofN ns k)) ∧ Below w.heap.size w w' := by
  unfold maxLen at hn
  have hl : ns.length = n := by have := h.1; rw [nameC_len] at this; omega
  obtain ⟨R, hR⟩ : ∃ R, R = ofN ns k := ⟨_, rfl⟩
  rw [← hR]
  have H := Lib.hid h
  have HR := Lib.hid hR
  have Hl := Lib.hid hl
  clear h hR hl
  go_enter Tryz.func66, Tryz.ntmps66
  go_wp2_with fail
  go_loopw [9] (fun iv wr => ∃ i : Nat, iv = .int .i64 (i : Nat) ∧ i ≤ n ∧ Below w.heap.size w wr ∧ Hid (ofN (ns.drop i) k = R)) (fun iv _ => n - (intOf iv).toNat)
  case atStart => exact ⟨0, rfl, Nat.zero_le _, Below.refl _ _, Lib.hid (by rw [List.drop_zero]; exact HR.out.symm)⟩
  case round =>
    obtain ⟨i, rfl, hi, hbel, HS⟩ := hrel
    by_cases hin : i < n
    · obtain ⟨b, off, x, rfl, hb, hd, x0, x1⟩ := (Sl.below H.out hbel).name i hin
      have hs := HS.out
      rw [hd, ofN] at hs
      have hbelA := hbel.alloc hbel.size (.cells #[.int .i64 x.part, str x.name] 79)
      by_cases hk : x.part = k
      · have e1 : (x.part == k) = true := by simpa using hk
        rw [if_pos hk] at hs
        have Hs := Lib.hid hs
        have Hk := Lib.hid hk
        clear hs hk hd
        go_wp2_with fail
        go_ret
        exact ⟨by rw [Hs.out]; rfl, hbelA⟩
      · have e1 : (x.part == k) = false := by simpa using hk
        rw [if_neg hk] at hs
        have Hs := Lib.hid hs
        have Hk := Lib.hid hk
        clear hs hk hd
        go_wp2_with fail
        exact ⟨⟨i + 1, by go_num, by omega, hbelA, Hs⟩, by simp [intOf]; omega⟩
    · obtain rfl : i = n := by omega
      have hs := HS.out
      rw [List.drop_of_length_le (by rw [Hl.out]; exact Nat.le_refl _), ofN] at hs
      have Hs := Lib.hid hs
      clear hs
      go_wp2_with fail
      go_ret
      exact ⟨by rw [← Hs.out]; rfl, hbel⟩
theorem upto_Name (X : World) (b off n c i : Nat) (hi : i ≤ n) (hc : n ≤ c) : (Instr.slice 26 (.slice (some ⟨b, off, none⟩) n c) none (some (.int .i64 (i : Int))) none).run Tryz.prog X = .ok (.slice (some ⟨b, off, none⟩) i c) X := by
  rw [run_upto X _ _ 2 Tryz.underlying26 (Tryz.sizeOf79 X) (some ⟨b, off, none⟩) n c .i64 i (by omega) (by omega) hc]
  unfold cutA
  split
  · rfl
  · rw [Option.map_some, Addr.add_lit]
    simp
theorem clash_cons (x y : NameD) (r : List NameD) : clashN x (y :: r) = ((y.name == x.name || decide (x.part ≤ y.part)) || clashN x r) := by simp [clashN]
theorem drop_takeN {ns : List NameD} {i j : Nat} {y : NameD} (hj : j < i) (h : ns.drop j = y :: ns.drop (j + 1)) : (ns.take i).drop j = y :: (ns.take i).drop (j + 1) := by
  rw [List.drop_take, List.drop_take, h, show i - j = (i - (j + 1)) + 1 by omega, List.take_succ_cons]
def CkRel (n : Nat) (ns : List NameD) (parts : Int) (R : Nat) (w : World) (iv : Value) (wr : World) : Prop :=
  ∃ i : Nat, iv = .int .i64 (i : Nat) ∧ i ≤ n ∧ Below w.heap.size w wr ∧ Hid (namesF parts (ns.take i) (ns.drop i) = R)
def CkRel2 (i : Nat) (ahead : List NameD) (x : NameD) (cl : Bool) (w1 : World) (jv : Value) (wr : World) : Prop :=
  ∃ j : Nat, jv = .int .i64 (j : Nat) ∧ j ≤ i ∧ Below w1.heap.size w1 wr ∧ Hid (clashN x (ahead.drop j) = cl)
set_option maxRecDepth 100000 in
set_option maxHeartbeats 4000000 in
theorem CheckNames_any (A : Option Addr) (n c : Nat) (ns : List NameD) (parts : Int) (w : World) (h : Sl w w.heap.size 2 A n (nameC ns)) (hn : n ≤ c) (hc : c ≤ maxLen) (hok : NamesOk ns) :
    Calls Tryz.prog 18 #[.slice A n c, .int .i64 parts] w fun e w' => e = .returned (.int .i64 (namesF parts [] ns : Nat)) ∧ Below w.heap.size w w' := by
  unfold maxLen at hc
  have hl : ns.length = n := by have := h.1; rw [nameC_len] at this; omega
  obtain ⟨R, hR⟩ : ∃ R, R = namesF parts [] ns := ⟨_, rfl⟩
  rw [← hR]
  have H := Lib.hid h
  have HR := Lib.hid hR
  have Hl := Lib.hid hl
  have Hok := Lib.hid hok
  clear h hR hl hok
  go_enter Tryz.func18, Tryz.ntmps18
  go_wp2_with fail
  go_loopw [11] (CkRel n ns parts R w) (fun iv _ => n - (intOf iv).toNat)
  case atStart => exact ⟨0, rfl, Nat.zero_le _, Below.refl _ _, Lib.hid (by rw [List.drop_zero, List.take_zero]; exact HR.out.symm)⟩
  case round =>
    obtain ⟨i, rfl, hi, hbel, HS⟩ := hrel
    by_cases hin : i < n
    · obtain ⟨b, off, x, rfl, hb, hd, x0, x1⟩ := (Sl.below H.out hbel).name i hin
      have hxm : x ∈ ns := List.mem_of_mem_drop (by rw [hd]; simp)
      have hxk := Hok.out x hxm
      have hs := HS.out
      have htk : ns.take i ++ [x] = ns.take (i + 1) := by
        have := congrArg (fun l => l[0]?) hd
        simp at this
        rw [List.take_add_one, this]
        rfl
      rw [hd, namesF, htk] at hs
      have Hs := Lib.hid hs
      have hsl := fun X => upto_Name X b off n c i (by omega) hn
      have KN := Lib.hid (fun X => name_any x.name X hxk.1)
      obtain ⟨W1, hW1⟩ : ∃ W1, W1 = wr.alloc (.cells #[.int .i64 x.part, str x.name] 79) := ⟨_, rfl⟩
      have hb1 : Below wr.heap.size wr W1 := by rw [hW1]; exact (Below.refl _ _).alloc (Nat.le_refl _) _
      have hnb : W1.heap[wr.heap.size]? = some (.cells #[.int .i64 x.part, str x.name] 79) := by rw [hW1]; exact heap_alloc_new wr _
      have hbel1 := hbel.trans (hb1.mono hbel.size)
      have c0 : W1.cell? ⟨wr.heap.size, 0, none⟩ = some (.int .i64 x.part) := by unfold World.cell?; rw [hnb]; rfl
      have c1 : W1.cell? ⟨wr.heap.size, 1, none⟩ = some (str x.name) := by unfold World.cell?; rw [hnb]; rfl
      have hlt1 : wr.heap.size < W1.heap.size := by rw [hW1]; simp
      obtain ⟨hx1, hx2, hx3⟩ := hxk
      clear hs hd htk hxm hx1 hnb
      go_upto_region 4 with fail
      rw [← hW1]
      clear hW1 x0 x1
      by_cases hp0 : x.part < 0
      · have d0 : decide (x.part < 0) = true := by simpa using hp0
        have hs := Hs.out
        rw [if_pos (Or.inl hp0)] at hs
        subst hs
        go_wp2_with fail
        go_ret
        exact ⟨rfl, hbel1⟩
      · have d0 : decide (x.part < 0) = false := by simpa using hp0
        by_cases hp1 : parts ≤ x.part
        · have d1 : decide (parts ≤ x.part) = true := by simpa using hp1
          have hs := Hs.out
          rw [if_pos (Or.inr hp1)] at hs
          subst hs
          go_wp2_with fail
          go_ret
          exact ⟨rfl, hbel1⟩
        · have d1 : decide (parts ≤ x.part) = false := by simpa using hp1
          have hs := Hs.out
          rw [if_neg (by rintro (h | h); exact hp0 h; exact hp1 h)] at hs
          have Hs2 := Lib.hid hs
          clear hs Hs
          generalize hnm : nameB x.name = nm at KN Hs2
          clear hnm
          cases nm
          · have hs := Hs2.out
            rw [if_pos rfl] at hs
            subst hs
            go_wp2_with fail
            refine (KN.out _).mono ?_
            rintro e w2 ⟨rfl, hb2⟩
            go_wp2_with fail
            go_ret
            exact ⟨rfl, hbel1.trans (hb2.mono hbel1.size)⟩
          · have hs := Hs2.out
            rw [if_neg (by decide)] at hs
            have Hs3 := Lib.hid hs
            clear hs Hs2
            go_wp2_with fail
            refine (KN.out _).mono ?_
            rintro e w2 ⟨rfl, hb2⟩
            have hbel2 := hbel1.trans (hb2.mono hbel1.size)
            have e0 := (hb2.cell (p := ⟨wr.heap.size, 0, none⟩) hlt1).trans c0
            have e1 := (hb2.cell (p := ⟨wr.heap.size, 1, none⟩) hlt1).trans c1
            have hlt2 : wr.heap.size < w2.heap.size := Nat.lt_of_lt_of_le hlt1 hb2.size
            obtain ⟨cl, hcl⟩ : ∃ cl, cl = clashN x (ns.take i) := ⟨_, rfl⟩
            rw [← hcl] at Hs3
            have Hcl := Lib.hid hcl
            clear hcl c0 c1 hb1 hb2 hbel hbel1 hlt1
            go_wp2_with fail
            have E0 := Lib.hid (And.intro e0 e1)
            clear e0 e1 hsl
            obtain ⟨tb, htb⟩ : ∃ tb, tb = wr.heap.size := ⟨_, rfl⟩
            rw [← htb] at E0 hlt2 ⊢
            clear htb
            go_loopw [33] (CkRel2 i (ns.take i) x cl w2) (fun jv _ => i - (intOf jv).toNat)
            case atStart => exact ⟨0, rfl, Nat.zero_le _, Below.refl _ _, Lib.hid (by rw [List.drop_zero]; exact Hcl.out.symm)⟩
            case round =>
              obtain ⟨j, rfl, hj, hbelj, HJ⟩ := hrel
              by_cases hji : j < i
              · have hbelk := hbel2.trans (hbelj.mono hbel2.size)
                obtain ⟨b', off', y, hA, _, hdy, y0, y1⟩ := (Sl.below H.out hbelk).name j (by omega)
                injection hA with hA
                injection hA with hA1 hA2
                subst hA1
                subst hA2
                have hcl := HJ.out
                rw [drop_takeN hji hdy, clash_cons] at hcl
                have k0 : wr.cell? ⟨tb, 0, none⟩ = some (.int .i64 x.part) := (hbelj.cell (p := ⟨tb, 0, none⟩) hlt2).trans E0.out.1
                have k1 : wr.cell? ⟨tb, 1, none⟩ = some (str x.name) := (hbelj.cell (p := ⟨tb, 1, none⟩) hlt2).trans E0.out.2
                have hltb : tb < wr.heap.size := Nat.lt_of_lt_of_le hlt2 hbelj.size
                obtain ⟨W3, hW3⟩ : ∃ W3, W3 = wr.alloc (.cells #[.int .i64 y.part, str y.name] 79) := ⟨_, rfl⟩
                have hb3 : Below wr.heap.size wr W3 := by rw [hW3]; exact (Below.refl _ _).alloc (Nat.le_refl _) _
                have hnb : W3.heap[wr.heap.size]? = some (.cells #[.int .i64 y.part, str y.name] 79) := by rw [hW3]; exact heap_alloc_new wr _
                have z0 : W3.cell? ⟨wr.heap.size, 0, none⟩ = some (.int .i64 y.part) := by unfold World.cell?; rw [hnb]; rfl
                have z1 : W3.cell? ⟨wr.heap.size, 1, none⟩ = some (str y.name) := by unfold World.cell?; rw [hnb]; rfl
                have k0' := (hb3.cell (p := ⟨tb, 0, none⟩) hltb).trans k0
                have k1' := (hb3.cell (p := ⟨tb, 1, none⟩) hltb).trans k1
                have hbel3 := hbelj.trans (hb3.mono hbelj.size)
                have Hclx := Lib.hid hcl
                clear hcl hdy hnb k0 k1
                go_upto_region 11 with fail
                rw [← hW3]
                clear hW3 y0 y1
                by_cases hnn : y.name = x.name
                · have d1 : (y.name == x.name) = true := by simpa using hnn
                  have hcl := Hclx.out
                  rw [d1] at hcl
                  simp only [Bool.true_or] at hcl
                  have hs := Hs3.out
                  rw [← hcl, if_pos rfl] at hs
                  subst hs
                  have Hnn := Lib.hid hnn
                  clear hnn hcl
                  go_wp2_with fail
                  go_ret
                  exact ⟨rfl, hbel2.trans (hbel3.mono hbel2.size)⟩
                · have d1 : (y.name == x.name) = false := by simpa using hnn
                  have hcl := Hclx.out
                  rw [d1] at hcl
                  have Hnn := Lib.hid hnn
                  clear hnn
                  by_cases hpp : x.part ≤ y.part
                  · have d2 : decide (x.part ≤ y.part) = true := by simpa using hpp
                    rw [d2] at hcl
                    simp only [Bool.false_or, Bool.true_or] at hcl
                    have hs := Hs3.out
                    rw [← hcl, if_pos rfl] at hs
                    subst hs
                    clear hcl
                    go_wp2_with fail
                    go_ret
                    exact ⟨rfl, hbel2.trans (hbel3.mono hbel2.size)⟩
                  · have d2 : decide (x.part ≤ y.part) = false := by simpa using hpp
                    rw [d2] at hcl
                    simp only [Bool.false_or] at hcl
                    have Hc2 := Lib.hid hcl
                    clear hcl
                    go_wp2_with fail
                    exact ⟨⟨j + 1, by go_num, by omega, hbel3, Hc2⟩, by simp [intOf]; omega⟩
              · obtain rfl : j = i := by omega
                have hcl := HJ.out
                rw [List.drop_of_length_le (List.length_take_le _ _)] at hcl
                have hs := Hs3.out
                rw [← hcl, if_neg (by simp [clashN])] at hs
                have Hs4 := Lib.hid hs
                have hbel9 := hbel2.trans (hbelj.mono hbel2.size)
                clear hs hcl
                go_wp2_with fail
                exact ⟨⟨j + 1, by go_num, by omega, hbel9, Hs4⟩, by simp [intOf]; omega⟩
    · obtain rfl : i = n := by omega
      have hs := HS.out
      rw [List.drop_of_length_le (by rw [Hl.out]; exact Nat.le_refl _), namesF] at hs
      have Hs := Lib.hid hs
      clear hs
      go_wp2_with fail
      go_ret
      exact ⟨by rw [← Hs.out]; rfl, hbel⟩
end Go.Proofs.YtlbdnohnngkapaaGreatDoor

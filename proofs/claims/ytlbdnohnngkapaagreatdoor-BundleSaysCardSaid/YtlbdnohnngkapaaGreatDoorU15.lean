import Derived.Test.YtlbdnohnngkapaaGreatDoorU14
import Derived.Test.YtlbdnohnngkapaaGreatDoorU9
import Derived.Lib.Join
import Derived.Lib.Split
import Derived.Test.YtlbdnohnngkapaaGreatDoorU1
import Derived.Lib.IndexLaws
import Derived.Test.YtlbdnohnngkapaaGreatDoorU11
import Derived.Test.YtlbdnohnngkapaaGreatDoorU3
import Derived.Test.YtlbdnohnngkapaaGreatDoorU10
import Derived.Deep.CutBlock
import Derived.Deep.DeepCutAuto
namespace Go.Proofs.YtlbdnohnngkapaaGreatDoor
open Go.RowKit

theorem okP_tok (x : Nat) (hx : x < 256) : okP 33 126 tspec x = !badTok x := by
  unfold okP badTok idxB
  rw [show (x : Int).toNat.toUInt8 = UInt8.ofNat x from rfl]
  congr 3
  simp; omega
theorem all_not (l : List UInt8) (p q : Nat → Bool) (h : ∀ x, x < 256 → p x = !q x) : l.all (fun b => p b.toNat) = !l.any (fun b => q b.toNat) := by
  induction l with
  | nil => rfl
  | cons a l ih => rw [List.all_cons, List.any_cons, ih, h _ a.toNat_lt]; simp
set_option maxRecDepth 100000 in
set_option maxHeartbeats 1000000 in
theorem IsToken_any (l : List UInt8) (w : World) (hl : l.length ≤ maxLen) : Calls Tryz.prog 86 #[str l] w fun e w' => e = .returned (.bool (tokB l)) ∧ w' = w := by
  have hb := betweenP_any l 33 126 ⟨#[40, 41, 60, 62, 64, 44, 59, 58, 92, 34, 47, 91, 93, 63, 61]⟩ w hl (by omega) (by omega)
  rw [show (ByteArray.mk #[40, 41, 60, 62, 64, 44, 59, 58, 92, 34, 47, 91, 93, 63, 61]).data.toList = tspec from rfl, all_not l (okP 33 126 tspec) badTok okP_tok] at hb
  have ht : tokB l = (decide (1 ≤ l.length) && decide (l.length ≤ 30) && !l.any (fun b => badTok b.toNat)) := by
    unfold tokB
    cases l <;> simp
  rw [ht]
  generalize l.any (fun b => badTok b.toNat) = r at hb ⊢
  have Hb := Lib.hid hb
  unfold maxLen at hl
  clear hb ht
  go_enter Tryz.func86, Tryz.ntmps86
  go_wp2_with fail
  case' _ =>
    refine Hb.out.mono ?_
    rintro e w1 ⟨rfl, rfl⟩
    go_wp2_with fail
    go_ret
    have e1 : decide (1 ≤ l.length) = true := by simp; omega
    have e2 : decide (l.length ≤ 30) = true := by simp; omega
    exact ⟨by rw [e1, e2]; simp, rfl⟩
  case' _ =>
    go_ret
    have e2 : decide (l.length ≤ 30) = false := by simp; omega
    exact ⟨by rw [e2]; simp, rfl⟩
  go_ret
  have e1 : decide (1 ≤ l.length) = false := by rw [decide_eq_false_iff_not]; omega
  exact ⟨by rw [e1]; simp, rfl⟩
end Go.Proofs.YtlbdnohnngkapaaGreatDoor

namespace Go.Proofs.YtlbdnohnngkapaaGreatDoor
open Go.RowKit

theorem okP_word (x : Nat) (hx : x < 256) : okP 33 126 [34, 60, 62] x = !badWord x := by
  revert hx; revert x; decide +kernel
set_option maxRecDepth 100000 in
set_option maxHeartbeats 1000000 in
theorem IsWord_any (l : List UInt8) (w : World) (hl : l.length ≤ maxLen) : Calls Tryz.prog 87 #[str l] w fun e w' => e = .returned (.bool (wordB l)) ∧ w' = w := by
  have hb := betweenP_any l 33 126 ⟨#[34, 60, 62]⟩ w hl (by omega) (by omega)
  rw [show (ByteArray.mk #[34, 60, 62]).data.toList = [34, 60, 62] from rfl, all_not l (okP 33 126 [34, 60, 62]) badWord okP_word] at hb
  unfold wordB
  generalize l.any (fun b => badWord b.toNat) = r at hb ⊢
  have Hb := Lib.hid hb
  unfold maxLen at hl
  clear hb
  go_enter Tryz.func87, Tryz.ntmps87
  go_wp2_with fail
  case' _ =>
    refine Hb.out.mono ?_
    rintro e w1 ⟨rfl, rfl⟩
    go_wp2_with fail
    go_ret
    have e2 : decide (l.length ≤ 120) = true := by simp; omega
    exact ⟨by rw [e2]; simp, rfl⟩
  go_ret
  have e1 : decide (l.length ≤ 120) = false := by rw [decide_eq_false_iff_not]; omega
  exact ⟨by rw [e1]; simp, rfl⟩
end Go.Proofs.YtlbdnohnngkapaaGreatDoor

namespace Go.Proofs.YtlbdnohnngkapaaGreatDoor
open Go.RowKit

theorem many_take (l : List UInt8) : manyB l = (List.take 10 l == [109, 117, 108, 116, 105, 112, 97, 114, 116, 47]) := by
  unfold manyB Lib.hasPrefix
  rw [Bool.eq_iff_iff, List.isPrefixOf_iff_prefix, List.prefix_iff_eq_take, beq_iff_eq]
  exact eq_comm
set_option maxRecDepth 100000 in
set_option maxHeartbeats 1000000 in
theorem IsMany_any (l : List UInt8) (w : World) (hl : l.length ≤ maxLen) : Calls Tryz.prog 84 #[str l] w fun e w' => e = .returned (.bool (manyB l)) ∧ w' = w := by
  unfold maxLen at hl
  by_cases h10 : 10 ≤ l.length
  · have i1 : (10 : Int) ≤ l.length := by omega
    have i0 : (0 : Int) ≤ 10 := by omega
    go_enter Tryz.func84, Tryz.ntmps84
    go_wp2_with fail
    go_ret
    exact ⟨by rw [many_take]; rfl, rfl⟩
  · go_enter Tryz.func84, Tryz.ntmps84
    go_wp2_with fail
    go_ret
    refine ⟨?_, rfl⟩
    have : manyB l = false := by
      unfold manyB Lib.hasPrefix
      rw [Bool.eq_false_iff]
      intro h
      have := (List.isPrefixOf_iff_prefix.1 h).length_le
      simp at this
      omega
    rw [this]; rfl
end Go.Proofs.YtlbdnohnngkapaaGreatDoor

namespace Go.Proofs.YtlbdnohnngkapaaGreatDoor

/-! ### Texts put into their places, from the last one on -/
def repB (out : List UInt8) (l : LinkD) (t : List UInt8) : List UInt8 := if t = [] then out else out.take l.frm ++ (t ++ out.drop l.til)
def repL (b : List UInt8) : List LinkD → List (List UInt8) → List UInt8
  | l :: ls, t :: ts => repB (repL b ls ts) l t
  | [], _ => b
  | _ :: _, [] => b
theorem repL_eq : ∀ (l : List (List UInt8 × List UInt8)) (ts : List (List UInt8)) (pre b : List UInt8), ts.length = l.length → b = pre ++ weaveL l (l.map (·.1)) → repL b (linksL pre.length l) ts = pre ++ weaveL l (picks l ts)
  | [], ts, pre, b, h, hb => by
    rw [linksL, repL, hb]
    cases ts <;> rfl
  | x :: l, [], pre, b, h, _ => by simp at h
  | x :: l, t :: ts, pre, b, h, hb => by
    have e : b = (pre ++ x.1 ++ x.2) ++ weaveL l (l.map (·.1)) := by rw [hb, List.map_cons, weaveL]; simp
    have ih := repL_eq l ts (pre ++ x.1 ++ x.2) b (by simpa using h) e
    have hl : (pre ++ x.1 ++ x.2).length = pre.length + x.1.length + x.2.length := by simp; omega
    rw [hl] at ih
    rw [linksL, repL, ih, picks, weaveL]
    unfold repB pick
    by_cases ht : t = []
    · rw [if_pos ht, if_pos ht]; simp
    · rw [if_neg ht, if_neg ht]
      simp only
      have e2 : pre ++ x.1 ++ x.2 ++ weaveL l (picks l ts) = pre ++ (x.1 ++ (x.2 ++ weaveL l (picks l ts))) := by simp
      rw [e2, List.take_left]
      have e3 : pre ++ (x.1 ++ (x.2 ++ weaveL l (picks l ts))) = (pre ++ x.1) ++ (x.2 ++ weaveL l (picks l ts)) := by simp
      rw [e3, List.drop_left' (by simp)]
theorem repL_put (b : List UInt8) (ts : List (List UInt8)) (h : ts.length = (pcs b).2.length) : repL b (links 0 (pcs b)) ts = putL b 0 [] (links 0 (pcs b)) ts := by
  rw [putL_weave b ts h]
  have := repL_eq (pcs b).2 ts (pcs b).1 b h (pcs_app b)
  unfold links
  rw [Nat.zero_add, this]
  rfl
/-- Each link of a page lies behind the one ahead of it. -/
def risL (n : Nat) : Nat → List LinkD → Prop
  | _, [] => True
  | p, l :: ls => p ≤ l.frm ∧ l.frm ≤ l.til ∧ l.til ≤ n ∧ risL n l.til ls
end Go.Proofs.YtlbdnohnngkapaaGreatDoor

namespace Go.Proofs.YtlbdnohnngkapaaGreatDoor

theorem no60 {b : List UInt8} (h : b.any (fun c => c == 60) = false) : ∀ x ∈ b, pIs 60 x.toNat = false := by
  intro x hx
  have := List.any_eq_false.1 h x hx
  simp only [beq_iff_eq] at this
  simp only [pIs, beq_eq_false_iff_ne]
  intro e
  exact this (UInt8.toNat_inj.1 e)
theorem pcs_step (r : List UInt8) (h : r ≠ []) : pcs r = prep (stopT (pIs 60) r) (catP (stepP (stopD (pIs 60) r)).1 (pcs (stepP (stopD (pIs 60) r)).2)) := by
  have h1 := pcs_find r (r.length + 1) (by omega)
  have hlt := stepP_round r h
  unfold findP at h1
  rw [if_neg h, pcs_find _ r.length (by omega)] at h1
  exact (Option.some.inj h1).symm
theorem pcs_nil : pcs [] = raw [] := rfl
theorem pcs_ahead (b c : List UInt8) (h : b.any (fun c => c == 60) = false) : pcs (b ++ c) = prep b (pcs c) := by
  have hb := no60 h
  have hp := stopD_pre (pIs 60) b c hb
  by_cases hbc : b ++ c = []
  · have h1 : b = [] := by cases b with | nil => rfl | cons a b => simp at hbc
    subst h1
    rw [List.nil_append]
    rfl
  · rw [pcs_step _ hbc, hp.1, hp.2]
    by_cases hc : c = []
    · subst hc
      rw [pcs_nil]
      have e : stopD (pIs 60) [] = [] := rfl
      have e2 : stopT (pIs 60) [] = [] := rfl
      rw [e, e2, stepP_nil, pcs_nil]
      simp [prep, catP, catL, raw]
    · rw [pcs_step c hc]
      simp [prep]
theorem pcs_no60 (b : List UInt8) (h : b.any (fun c => c == 60) = false) : pcs b = raw b := by
  have := pcs_ahead b [] h
  rw [List.append_nil, pcs_nil] at this
  rw [this]
  simp [prep, raw]
def shiftL (k : Nat) (l : List LinkD) : List LinkD := l.map fun x => ⟨x.frm + k, x.til + k, x.text⟩
theorem linksL_shift (k : Nat) : ∀ (l : List (List UInt8 × List UInt8)) (pos : Nat), linksL (pos + k) l = shiftL k (linksL pos l)
  | [], _ => rfl
  | x :: l, pos => by
    have := linksL_shift k l (pos + x.1.length + x.2.length)
    simp only [linksL, shiftL, List.map_cons] at this ⊢
    rw [← this]
    congr 1
    · congr 1; omega
    · congr 1; omega
theorem find_ahead (b c : List UInt8) (h : b.any (fun c => c == 60) = false) : findB (b ++ c) = (findB c).map (shiftL b.length) := by
  rw [findB_eq, findB_eq, pcs_ahead b c h]
  have e : (prep b (pcs c)).2 = (pcs c).2 := rfl
  rw [e]
  split
  · rfl
  · rw [links_prep]
    unfold links
    rw [Option.map_some, ← linksL_shift]
    congr 2
    omega
theorem find_no60 (b : List UInt8) (h : b.any (fun c => c == 60) = false) : findB b = some [] := by
  rw [findB_eq, pcs_no60 b h]
  rfl
theorem picks_none : ∀ (l : List (List UInt8 × List UInt8)), picks l (List.replicate l.length []) = l.map (·.1)
  | [] => rfl
  | x :: l => by simp [picks, pick, List.replicate_succ, picks_none l]
/-- Where nothing is put all stays. -/
theorem put_none (b : List UInt8) (l : List LinkD) (hl : findB b = some l) (h4 : b.length ≤ 4000) : putB b (List.replicate l.length []) = (b, 0) := by
  have hf := findB_eq b
  rw [hl] at hf
  split at hf
  · cases hf
  · have hf := Option.some.inj hf
    unfold putB
    rw [hl]
    simp only
    have hany : (List.replicate l.length ([] : List UInt8)).any (fun t => t.any fun c => badPut c.toNat) = false := by
      rw [List.any_eq_false]
      intro x hx
      rw [(List.mem_replicate.1 hx).2]
      simp
    have hp : putL b 0 [] l (List.replicate l.length []) = b := by
      have hn : l.length = (pcs b).2.length := by rw [hf, links_len]
      rw [hn, hf, putL_weave b _ (by simp), picks_none]
      exact (pcs_app b).symm
    rw [if_neg (by simp), hany, hp, if_neg (by simp), if_neg (show ¬ 4000 < b.length by omega)]
end Go.Proofs.YtlbdnohnngkapaaGreatDoor

namespace Go.Proofs.YtlbdnohnngkapaaGreatDoor

/-! ### The links of a page, by places -/
def FL (n : Nat) (r : List UInt8) (out : List LinkD) : Option (List LinkD) := findL n r.length r out
theorem FL_eq {n : Nat} {r : List UInt8} {out : List LinkD} (h : r.length ≤ n) (ho : out.length ≤ 60) : FL n r out = if 60 < (out ++ links (n - r.length) (pcs r)).length then none else some (out ++ links (n - r.length) (pcs r)) :=
  findL_eq n r.length r out (n - r.length) (pcs r) (by omega) (pcs_find r _ (Nat.le_refl _)) ho
theorem FL_nil (n : Nat) (out : List LinkD) : FL n [] out = some out := rfl
theorem FL_find (b : List UInt8) : findB b = FL b.length b [] := rfl
theorem FL_other {n : Nat} {c : UInt8} {r : List UInt8} {out : List LinkD} (hc : c ≠ 60) (h : r.length + 1 ≤ n) (ho : out.length ≤ 60) : FL n (c :: r) out = FL n r out := by
  have e : pcs (c :: r) = prep [c] (pcs r) := by
    have := pcs_ahead [c] r (by simpa using hc)
    simpa using this
  rw [FL_eq (by simpa using h) ho, FL_eq (by omega) ho, e, links_prep]
  have : n - (c :: r).length + [c].length = n - r.length := by simp; omega
  rw [this]
theorem stepL_lt (n : Nat) (r : List UInt8) (out : List LinkD) (h : r.length + 1 ≤ n) : (stepL n (60 :: r) out).1.length ≤ r.length := by
  rw [stepL_eq n (60 :: r) out (n - (r.length + 1)) (by simp; omega)]
  exact stepP_lt 60 r
theorem FL_step {n : Nat} {r : List UInt8} {out : List LinkD} (h : r.length + 1 ≤ n) (ho : out.length ≤ 60) :
    FL n (60 :: r) out = if 60 < (stepL n (60 :: r) out).2.length then none else FL n (stepL n (60 :: r) out).1 (stepL n (60 :: r) out).2 := by
  have hs := stop_app (pIs 60) (60 :: r)
  have h1 : stopD (pIs 60) (60 :: r) = 60 :: r := (stopD_at (pIs 60) 60 r (by decide)).1
  have h2 : stopT (pIs 60) (60 :: r) = [] := (stopD_at (pIs 60) 60 r (by decide)).2
  have e := pcs_step (60 :: r) (by simp)
  rw [h1, h2] at e
  have hlt := stepP_lt 60 r
  have hl := congrArg List.length (stepP_app (60 :: r))
  rw [List.length_append, List.length_cons] at hl
  rw [FL_eq (by simpa using h) ho, e, links_prep, links_catP, stepL_eq n (60 :: r) out (n - (r.length + 1)) (by simp; omega)]
  simp only [List.length_nil, Nat.add_zero, List.length_cons]
  have e2 : n - (r.length + 1) + (weave (stepP (60 :: r)).1 (vals (stepP (60 :: r)).1)).length = n - (stepP (60 :: r)).2.length := by omega
  rw [e2, ← List.append_assoc]
  by_cases h60 : 60 < (out ++ links (n - (r.length + 1)) (stepP (60 :: r)).1).length
  · rw [if_pos h60, if_pos (by rw [List.length_append]; omega)]
  · rw [if_neg h60, FL_eq (by omega) (by omega)]

/-! ### The attributes of a tag -/
theorem attrs_fuel (n : Nat) : ∀ (f g : Nat) (r : List UInt8) (seen : List (List UInt8)) (ls : List LinkD), r.length < f → r.length < g → attrsL n f r seen ls = attrsL n g r seen ls
  | 0, _, _, _, _, h, _ => absurd h (by omega)
  | _, 0, _, _, _, _, h => absurd h (by omega)
  | f + 1, g + 1, r, seen, ls, h1, h2 => by
    have hl := stopD_len pAttr r
    rw [attrsL, attrsL]
    cases hd : stopD pAttr r with
    | nil => rfl
    | cons c r2 =>
      rw [hd, List.length_cons] at hl
      simp only
      by_cases hc : c = 62
      · rw [if_pos hc, if_pos hc]
      · rw [if_neg hc, if_neg hc]
        have h3 := stopD_len pEq r2
        have h4 := stopD_len pNotSp (stopD pEq r2)
        have hv : (valueR (stopD pNotSp (stopD pEq r2)).tail).2.2.length ≤ (stopD pNotSp (stopD pEq r2)).tail.length := by
          rw [(valueR_valP _).1]; exact valP_len _
        have ht : (stopD pNotSp (stopD pEq r2)).tail.length ≤ (stopD pNotSp (stopD pEq r2)).length := by simp
        rw [attrs_fuel n f g _ _ _ (by omega) (by omega), attrs_fuel n f g _ _ _ (by omega) (by omega)]
def AL (n : Nat) (r : List UInt8) (seen : List (List UInt8)) (ls : List LinkD) : Option (List UInt8 × List LinkD) := attrsL n (r.length + 1) r seen ls
theorem AL_nil (n : Nat) (seen : List (List UInt8)) (ls : List LinkD) : AL n [] seen ls = none := rfl
theorem AL_gap {n : Nat} {c : UInt8} {r : List UInt8} {seen : List (List UInt8)} {ls : List LinkD} (hc : pAttr c.toNat = false) : AL n (c :: r) seen ls = AL n r seen ls := by
  unfold AL
  rw [List.length_cons]
  have h := (stopD_pre pAttr [c] r (by simpa using hc)).1
  rw [List.singleton_append] at h
  rw [attrs_fuel n (r.length + 1) (r.length + 1 + 1) r seen ls (by omega) (by omega), attrsL, attrsL, h]
theorem AL_end {n : Nat} {r : List UInt8} {seen : List (List UInt8)} {ls : List LinkD} : AL n (62 :: r) seen ls = some (r, ls) := by
  unfold AL
  rw [attrsL, (stopD_at pAttr 62 r (by decide)).1]
  simp
theorem AL_go {n : Nat} {c : UInt8} {r : List UInt8} {seen : List (List UInt8)} {ls : List LinkD} (h : pAttr c.toNat = true) (hc : c ≠ 62) (h1 : (stopD pNotSp (stopD pEq r)).head? ≠ some 61) :
    AL n (c :: r) seen ls = AL n (stopD pEq r) (lowL (c :: stopT pEq r) :: seen) ls := by
  unfold AL
  have h3 := stopD_len pEq r
  rw [attrsL, (stopD_at pAttr c r h).1]
  simp only
  rw [if_neg hc, if_neg h1]
  exact attrs_fuel n _ _ _ _ _ (by simp; omega) (by omega)
theorem AL_is {n : Nat} {c : UInt8} {r r4 : List UInt8} {seen : List (List UInt8)} {ls : List LinkD} (h : pAttr c.toNat = true) (hc : c ≠ 62) (h1 : stopD pNotSp (stopD pEq r) = 61 :: r4) :
    AL n (c :: r) seen ls = AL n (valueR r4).2.2 (lowL (c :: stopT pEq r) :: seen) (addLink n (lowL (c :: stopT pEq r)) seen (valueR r4) ls) := by
  unfold AL
  have h3 := stopD_len pEq r
  have h4 := stopD_len pNotSp (stopD pEq r)
  rw [h1, List.length_cons] at h4
  have hv : (valueR r4).2.2.length ≤ r4.length := by rw [(valueR_valP _).1]; exact valP_len _
  rw [attrsL, (stopD_at pAttr c r h).1]
  simp only
  rw [if_neg hc, h1, if_pos (by rfl)]
  have e : (61 :: r4).tail = r4 := rfl
  rw [e]
  exact attrs_fuel n _ _ _ _ _ (by rw [List.length_cons]; omega) (by omega)
theorem tagL_AL (n : Nat) (r : List UInt8) (shut : Bool) (out : List LinkD) : tagL n r shut out = match AL n (stopD pName r) [] [] with
    | none => ([], out)
    | some (r', ls) => (r', if shut then out else out ++ ls) := rfl
end Go.Proofs.YtlbdnohnngkapaaGreatDoor

namespace Go.Proofs.YtlbdnohnngkapaaGreatDoor

/-! ### Pieces for the document's way to find links -/
theorem join_splitK (sep new : List UInt8) : ∀ (k : Nat) (s : List UInt8), Lib.splitK sep 0 k s ≠ [] ∧ Lib.join (Lib.splitK sep 0 k s) new = Lib.replaceK sep new k s
  | 0, s => ⟨by simp [Lib.splitK], by rw [Lib.splitK, Lib.replaceK, Lib.join_one]⟩
  | k + 1, s => by
    rw [Lib.splitK, Lib.replaceK]
    by_cases h : (Lib.index s sep == -1) = true
    · rw [if_pos h, if_pos h]
      exact ⟨by simp, Lib.join_one _ _⟩
    · rw [if_neg h, if_neg h, Nat.add_zero]
      obtain ⟨h1, h2⟩ := join_splitK sep new k (s.drop ((Lib.index s sep).toNat + sep.length))
      refine ⟨by simp, ?_⟩
      rw [← h2]
      cases hs : Lib.splitK sep 0 k (s.drop ((Lib.index s sep).toNat + sep.length)) with
      | nil => exact absurd hs h1
      | cons x r =>
        rw [Lib.join_cons, Lib.join_cons]
        simp [Lib.joinTail]
theorem unamp_join (l : List UInt8) : Lib.join (Lib.split l [38, 97, 109, 112, 59]) [38] = unamp l := by
  unfold unamp Lib.replaceAll Lib.replace Lib.split
  rw [if_neg (by decide), (join_splitK _ _ _ _).2]
  have : Lib.replaceNum l [38, 97, 109, 112, 59] (-1) = Lib.count l [38, 97, 109, 112, 59] := by
    unfold Lib.replaceNum
    rw [if_pos (.inl (by decide))]
  rw [this]
theorem letter_small : ∀ b : Fin 256, ([97, 98, 99, 100, 101, 102, 103, 104, 105, 106, 107, 108, 109, 110, 111, 112, 113, 114, 115, 116, 117, 118, 119, 120, 121, 122] : List UInt8).contains (lowB (UInt8.ofNat b.val)) = isLet b.val := by decide +kernel
theorem space_small : ∀ b : Fin 256, ([32, 9, 13, 10, 12] : List UInt8).contains (UInt8.ofNat b.val) = isSp b.val := by decide +kernel
/-- A loop that goes on till a byte: where it stands. -/
theorem drop_stop (p : Nat → Bool) (s : List UInt8) (i : Nat) (h : i < s.length) (hp : p (nth s i) = false) : stopD p (s.drop i) = stopD p (s.drop (i + 1)) ∧ stopT p (s.drop i) = (s.getD i 0) :: stopT p (s.drop (i + 1)) := by
  have e : s.drop i = s.getD i 0 :: s.drop (i + 1) := by
    rw [List.drop_eq_getElem_cons h]
    simp [List.getD, h]
  have hp' : p (s.getD i 0).toNat = false := hp
  rw [e]
  have h2 := stopD_pre p [s.getD i 0] (s.drop (i + 1)) (by intro b hb; simp only [List.mem_singleton] at hb; rw [hb]; exact hp')
  exact h2
theorem drop_at (p : Nat → Bool) (s : List UInt8) (i : Nat) (h : i < s.length) (hp : p (nth s i) = true) : stopD p (s.drop i) = s.drop i ∧ stopT p (s.drop i) = [] := by
  have e : s.drop i = s.getD i 0 :: s.drop (i + 1) := by
    rw [List.drop_eq_getElem_cons h]
    simp [List.getD, h]
  rw [e]
  exact stopD_at p _ _ hp
theorem drop_end (p : Nat → Bool) (s : List UInt8) : stopD p (s.drop s.length) = [] ∧ stopT p (s.drop s.length) = [] := by
  rw [List.drop_length]
  exact ⟨rfl, rfl⟩
/-- How far a stop is. -/
def toP (p : Nat → Bool) (s : List UInt8) (i : Nat) : Nat := i + (stopT p (s.drop i)).length
theorem toP_step (p : Nat → Bool) (s : List UInt8) (i : Nat) (h : i < s.length) (hp : p (nth s i) = false) : toP p s i = toP p s (i + 1) := by
  unfold toP
  rw [(drop_stop p s i h hp).2, List.length_cons]
  omega
theorem toP_at (p : Nat → Bool) (s : List UInt8) (i : Nat) (h : i < s.length) (hp : p (nth s i) = true) : toP p s i = i := by
  unfold toP
  rw [(drop_at p s i h hp).2]
  rfl
theorem toP_end (p : Nat → Bool) (s : List UInt8) : toP p s s.length = s.length := by
  unfold toP
  rw [(drop_end p s).2]
  rfl
theorem toP_drop (p : Nat → Bool) (s : List UInt8) (i : Nat) : s.drop (toP p s i) = stopD p (s.drop i) := by
  unfold toP
  rw [← List.drop_drop]
  have h := stop_app p (s.drop i)
  generalize stopT p (s.drop i) = a at h ⊢
  generalize stopD p (s.drop i) = b at h ⊢
  rw [← h, List.drop_left]
theorem toP_le (p : Nat → Bool) (s : List UInt8) (i : Nat) (h : i ≤ s.length) : i ≤ toP p s i ∧ toP p s i ≤ s.length := by
  have := stopT_len p (s.drop i)
  rw [List.length_drop] at this
  unfold toP
  omega
theorem toP_take (p : Nat → Bool) (s : List UInt8) (i : Nat) : (s.take (toP p s i)).drop i = stopT p (s.drop i) := by
  unfold toP
  rw [List.drop_take, Nat.add_sub_cancel_left]
  have h := stop_app p (s.drop i)
  generalize stopT p (s.drop i) = a at h ⊢
  generalize stopD p (s.drop i) = b at h ⊢
  rw [← h, List.take_left]
end Go.Proofs.YtlbdnohnngkapaaGreatDoor

namespace Go.Proofs.YtlbdnohnngkapaaGreatDoor

/-! ### The document's steps, by places -/
theorem drop_cons (l : List UInt8) (i : Nat) (h : i < l.length) : l.drop i = l.getD i 0 :: l.drop (i + 1) := by
  rw [List.drop_eq_getElem_cons h]
  simp [List.getD, h]
theorem getD_is (l : List UInt8) (i k : Nat) (hk : k < 256) (h : nth l i = k) : l.getD i 0 = UInt8.ofNat k := by
  apply UInt8.toNat_inj.1
  rw [UInt8.toNat_ofNat']
  unfold nth at h
  omega
theorem getD_not (l : List UInt8) (i k : Nat) (hk : k < 256) (h : nth l i ≠ k) : l.getD i 0 ≠ UInt8.ofNat k := by
  intro e
  apply h
  unfold nth
  rw [e, UInt8.toNat_ofNat']
  omega
def letP (s : List UInt8) (i : Nat) : Bool := decide (i < s.length) && isLet (nth s i)
section
variable {l : List UInt8} {i : Nat} {out : List LinkD}
theorem FL_skip (h : i < l.length) (h60 : nth l i ≠ 60) (ho : out.length ≤ 60) : FL l.length (l.drop i) out = FL l.length (l.drop (i + 1)) out := by
  rw [drop_cons l i h]
  refine FL_other (getD_not l i 60 (by omega) h60) ?_ ho
  rw [List.length_drop]
  omega
theorem FL_lt (h : i < l.length) (h60 : nth l i = 60) (ho : out.length ≤ 60) :
    FL l.length (l.drop i) out = if 60 < (stepL l.length (l.drop i) out).2.length then none else FL l.length (stepL l.length (l.drop i) out).1 (stepL l.length (l.drop i) out).2 := by
  have e : l.drop i = 60 :: l.drop (i + 1) := by rw [drop_cons l i h, getD_is l i 60 (by omega) h60]; rfl
  rw [e]
  refine FL_step ?_ ho
  rw [List.length_drop]
  omega
theorem FL_com (h : i < l.length) (h60 : nth l i = 60) (ho : out.length ≤ 60) (hp : Lib.hasPrefix (l.drop i) [60, 33, 45, 45] = true) : FL l.length (l.drop i) out = FL l.length (pastL [45, 45, 62] (l.drop (i + 4))) out := by
  rw [FL_lt h h60 ho]
  unfold stepL
  rw [if_pos hp]
  simp only
  rw [if_neg (by omega), List.drop_drop]
theorem FL_bang (h : i < l.length) (h60 : nth l i = 60) (ho : out.length ≤ 60) (hp : Lib.hasPrefix (l.drop i) [60, 33, 45, 45] = false) (hp2 : (Lib.hasPrefix (l.drop i) [60, 33] || Lib.hasPrefix (l.drop i) [60, 63]) = true) : FL l.length (l.drop i) out = FL l.length (pastL [62] (l.drop i)) out := by
  have key : stepL l.length (l.drop i) out = (pastL [62] (l.drop i), out) := by
    unfold stepL
    rw [if_neg (by simp [hp]), if_pos hp2]
  rw [FL_lt h h60 ho, key]
  simp only
  rw [if_neg (by omega)]
theorem prefix_com (h : Lib.hasPrefix (l.drop i) [60, 33, 45, 45] = true) : i + 4 ≤ l.length := by
  have := (List.isPrefixOf_iff_prefix.1 h).length_le
  simp only [List.length_cons, List.length_nil, List.length_drop] at this
  omega
theorem nth_one (h : i + 1 < l.length) : (Lib.hasPrefix (l.drop i) [60, 47] = true) ↔ (nth l i = 60 ∧ nth l (i + 1) = 47) := by
  have e : l.drop i = l.getD i 0 :: l.getD (i + 1) 0 :: l.drop (i + 2) := by rw [drop_cons l i (by omega), drop_cons l (i + 1) h]
  rw [e]
  show ((60 : UInt8) == l.getD i 0 && ((47 : UInt8) == l.getD (i + 1) 0 && List.isPrefixOf [] _)) = true ↔ _
  rw [Bool.and_eq_true, Bool.and_eq_true]
  constructor
  · rintro ⟨h1, h2, _⟩
    have h1 := eq_of_beq h1
    have h2 := eq_of_beq h2
    unfold nth
    rw [← h1, ← h2]
    exact ⟨rfl, rfl⟩
  · rintro ⟨h1, h2⟩
    rw [getD_is l i 60 (by omega) h1, getD_is l (i + 1) 47 (by omega) h2]
    simp
theorem step_tag (h60 : nth l i = 60) (hp : Lib.hasPrefix (l.drop i) [60, 33, 45, 45] = false) (hp2 : (Lib.hasPrefix (l.drop i) [60, 33] || Lib.hasPrefix (l.drop i) [60, 63]) = false) :
    stepL l.length (l.drop i) out = if letP l (i + 1) then tagL l.length (l.drop (i + 1)) false out else if (Lib.hasPrefix (l.drop i) [60, 47] && letP l (i + 2)) then tagL l.length (l.drop (i + 2)) true out else (l.drop (i + 1), out) := by
  unfold stepL
  rw [if_neg (by simp [hp]), if_neg (by simp [hp2]), List.drop_drop, List.drop_drop, nth_drop, nth_drop, List.length_drop]
  have e1 : (decide (1 < l.length - i) && isLet (nth l (i + 1))) = letP l (i + 1) := by
    unfold letP
    congr 1
    rw [decide_eq_decide]
    omega
  rw [e1]
  have e2 : (decide (2 < l.length - i) && nth l (i + 1) == 47 && isLet (nth l (i + 2))) = (Lib.hasPrefix (l.drop i) [60, 47] && letP l (i + 2)) := by
    unfold letP
    by_cases h2 : i + 2 < l.length
    · have d1 : decide (2 < l.length - i) = true := by simp; omega
      have d2 : decide (i + 2 < l.length) = true := by simpa using h2
      rw [d1, d2, Bool.true_and, Bool.true_and]
      congr 1
      have hn := nth_one (l := l) (i := i) (by omega)
      rw [Bool.eq_iff_iff, hn]
      simp [h60]
    · have d1 : decide (2 < l.length - i) = false := by simp; omega
      have d2 : decide (i + 2 < l.length) = false := by simpa using h2
      rw [d1, d2]
      simp
  rw [e2]
theorem let_one (_h60 : nth l i = 60) (hp : (Lib.hasPrefix (l.drop i) [60, 47] && letP l (i + 2)) = true) : letP l (i + 1) = false := by
  rw [Bool.and_eq_true] at hp
  have h2 : i + 2 < l.length := by
    have := hp.2
    unfold letP at this
    rw [Bool.and_eq_true, decide_eq_true_eq] at this
    exact this.1
  have h3 := ((nth_one (by omega)).1 hp.1).2
  unfold letP
  rw [h3]
  simp [isLet]
theorem FL_none (h : i < l.length) (h60 : nth l i = 60) (ho : out.length ≤ 60) (hp : Lib.hasPrefix (l.drop i) [60, 33, 45, 45] = false) (hp2 : (Lib.hasPrefix (l.drop i) [60, 33] || Lib.hasPrefix (l.drop i) [60, 63]) = false)
    (hs : (Lib.hasPrefix (l.drop i) [60, 47] && letP l (i + 2)) = false) (hl : letP l (i + 1) = false) : FL l.length (l.drop i) out = FL l.length (l.drop (i + 1)) out := by
  have key : stepL l.length (l.drop i) out = (l.drop (i + 1), out) := by
    rw [step_tag h60 hp hp2, if_neg (by simp [hl]), if_neg (by simp [hs])]
  rw [FL_lt h h60 ho, key]
  simp only
  rw [if_neg (by omega)]
/-- What a tag leaves. -/
def tagX (n : Nat) (R : Option (List UInt8 × List LinkD)) (shut : Bool) (out : List LinkD) : Option (List LinkD) :=
  match R with
  | none => some out
  | some (r', ls) => if 60 < (if shut then out else out ++ ls).length then none else FL n r' (if shut then out else out ++ ls)
theorem FL_tag (h : i < l.length) (h60 : nth l i = 60) (ho : out.length ≤ 60) (hp : Lib.hasPrefix (l.drop i) [60, 33, 45, 45] = false) (hp2 : (Lib.hasPrefix (l.drop i) [60, 33] || Lib.hasPrefix (l.drop i) [60, 63]) = false)
    (shut : Bool) (hs : (Lib.hasPrefix (l.drop i) [60, 47] && letP l (i + 2)) = shut) (hl : shut = true ∨ letP l (i + 1) = true) (j : Nat) (hj : j = if shut then i + 2 else i + 1) :
    FL l.length (l.drop i) out = tagX l.length (AL l.length (l.drop (toP pName l j)) [] []) shut out := by
  have key : stepL l.length (l.drop i) out = tagL l.length (l.drop j) shut out := by
    rw [step_tag h60 hp hp2]
    cases shut with
    | true => rw [if_neg (by simp [let_one h60 hs]), if_pos hs, hj, if_pos rfl]
    | false =>
      rcases hl with hl | hl
      · cases hl
      · rw [if_pos hl, hj, if_neg (by simp)]
  rw [FL_lt h h60 ho, key, tagL_AL, toP_drop]
  unfold tagX
  cases AL l.length (stopD pName (l.drop j)) [] [] with
  | none =>
    simp only
    rw [if_neg (by omega), FL_nil]
  | some x => rfl
section
variable {n : Nat} {seen : List (List UInt8)} {ls : List LinkD}
theorem AL_skip (h : i < l.length) (hp : pAttr (nth l i) = false) : AL n (l.drop i) seen ls = AL n (l.drop (i + 1)) seen ls := by
  rw [drop_cons l i h]
  exact AL_gap hp
theorem AL_stop (h : i < l.length) (h62 : nth l i = 62) : AL n (l.drop i) seen ls = some (l.drop (i + 1), ls) := by
  have e : l.drop i = 62 :: l.drop (i + 1) := by rw [drop_cons l i h, getD_is l i 62 (by omega) h62]; rfl
  rw [e]
  exact AL_end
theorem name_is (h : i < l.length) (_hp : pEq (nth l i) = false ∨ True) (j : Nat) (hj : j = toP pEq l (i + 1)) : (l.take j).drop i = l.getD i 0 :: stopT pEq (l.drop (i + 1)) := by
  have hle := toP_le pEq l (i + 1) (by omega)
  have e : l.take j = (l.take (i + 1)) ++ stopT pEq (l.drop (i + 1)) := by
    have h1 := toP_take pEq l (i + 1)
    rw [← hj] at h1
    rw [← h1]
    have h2 : (l.take j).take (i + 1) = l.take (i + 1) := by rw [List.take_take]; congr 1; omega
    rw [← h2, List.take_append_drop]
  rw [e, List.take_add_one, List.append_assoc, List.drop_append_of_le_length (by rw [List.length_take]; omega), List.drop_of_length_le (by rw [List.length_take]; omega)]
  simp [List.getD, h]
theorem AL_bare (h : i < l.length) (hp : pAttr (nth l i) = true) (h62 : nth l i ≠ 62) (j k : Nat) (hj : j = toP pEq l (i + 1)) (hk : k = toP pNotSp l j) (hno : ¬ (k < l.length ∧ nth l k = 61)) :
    AL n (l.drop i) seen ls = AL n (l.drop j) (lowL ((l.take j).drop i) :: seen) ls := by
  have hle := toP_le pEq l (i + 1) (by omega)
  have hle2 := toP_le pNotSp l j (by omega)
  rw [name_is h (.inr trivial) j hj, hj, toP_drop, drop_cons l i h]
  refine AL_go hp (getD_not l i 62 (by omega) h62) ?_
  rw [← toP_drop pEq, ← hj, ← toP_drop pNotSp, ← hk]
  intro hh
  apply hno
  have hkl : k < l.length := by
    rcases Nat.lt_or_ge k l.length with h' | h'
    · exact h'
    · rw [List.drop_of_length_le h'] at hh; cases hh
  refine ⟨hkl, ?_⟩
  rw [drop_cons l k hkl] at hh
  injection hh with hh
  unfold nth
  rw [hh]
  rfl
theorem AL_val (h : i < l.length) (hp : pAttr (nth l i) = true) (h62 : nth l i ≠ 62) (j k : Nat) (hj : j = toP pEq l (i + 1)) (hk : k = toP pNotSp l j) (hkl : k < l.length) (h61 : nth l k = 61) :
    AL n (l.drop i) seen ls = AL n (valueR (l.drop (k + 1))).2.2 (lowL ((l.take j).drop i) :: seen) (addLink n (lowL ((l.take j).drop i)) seen (valueR (l.drop (k + 1))) ls) := by
  rw [name_is h (.inr trivial) j hj, drop_cons l i h]
  refine AL_is hp (getD_not l i 62 (by omega) h62) ?_
  rw [← toP_drop pEq, ← hj, ← toP_drop pNotSp, ← hk, drop_cons l k hkl, getD_is l k 61 (by omega) h61]
  rfl
end
/-- A value between quotes. -/
theorem value_quo (k2 T : Nat) (k : Nat) (hk2 : k2 = toP pNotSp l (k + 1)) (hl : k2 < l.length) (hq : nth l k2 = 34 ∨ nth l k2 = 39) (hT : T = toP (pIs (nth l k2)) l (k2 + 1)) :
    valueR (l.drop (k + 1)) = (l.drop (k2 + 1), l.drop T, l.drop (min (T + 1) l.length)) := by
  have e : stopD pNotSp (l.drop (k + 1)) = l.getD k2 0 :: l.drop (k2 + 1) := by rw [← toP_drop, ← hk2, drop_cons l k2 hl]
  have hc : l.getD k2 0 = 34 ∨ l.getD k2 0 = 39 := by
    rcases hq with hq | hq
    · exact .inl (getD_is l k2 34 (by omega) hq)
    · exact .inr (getD_is l k2 39 (by omega) hq)
  unfold valueR
  rw [e]
  simp only
  rw [if_pos hc]
  have e2 : stopD (pIs (l.getD k2 0).toNat) (l.drop (k2 + 1)) = l.drop T := by rw [hT, toP_drop]; rfl
  rw [e2, List.drop_drop]
  congr 2
  rcases Nat.lt_or_ge T l.length with h' | h'
  · rw [Nat.min_eq_left (by omega)]
  · rw [Nat.min_eq_right (by omega), List.drop_of_length_le (by omega), List.drop_length]
theorem value_bare (k2 T : Nat) (k : Nat) (hk2 : k2 = toP pNotSp l (k + 1)) (hq : ¬ (k2 < l.length ∧ (nth l k2 = 34 ∨ nth l k2 = 39))) (hT : T = toP pVal l k2) (hle : k2 ≤ l.length) :
    valueR (l.drop (k + 1)) = (l.drop k2, l.drop T, l.drop T) := by
  rcases Nat.lt_or_ge k2 l.length with hl | hl
  · have e : stopD pNotSp (l.drop (k + 1)) = l.getD k2 0 :: l.drop (k2 + 1) := by rw [← toP_drop, ← hk2, drop_cons l k2 hl]
    have hc : ¬ (l.getD k2 0 = 34 ∨ l.getD k2 0 = 39) := by
      intro hc
      apply hq
      refine ⟨hl, ?_⟩
      unfold nth
      rcases hc with hc | hc <;> rw [hc]
      · exact .inl rfl
      · exact .inr rfl
    unfold valueR
    rw [e]
    simp only
    rw [if_neg hc, ← drop_cons l k2 hl, ← toP_drop, ← hT]
  · have e : stopD pNotSp (l.drop (k + 1)) = [] := by rw [← toP_drop, ← hk2, List.drop_of_length_le hl]
    have hT2 : T = l.length := by
      have := toP_le pVal l k2 hle
      omega
    unfold valueR
    rw [e]
    simp only
    rw [hT2, List.drop_length, List.drop_of_length_le hl]
/-- A link of a value, by places. -/
theorem add_at {seen : List (List UInt8)} {ls : List LinkD} {nm : List UInt8} {r3 : List UInt8} (a T : Nat) (h1 : a ≤ T) (h2 : T ≤ l.length) :
    addLink l.length nm seen (l.drop a, l.drop T, r3) ls = if leadsB nm && !seen.contains nm then ls ++ [⟨a, T, unamp ((l.take T).drop a)⟩] else ls := by
  unfold addLink
  simp only [List.length_drop]
  have e1 : l.length - (l.length - a) = a := by omega
  have e2 : l.length - (l.length - T) = T := by omega
  have e3 : (l.drop a).take (l.length - a - (l.length - T)) = (l.take T).drop a := by
    rw [List.drop_take]
    congr 1
    omega
  rw [e1, e2, e3]
end
end Go.Proofs.YtlbdnohnngkapaaGreatDoor

namespace Go.Proofs.YtlbdnohnngkapaaGreatDoor
/-- Does a text hold another one? -/
def hasS (s t : List UInt8) : Bool := decide (0 ≤ Lib.index s t)
end Go.Proofs.YtlbdnohnngkapaaGreatDoor

namespace Go.Proofs.YtlbdnohnngkapaaGreatDoor
open Go.RowKit

/-! ### strings.Contains -/
theorem Contains_any (s m : List UInt8) (w : World) (hM : MaxLenOk w) (hs : s.length ≤ 1000000) : Calls Tryz.prog 61 #[str s, str m] w fun e w' => e = .returned (.bool (hasS s m)) ∧ w = w' := by
  obtain ⟨k, hk⟩ := hM
  refine (Go.Proofs.Tryz.strings_Contains ⟨s.toArray⟩ ⟨m.toArray⟩ k w (by simp [ByteArray.size]; omega) hk).mono ?_
  rintro e w' ⟨rfl, rfl⟩
  exact ⟨rfl, rfl⟩
theorem Contains_big (s m : List UInt8) (w : World) (hM : MaxLenOk w) (hs : s.length ≤ 100000000) : Calls Tryz.prog 61 #[str s, str m] w fun e w' => e = .returned (.bool (hasS s m)) ∧ w = w' := by
  obtain ⟨k, hk⟩ := hM
  refine (Go.Proofs.Tryz.strings_Contains ⟨s.toArray⟩ ⟨m.toArray⟩ k w (by simp [ByteArray.size]; omega) hk).mono ?_
  rintro e w' ⟨rfl, rfl⟩
  exact ⟨rfl, rfl⟩
end Go.Proofs.YtlbdnohnngkapaaGreatDoor

namespace Go.Proofs.YtlbdnohnngkapaaGreatDoor
open Go.RowKit

/-! ### The closures of the document's LinksOf -/
/-- A variable that holds a text. -/
def BoxS (w : World) (g : Nat) (s : List UInt8) : Prop := w.cell? ⟨g, 0, none⟩ = some (str s) ∧ g < w.heap.size
theorem BoxS.below {w w' : World} {g : Nat} {s : List UInt8} (h : BoxS w g s) (hb : Below w.heap.size w w') : BoxS w' g s :=
  ⟨(hb.cell (p := ⟨g, 0, none⟩) h.2).trans h.1, Nat.lt_of_lt_of_le h.2 hb.size⟩
theorem BoxS.drewN {w : World} {g : Nat} {s : List UInt8} (h : BoxS w g s) (q : Nat) : BoxS (w.drewN q) g s := h
theorem one_at (s : List UInt8) (i : Nat) (h : i < s.length) : (s.take (i + 1)).drop i = [UInt8.ofNat (nth s i)] := by
  rw [nth_of s i h, List.take_add_one, List.drop_append_of_le_length (by rw [List.length_take]; omega), List.drop_of_length_le (by rw [List.length_take]; omega)]
  simp [h]
theorem hasS_one (l : List UInt8) (c : UInt8) : hasS l [c] = l.contains c := by
  unfold hasS
  by_cases h : c ∈ l
  · obtain ⟨x, y, rfl, hx⟩ := first_of l c h
    rw [index_seg x y c (fun hm => hx c hm rfl)]
    simp
  · rw [index_free l c h]
    simp [h]
theorem rl_space (s : List UInt8) (g i : Nat) (w : World) (hb : BoxS w g s) (hi : i < s.length) :
    Calls Tryz.prog 214 #[.int .i64 (i : Nat), .pointer (some ⟨g, 0, none⟩)] w fun e w' => e = .returned (.bool (isSp (nth s i))) ∧ w = w' := by
  have h := isSp_eq ⟨nth s i, nth_lt s i⟩
  simp only at h
  have hI := fun W => IndexByte_any [32, 9, 13, 10, 12] (nth s i) W
  generalize Lib.indexByte [32, 9, 13, 10, 12] (UInt8.ofNat (nth s i)) = z at h hI
  rw [h]
  have hc := hb.1
  have hi0 : (0 : Int) ≤ (i : Int) := by omega
  have hi1 : (i : Int) < (s.length : Int) := by omega
  have HI := Lib.hid hI
  clear h hI hb
  go_enter Tryz.func214, Tryz.ntmps214
  go_wp2_with fail
  refine (HI.out _).mono ?_
  rintro e w1 ⟨rfl, rfl⟩
  go_wp2_with fail
  go_ret
  exact ⟨rfl, rfl⟩

theorem rl_letter (s : List UInt8) (g i : Nat) (w : World) (hb : BoxS w g s) (hM : MaxLenOk w) (_hs : s.length ≤ 1000000) (hi : i ≤ 1000002) :
    Calls Tryz.prog 215 #[.int .i64 (i : Nat), .pointer (some ⟨g, 0, none⟩)] w fun e w' => e = .returned (.bool (letP s i)) ∧ Below w.heap.size w w' := by
  have hc := hb.1
  unfold letP
  by_cases hl : i < s.length
  · have d : decide (i < s.length) = true := by simpa using hl
    have hsm := small_any [UInt8.ofNat (nth s i)] w (by simp [maxLen])
    have hlo : lowL [UInt8.ofNat (nth s i)] = [lowB (UInt8.ofNat (nth s i))] := rfl
    have hlt := letter_small ⟨nth s i, nth_lt s i⟩
    simp only at hlt
    have hcn := fun W hM => Contains_any [97, 98, 99, 100, 101, 102, 103, 104, 105, 106, 107, 108, 109, 110, 111, 112, 113, 114, 115, 116, 117, 118, 119, 120, 121, 122] [lowB (UInt8.ofNat (nth s i))] W hM (by simp)
    simp only [hasS_one] at hcn
    rw [hlt] at hcn
    rw [hlo] at hsm
    rw [d, Bool.true_and]
    have h1 := one_at s i hl
    have hi0 : (0 : Int) ≤ (i : Int) := by omega
    have hi1 : (i : Int) ≤ (i : Int) + 1 := by omega
    have hi2 : (i : Int) + 1 ≤ (s.length : Int) := by omega
    have hsm2 : Calls Tryz.prog 207 #[str ((s.take (i + 1)).drop i)] w fun e w' => e = .returned (str [lowB (UInt8.ofNat (nth s i))]) ∧ Below w.heap.size w w' := by rw [h1]; exact hsm
    have Hsm := Lib.hid hsm2
    have Hcn := Lib.hid hcn
    have HM := Lib.hid hM
    have Hl := Lib.hid hl
    clear hlo hlt hcn h1 hsm hsm2 hM hl hb
    go_enter Tryz.func215, Tryz.ntmps215
    go_wp2_with fail
    refine Hsm.out.mono ?_
    rintro e w1 ⟨rfl, hb1⟩
    have Hb1 := Lib.hid hb1
    clear hb1
    go_wp2_with fail
    refine (Hcn.out w1 (HM.out.below Hb1.out)).mono ?_
    rintro e w2 ⟨rfl, rfl⟩
    go_wp2_with fail
    go_ret
    exact ⟨rfl, Hb1.out⟩
  · have d : decide (i < s.length) = false := by simpa using hl
    rw [d, Bool.false_and]
    clear hM hb hl
    go_enter Tryz.func215, Tryz.ntmps215
    go_wp2_with fail
    go_ret
    exact ⟨rfl, Below.refl _ _⟩
/-- Where one goes on behind a text. -/
def behP (s t : List UInt8) (i : Nat) : Nat := s.length - (pastL t (s.drop i)).length
theorem behP_drop (s t : List UInt8) (i : Nat) (h : i ≤ s.length) (ht : t ≠ []) : s.drop (behP s t i) = pastL t (s.drop i) ∧ behP s t i ≤ s.length ∧ (0 ≤ Lib.index (s.drop i) t → i ≤ behP s t i ∧ ((Lib.index (s.drop i) t).toNat + i + t.length = behP s t i)) := by
  unfold behP pastL
  by_cases hx : Lib.index (s.drop i) t < 0
  · rw [if_pos hx]
    refine ⟨by simp, by omega, fun h0 => absurd hx (by omega)⟩
  · rw [if_neg hx]
    obtain ⟨k, hk⟩ : ∃ k : Nat, Lib.index (s.drop i) t = k := ⟨(Lib.index (s.drop i) t).toNat, by omega⟩
    have hb := (index_keep t (s.drop i) [] k hk ht).2
    rw [List.length_drop] at hb
    rw [hk, List.drop_drop, List.length_drop, Int.toNat_natCast]
    refine ⟨?_, by omega, fun _ => ⟨by omega, by omega⟩⟩
    congr 1
    omega
theorem rl_behind (s t : List UInt8) (g i : Nat) (w : World) (hb : BoxS w g s) (hM : MaxLenOk w) (hs : s.length ≤ 1000000) (hi : i ≤ s.length) (ht : t ≠ []) (htl : t.length ≤ 10) :
    Calls Tryz.prog 216 #[.int .i64 (i : Nat), str t, .pointer (some ⟨g, 0, none⟩)] w fun e w' => e = .returned (.int .i64 (behP s t i : Nat)) ∧ w = w' := by
  have hc := hb.1
  obtain ⟨_, hbe, hbk⟩ := behP_drop s t i hi ht
  have hI := Index_any (s.drop i) t w hM (by rw [List.length_drop]; omega)
  have hI2 : Calls Tryz.prog 135 #[str (s.drop i), str t] w fun e w' => e = .returned (.int .i64 (Lib.index (s.drop i) t)) ∧ w' = w := hI
  have hi0 : (0 : Int) ≤ (i : Int) := by omega
  have hi1 : (i : Int) ≤ (s.length : Int) := by omega
  by_cases hx : Lib.index (s.drop i) t < 0
  · have e : behP s t i = s.length := by unfold behP pastL; rw [if_pos hx]; simp
    rw [e]
    generalize Lib.index (s.drop i) t = z at hx hI2
    have HI := Lib.hid hI2
    have d : decide (z < 0) = true := by simpa using hx
    clear hI hI2 hbk hbe e hM hb
    go_enter Tryz.func216, Tryz.ntmps216
    go_wp2_with fail
    refine HI.out.mono ?_
    rintro e w1 ⟨rfl, rfl⟩
    go_wp2_with fail
    go_ret
    exact ⟨rfl, rfl⟩
  · obtain ⟨k, hk⟩ : ∃ k : Nat, Lib.index (s.drop i) t = k := ⟨(Lib.index (s.drop i) t).toNat, by omega⟩
    rw [hk] at hI2 hbk
    obtain ⟨_, hk2⟩ := hbk (by omega)
    rw [Int.toNat_natCast] at hk2
    have e : ((behP s t i : Nat) : Int) = (i : Int) + (k : Int) + (t.length : Int) := by omega
    have HI := Lib.hid hI2
    have He := Lib.hid e
    have hk3 : k ≤ 1000000 := by omega
    have d : decide ((k : Int) < 0) = false := by simp
    clear hI hI2 hbk hbe e hM hb hk2 hk hx
    go_enter Tryz.func216, Tryz.ntmps216
    go_wp2_with fail
    refine HI.out.mono ?_
    rintro e w1 ⟨rfl, rfl⟩
    go_wp2_with fail
    go_ret
    exact ⟨by rw [He.out]; rfl, rfl⟩
end Go.Proofs.YtlbdnohnngkapaaGreatDoor

namespace Go.Proofs.YtlbdnohnngkapaaGreatDoor
open Go.RowKit

/-! ### strings.Join -/
theorem strs_data (l : List (List UInt8)) : (l.map fun x => (⟨x.toArray⟩ : ByteArray)).map (fun s => s.data.toList) = l := by
  rw [List.map_map]
  conv => rhs; rw [← List.map_id l]
  exact List.map_congr_left fun _ _ => rfl
theorem JoinS_any (l : List (List UInt8)) (sep : List UInt8) (S : Option Addr) (c B : Nat) (w : World) (h : Sl w B 1 S l.length (l.map str)) (hB : B ≤ w.heap.size) (hc : l.length ≤ c) (hn : l.length ≤ 100000000) (hlen : (Lib.join l sep).length ≤ 100000000) :
    Calls Tryz.prog 62 #[.slice S l.length c, .string ⟨sep.toArray⟩] w fun e w' => e = .returned (str (Lib.join l sep)) ∧ Below w.heap.size w w' := by
  rcases l with _ | ⟨x, r⟩
  · refine (Go.Proofs.Tryz.strings_Join_none S c ⟨sep.toArray⟩ w).mono ?_
    rintro e w' ⟨rfl, rfl⟩
    exact ⟨rfl, Below.refl _ _⟩
  · obtain ⟨b, off, rfl, hb, hcell⟩ := h.2 (by simp)
    have e1 := strs_data (x :: r)
    have hk := Go.Proofs.Tryz.strings_Join b off c ((x :: r).map fun l => (⟨l.toArray⟩ : ByteArray)) ⟨sep.toArray⟩ w (fun j y hy => by
      refine hcell j _ ?_
      rw [List.getElem?_map] at hy ⊢
      cases hq : (x :: r)[j]? with
      | none => rw [hq] at hy; cases hy
      | some z => rw [hq] at hy; simp at hy; subst hy; rfl) (Nat.lt_of_lt_of_le hb hB) (by simp at hn ⊢; omega) (by simpa using hc) (by rw [e1]; show (Lib.join (x :: r) sep).length ≤ _; omega)
    rw [e1] at hk
    simp only [List.length_map] at hk
    exact hk
end Go.Proofs.YtlbdnohnngkapaaGreatDoor

namespace Go.Proofs.YtlbdnohnngkapaaGreatDoor
open Go.RowKit
theorem infoStrR : (Tryz.prog.info? 9).map (fun i => (i.zero, i.size, i.bytes)) = some (some (.string ⟨#[]⟩), 1, 16) := by kernel_rfl

/-- The outer loop. -/
def LkRel (W0 : World) (n : Nat) (l : List UInt8) (R : Option (List LinkD)) (v2 v3 v4 v9 : Value) (wr : World) : Prop :=
  ∃ (i m c : Nat) (S : Option Addr) (out : List LinkD), v2 = .slice none 0 0 ∧ v3 = .int .i64 0 ∧ v4 = .slice S m c ∧ v9 = .int .i64 (i : Nat) ∧ i ≤ n ∧ m ≤ 60 ∧ Hid (out.length = m ∧ FL l.length (l.drop i) out = R) ∧
    wr.ownsRow W0.heap.size 53 3 (.slice S m c) m (linkC out) ∧ Below W0.heap.size W0 wr
/-- The attributes of a tag. -/
def AtRel (wt : World) (n p1 : Nat) (l : List UInt8) (RA : Option (List UInt8 × List LinkD)) (v9 v11 v12 : Value) (wr : World) : Prop :=
  ∃ (i m c k c2 : Nat) (S S2 : Option Addr) (ls : List LinkD) (names : List (List UInt8)), v9 = .int .i64 (i : Nat) ∧ v11 = .slice S m c ∧ v12 = .slice S2 k c2 ∧ p1 ≤ i ∧ i ≤ n ∧ m ≤ i ∧ k ≤ i ∧
    Hid (ls.length = m ∧ names.length = k ∧ AL l.length (l.drop i) names.reverse ls = RA) ∧ wr.ownsRow wt.heap.size 53 3 (.slice S m c) m (linkC ls) ∧ wr.ownsRow wt.heap.size 9 1 (.slice S2 k c2) k (names.map str) ∧ Below wt.heap.size wt wr
theorem own_types {w : World} {b b' : Nat} {e e' : TypeId} {z z' n n' : Nat} {v v' : Value} {xs xs' : List Value} (h : w.ownsRow b e z v n xs) (h' : w.ownsRow b' e' z' v' n' xs') (hne : e ≠ e') : v.ownBlock = none ∨ v.ownBlock ≠ v'.ownBlock := by
  rcases h.2 with ⟨rfl, _⟩ | ⟨g, cap, cur, rfl, _, hg, _⟩
  · exact .inl rfl
  · right
    intro e0
    rcases h'.2 with ⟨rfl, _⟩ | ⟨g', cap', cur', rfl, _, hg', _⟩
    · cases e0
    · injection e0 with e0
      simp only at e0
      subst e0
      rw [hg] at hg'
      injection hg' with hg'
      injection hg' with _ hg' _
      exact hne hg'
/-- A link's variable. -/
def BoxL (w : World) (g : Nat) (fr tl : Int) (t : List UInt8) : Prop := w.heap[g]? = some (.cells #[.int .i64 fr, .int .i64 tl, str t] 53)
section
variable {w : World} {g : Nat} {fr tl : Int} {t : List UInt8}
theorem BoxL.lt (h : BoxL w g fr tl t) : g < w.heap.size := by
  rcases Nat.lt_or_ge g w.heap.size with h' | h'
  · exact h'
  · unfold BoxL at h; rw [Array.getElem?_eq_none h'] at h; cases h
theorem BoxL.cells (h : BoxL w g fr tl t) : w.cell? ⟨g, 0, none⟩ = some (.int .i64 fr) ∧ w.cell? ⟨g, 1, none⟩ = some (.int .i64 tl) ∧ w.cell? ⟨g, 2, none⟩ = some (str t) := by
  unfold BoxL at h
  refine ⟨?_, ?_, ?_⟩ <;> (unfold World.cell?; simp only [h]; rfl)
theorem BoxL.fz (h : BoxL w g fr tl t) (k : Nat) : w.frozen? ⟨g, k, none⟩ = false := by
  unfold BoxL at h
  unfold World.frozen?
  simp [h]
theorem BoxL.set0 (h : BoxL w g fr tl t) (x : Int) : BoxL (w.setCell ⟨g, 0, none⟩ (.int .i64 x)) g x tl t := by
  unfold BoxL at h ⊢
  unfold World.setCell
  rw [Array.getElem?_modify, if_pos rfl, h]
  rfl
theorem BoxL.set1 (h : BoxL w g fr tl t) (x : Int) : BoxL (w.setCell ⟨g, 1, none⟩ (.int .i64 x)) g fr x t := by
  unfold BoxL at h ⊢
  unfold World.setCell
  rw [Array.getElem?_modify, if_pos rfl, h]
  rfl
theorem BoxL.set2 (h : BoxL w g fr tl t) (x : List UInt8) : BoxL (w.setCell ⟨g, 2, none⟩ (str x)) g fr tl x := by
  unfold BoxL at h ⊢
  unfold World.setCell
  rw [Array.getElem?_modify, if_pos rfl, h]
  rfl
theorem BoxL.below {w' : World} (h : BoxL w g fr tl t) (hb : Below w.heap.size w w') : BoxL w' g fr tl t := (hb.block g h.lt).trans h
end
theorem Contains_strs (l : List (List UInt8)) (x : List UInt8) (S : Option Addr) (n c B : Nat) (w : World) (h : Sl w B 1 S n (l.map str)) (hn : n ≤ 100000000) :
    Calls Tryz.prog 217 #[.slice S n c, str x] w fun e w' => e = .returned (.bool (l.contains x)) ∧ w = w' := by
  have hl : l.length = n := by have := h.len; simpa using this
  rcases Nat.eq_zero_or_pos n with h0 | h0
  · subst h0
    obtain rfl : l = [] := List.eq_nil_of_length_eq_zero hl
    refine (Go.Proofs.Tryz.slices_Contains_string_empty S c ⟨x.toArray⟩ w).mono ?_
    rintro e w' ⟨rfl, rfl⟩
    exact ⟨rfl, rfl⟩
  · obtain ⟨b, off, rfl, _, hcell⟩ := h.2 h0
    refine (Go.Proofs.Tryz.slices_Contains_string b off n c (l.map fun x => (⟨x.toArray⟩ : ByteArray)) ⟨x.toArray⟩ w (by simp; omega) (by omega) (fun j hj => by
      have hj' : j < l.length := by simpa using hj
      have := hcell j (str l[j]) (by simp [hj'])
      rw [this]
      simp [List.getD, hj', str])).mono ?_
    rintro e w' ⟨rfl, rfl⟩
    refine ⟨?_, rfl⟩
    have e1 : (l.map fun x => (⟨x.toArray⟩ : ByteArray)).take n = l.map fun x => (⟨x.toArray⟩ : ByteArray) := List.take_of_length_le (by simp; omega)
    rw [e1]
    congr 2
    rw [Bool.eq_iff_iff, Lib.containsS_iff, List.contains_iff_mem]
    constructor
    · intro hx
      obtain ⟨y, hy, he⟩ := List.mem_map.1 hx
      have := congrArg (fun b : ByteArray => b.data.toList) he
      simp at this
      exact this ▸ hy
    · intro hx
      exact List.mem_map.2 ⟨x, hx, rfl⟩
def ampB : List UInt8 := [38, 97, 109, 112, 59]
theorem SplitAmp (t : List UInt8) (w : World) (hM : MaxLenOk w) (hs : t.length ≤ 1000000) :
    Calls Tryz.prog 130 #[str t, .string ⟨#[38, 97, 109, 112, 59]⟩] w fun e w' => ∃ S c, e = .returned (.slice S (Lib.split t ampB).length c) ∧ Sl w' w'.heap.size 1 S (Lib.split t ampB).length ((Lib.split t ampB).map str) ∧ (Lib.split t ampB).length ≤ c ∧ Below w.heap.size w w' := by
  obtain ⟨m, hm⟩ := hM
  have hc := Go.Proofs.Tryz.strings_Split ⟨t.toArray⟩ ⟨#[38, 97, 109, 112, 59]⟩ m w (by simp [ByteArray.size]; omega) hm (by decide)
  have hd := Lib.splitB_data ⟨#[38, 97, 109, 112, 59]⟩ 0 (Lib.countB ⟨t.toArray⟩ ⟨#[38, 97, 109, 112, 59]⟩) ⟨t.toArray⟩
  have he : (Lib.splitB ⟨#[38, 97, 109, 112, 59]⟩ 0 (Lib.countB ⟨t.toArray⟩ ⟨#[38, 97, 109, 112, 59]⟩) ⟨t.toArray⟩).map (·.data.toList) = Lib.split t ampB := hd
  have hl : Lib.countB ⟨t.toArray⟩ ⟨#[38, 97, 109, 112, 59]⟩ + 1 = (Lib.split t ampB).length := by
    rw [← he, List.length_map, Lib.splitB_all ⟨#[38, 97, 109, 112, 59]⟩ (by decide) 0 _ _ rfl]
  have hcells : (Lib.splitB ⟨#[38, 97, 109, 112, 59]⟩ 0 (Lib.countB ⟨t.toArray⟩ ⟨#[38, 97, 109, 112, 59]⟩) ⟨t.toArray⟩).map Value.string = (Lib.split t ampB).map str := by
    rw [← he, List.map_map]
    exact List.map_congr_left fun s _ => str_of s
  rw [hcells, hl] at hc
  refine hc.mono ?_
  rintro e w' ⟨rfl, rfl⟩
  have h1 := Sl.row w 9 1 (Lib.split t ampB).length ((Lib.split t ampB).map str) (by simp)
  exact ⟨_, _, rfl, by rw [World.size_alloc]; exact h1, Nat.le_refl _, (Below.refl _ w).alloc (Nat.le_refl _) _⟩
theorem split_len (t : List UInt8) : (Lib.split t ampB).length ≤ t.length + 1 := by
  have h := Lib.countB_le ⟨ampB.toArray⟩ (by decide) t.length ⟨t.toArray⟩ (by simp [ByteArray.size])
  have he : (Lib.split t ampB).length = Lib.countB ⟨t.toArray⟩ ⟨#[38, 97, 109, 112, 59]⟩ + 1 := by
    have hd := Lib.splitB_data ⟨#[38, 97, 109, 112, 59]⟩ 0 (Lib.countB ⟨t.toArray⟩ ⟨#[38, 97, 109, 112, 59]⟩) ⟨t.toArray⟩
    have he : (Lib.splitB ⟨#[38, 97, 109, 112, 59]⟩ 0 (Lib.countB ⟨t.toArray⟩ ⟨#[38, 97, 109, 112, 59]⟩) ⟨t.toArray⟩).map (·.data.toList) = Lib.split t ampB := hd
    rw [← he, List.length_map, Lib.splitB_all ⟨#[38, 97, 109, 112, 59]⟩ (by decide) 0 _ _ rfl]
  have h2 : Lib.countB ⟨t.toArray⟩ ⟨#[38, 97, 109, 112, 59]⟩ ≤ t.length := by simpa [ByteArray.size, ampB] using h
  omega
theorem unampJ (t : List UInt8) : Lib.join (Lib.split t ampB) [38] = unamp t := unamp_join t
/-- What an attribute does. -/
def NextL (l : List UInt8) (i : Nat) (nm : List UInt8) (i2 : Nat) (fr tl : Int) : Prop :=
  i < i2 ∧ i2 ≤ l.length ∧ ((fr = -1 ∧ ∀ seen ls, AL l.length (l.drop i) seen ls = AL l.length (l.drop i2) (nm :: seen) ls) ∨
    ∃ a z : Nat, fr = a ∧ tl = z ∧ a ≤ z ∧ z ≤ l.length ∧ ∀ seen ls, AL l.length (l.drop i) seen ls = AL l.length (l.drop i2) (nm :: seen) (if leadsB nm && !seen.contains nm then ls ++ [⟨a, z, unamp ((l.take z).drop a)⟩] else ls))
section
variable {l : List UInt8} {i j k : Nat}
theorem NextL.bare (h : i < l.length) (hp : pAttr (nth l i) = true) (h62 : nth l i ≠ 62) (hj : toP pEq l (i + 1) = j) (hk : toP pNotSp l j = k) (hno : (decide (k < l.length) && nth l k == 61) = false) : NextL l i (lowL ((l.take j).drop i)) j (-1) 0 := by
  have h1 := toP_le pEq l (i + 1) (by omega)
  rw [hj] at h1
  refine ⟨by omega, h1.2, .inl ⟨rfl, fun seen ls => AL_bare h hp h62 j k hj.symm hk.symm ?_⟩⟩
  rintro ⟨a, b⟩
  simp [a, b] at hno
theorem NextL.quo (h : i < l.length) (hp : pAttr (nth l i) = true) (h62 : nth l i ≠ 62) (hj : toP pEq l (i + 1) = j) (hk : toP pNotSp l j = k) (hkl : k < l.length) (h61 : nth l k = 61) {k2 T : Nat} (hk2 : toP pNotSp l (k + 1) = k2) (hl : k2 < l.length) (hq : nth l k2 = 34 ∨ nth l k2 = 39) (hT : toP (pIs (nth l k2)) l (k2 + 1) = T) :
    NextL l i (lowL ((l.take j).drop i)) (min (T + 1) l.length) ((k2 + 1 : Nat) : Int) (T : Int) := by
  have h1 := toP_le pEq l (i + 1) (by omega)
  have h2 := toP_le pNotSp l j (by omega)
  have h3 := toP_le pNotSp l (k + 1) (by omega)
  have h4 := toP_le (pIs (nth l k2)) l (k2 + 1) (by omega)
  rw [hj] at h1
  rw [hk] at h2
  rw [hk2] at h3
  rw [hT] at h4
  refine ⟨by omega, Nat.min_le_right _ _, .inr ⟨k2 + 1, T, rfl, rfl, h4.1, h4.2, fun seen ls => ?_⟩⟩
  rw [AL_val h hp h62 j k hj.symm hk.symm hkl h61, value_quo k2 T k hk2.symm hl hq hT.symm]
  simp only
  rw [add_at (k2 + 1) T h4.1 h4.2]
theorem NextL.val (h : i < l.length) (hp : pAttr (nth l i) = true) (h62 : nth l i ≠ 62) (hj : toP pEq l (i + 1) = j) (hk : toP pNotSp l j = k) (hkl : k < l.length) (h61 : nth l k = 61) {k2 T : Nat} (hk2 : toP pNotSp l (k + 1) = k2) (hq : (decide (k2 < l.length) && (nth l k2 == 34 || nth l k2 == 39)) = false) (hT : toP pVal l k2 = T) :
    NextL l i (lowL ((l.take j).drop i)) T (k2 : Int) (T : Int) := by
  have h1 := toP_le pEq l (i + 1) (by omega)
  have h2 := toP_le pNotSp l j (by omega)
  have h3 := toP_le pNotSp l (k + 1) (by omega)
  rw [hj] at h1
  rw [hk] at h2
  rw [hk2] at h3
  have h4 := toP_le pVal l k2 (by omega)
  rw [hT] at h4
  refine ⟨by omega, h4.2, .inr ⟨k2, T, rfl, rfl, h4.1, h4.2, fun seen ls => ?_⟩⟩
  rw [AL_val h hp h62 j k hj.symm hk.symm hkl h61, value_bare k2 T k hk2.symm (by rintro ⟨a, b⟩; rcases b with b | b <;> simp [a, b] at hq) hT.symm (by omega)]
  simp only
  rw [add_at k2 T h4.1 h4.2]
end
theorem index_quo (l : List UInt8) (a : Nat) (q : Nat) (hq : q < 256) (_h : a ≤ l.length) : Lib.index (l.drop a ++ [UInt8.ofNat q]) [UInt8.ofNat q] = ((toP (pIs q) l a - a : Nat) : Int) := by
  have hT : toP (pIs q) l a - a = (stopT (pIs q) (l.drop a)).length := by unfold toP; omega
  rw [hT]
  have hst := stop_app (pIs q) (l.drop a)
  have hno : ∀ b ∈ stopT (pIs q) (l.drop a), b ≠ UInt8.ofNat q := by
    intro b hb e
    have := stopT_not (pIs q) (l.drop a) b hb
    rw [e] at this
    unfold pIs at this
    rw [UInt8.toNat_ofNat'] at this
    simp at this
    omega
  have key : ∀ x y : List UInt8, (∀ b ∈ x, b ≠ UInt8.ofNat q) → Lib.index (x ++ UInt8.ofNat q :: y) [UInt8.ofNat q] = (x.length : Nat) := fun x y hx => index_seg x y (UInt8.ofNat q) (fun hm => hx _ hm rfl)
  cases hd : stopD (pIs q) (l.drop a) with
  | nil =>
    rw [hd, List.append_nil] at hst
    have h2 := key (stopT (pIs q) (l.drop a)) [] hno
    rw [hst] at h2
    rw [h2, hst]
  | cons c r =>
    have hc := stopD_head (pIs q) (l.drop a) c r hd
    have hce : c = UInt8.ofNat q := by
      unfold pIs at hc
      apply UInt8.toNat_inj.1
      rw [UInt8.toNat_ofNat']
      simp at hc
      omega
    rw [hd, hce] at hst
    have h2 := key (stopT (pIs q) (l.drop a)) (r ++ [UInt8.ofNat q]) hno
    rw [← h2, ← List.cons_append, ← List.append_assoc, hst]
theorem behP_gt (l t : List UInt8) (j : Nat) (hj : j ≤ l.length) (ht : t ≠ []) (i : Nat) (hi : i < l.length) (hij : i ≤ j) : i < behP l t j := by
  obtain ⟨_, _, h3⟩ := behP_drop l t j hj ht
  have htl := List.length_pos_iff.2 ht
  by_cases hx : 0 ≤ Lib.index (l.drop j) t
  · have := (h3 hx).2
    omega
  · unfold behP pastL
    rw [if_pos (by omega)]
    simpa using hi
theorem cont_rev (names : List (List UInt8)) (x : List UInt8) : names.reverse.contains x = names.contains x := by
  rw [Bool.eq_iff_iff, List.contains_iff_mem, List.contains_iff_mem, List.mem_reverse]
end Go.Proofs.YtlbdnohnngkapaaGreatDoor

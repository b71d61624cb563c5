import Derived.Test.YtacecobfhaihhaaDoorU6
import Derived.Test.YtacecobfhaihhaaDoorU4
import Derived.Lib.IndexMore
import Derived.Test.YtacecobfhaihhaaDoorU2
import Derived.Deep.CutBlock
import Derived.Deep.DeepCutAuto
namespace Go.Proofs.YtacecobfhaihhaaDoor
open Go.RowKit

/-! ### The closures of the document's LinksOf -/
/-- A variable that holds a text. -/
def BoxS (w : World) (g : Nat) (s : List UInt8) : Prop := w.cell? ⟨g, 0, none⟩ = some (str s) ∧ g < w.heap.size
theorem BoxS.below {w w' : World} {g : Nat} {s : List UInt8} (h : BoxS w g s) (hb : Below w.heap.size w w') : BoxS w' g s :=
  ⟨(hb.cell (p := ⟨g, 0, none⟩) h.2).trans h.1, Nat.lt_of_lt_of_le h.2 hb.size⟩
theorem BoxS.drewN {w : World} {g : Nat} {s : List UInt8} (h : BoxS w g s) (q : Nat) : BoxS (w.drewN q) g s := h
theorem one_at (s : List UInt8) (i : Nat) (h : i < s.length) : (s.take (i + 1)).drop i = [UInt8.ofNat (nth s i)] := by
  rw [nth_of s i h, List.take_add_one, List.drop_append_of_le_length (by rw [List.length_take]; omega), List.drop_of_length_le (by rw [List.length_take]; omega)]
  simp [h]
theorem hasS_one (l : List UInt8) (c : UInt8) : hasS l [c] = l.contains c := by
  unfold hasS
  by_cases h : c ∈ l
  · obtain ⟨x, y, rfl, hx⟩ := first_of l c h
    rw [index_seg x y c (fun hm => hx c hm rfl)]
    simp
  · rw [index_free l c h]
    simp [h]
theorem rl_space (s : List UInt8) (g i : Nat) (w : World) (hb : BoxS w g s) (hi : i < s.length) :
    Calls Tryd.prog 37 #[.int .i64 (i : Nat), .pointer (some ⟨g, 0, none⟩)] w fun e w' => e = .returned (.bool (isSp (nth s i))) ∧ w = w' := by
  have h := isSp_eq ⟨nth s i, nth_lt s i⟩
  simp only at h
  have hI := fun W => IndexByte_any [32, 9, 13, 10, 12] (nth s i) W
  generalize Lib.indexByte [32, 9, 13, 10, 12] (UInt8.ofNat (nth s i)) = z at h hI
  rw [h]
  have hc := hb.1
  have hi0 : (0 : Int) ≤ (i : Int) := by omega
  have hi1 : (i : Int) < (s.length : Int) := by omega
  have HI := Lib.hid hI
  clear h hI hb
  go_enter Tryd.func37, Tryd.ntmps37
  go_wp2_with fail
  refine (HI.out _).mono ?_
  rintro e w1 ⟨rfl, rfl⟩
  go_wp2_with fail
  go_ret
  exact ⟨rfl, rfl⟩

theorem rl_letter (s : List UInt8) (g i : Nat) (w : World) (hb : BoxS w g s) (hM : MaxLenOk w) (_hs : s.length ≤ 1000000) (hi : i ≤ 1000002) :
    Calls Tryd.prog 39 #[.int .i64 (i : Nat), .pointer (some ⟨g, 0, none⟩)] w fun e w' => e = .returned (.bool (letP s i)) ∧ Below w.heap.size w w' := by
  have hc := hb.1
  unfold letP
  by_cases hl : i < s.length
  · have d : decide (i < s.length) = true := by simpa using hl
    have hsm := small_any [UInt8.ofNat (nth s i)] w (by simp [maxLen])
    have hlo : lowL [UInt8.ofNat (nth s i)] = [lowB (UInt8.ofNat (nth s i))] := rfl
    have hlt := letter_small ⟨nth s i, nth_lt s i⟩
    simp only at hlt
    have hcn := fun W hM => Contains_any [97, 98, 99, 100, 101, 102, 103, 104, 105, 106, 107, 108, 109, 110, 111, 112, 113, 114, 115, 116, 117, 118, 119, 120, 121, 122] [lowB (UInt8.ofNat (nth s i))] W hM (by simp)
    simp only [hasS_one] at hcn
    rw [hlt] at hcn
    rw [hlo] at hsm
    rw [d, Bool.true_and]
    have h1 := one_at s i hl
    have hi0 : (0 : Int) ≤ (i : Int) := by omega
    have hi1 : (i : Int) ≤ (i : Int) + 1 := by omega
    have hi2 : (i : Int) + 1 ≤ (s.length : Int) := by omega
    have hsm2 : Calls Tryd.prog 41 #[str ((s.take (i + 1)).drop i)] w fun e w' => e = .returned (str [lowB (UInt8.ofNat (nth s i))]) ∧ Below w.heap.size w w' := by rw [h1]; exact hsm
    have Hsm := Lib.hid hsm2
    have Hcn := Lib.hid hcn
    have HM := Lib.hid hM
    have Hl := Lib.hid hl
    clear hlo hlt hcn h1 hsm hsm2 hM hl hb
    go_enter Tryd.func39, Tryd.ntmps39
    go_wp2_with fail
    refine Hsm.out.mono ?_
    rintro e w1 ⟨rfl, hb1⟩
    have Hb1 := Lib.hid hb1
    clear hb1
    go_wp2_with fail
    refine (Hcn.out w1 (HM.out.below Hb1.out)).mono ?_
    rintro e w2 ⟨rfl, rfl⟩
    go_wp2_with fail
    go_ret
    exact ⟨rfl, Hb1.out⟩
  · have d : decide (i < s.length) = false := by simpa using hl
    rw [d, Bool.false_and]
    clear hM hb hl
    go_enter Tryd.func39, Tryd.ntmps39
    go_wp2_with fail
    go_ret
    exact ⟨rfl, Below.refl _ _⟩
/-- Where one goes on behind a text. -/
def behP (s t : List UInt8) (i : Nat) : Nat := s.length - (pastL t (s.drop i)).length
theorem behP_drop (s t : List UInt8) (i : Nat) (h : i ≤ s.length) (ht : t ≠ []) : s.drop (behP s t i) = pastL t (s.drop i) ∧ behP s t i ≤ s.length ∧ (0 ≤ Lib.index (s.drop i) t → i ≤ behP s t i ∧ ((Lib.index (s.drop i) t).toNat + i + t.length = behP s t i)) := by
  unfold behP pastL
  by_cases hx : Lib.index (s.drop i) t < 0
  · rw [if_pos hx]
    refine ⟨by simp, by omega, fun h0 => absurd hx (by omega)⟩
  · rw [if_neg hx]
    obtain ⟨k, hk⟩ : ∃ k : Nat, Lib.index (s.drop i) t = k := ⟨(Lib.index (s.drop i) t).toNat, by omega⟩
    have hb := (index_keep t (s.drop i) [] k hk ht).2
    rw [List.length_drop] at hb
    rw [hk, List.drop_drop, List.length_drop, Int.toNat_natCast]
    refine ⟨?_, by omega, fun _ => ⟨by omega, by omega⟩⟩
    congr 1
    omega
theorem rl_behind (s t : List UInt8) (g i : Nat) (w : World) (hb : BoxS w g s) (hM : MaxLenOk w) (hs : s.length ≤ 1000000) (hi : i ≤ s.length) (ht : t ≠ []) (htl : t.length ≤ 10) :
    Calls Tryd.prog 42 #[.int .i64 (i : Nat), str t, .pointer (some ⟨g, 0, none⟩)] w fun e w' => e = .returned (.int .i64 (behP s t i : Nat)) ∧ w = w' := by
  have hc := hb.1
  obtain ⟨_, hbe, hbk⟩ := behP_drop s t i hi ht
  have hI := Index_any (s.drop i) t w hM (by rw [List.length_drop]; omega)
  have hI2 : Calls Tryd.prog 43 #[str (s.drop i), str t] w fun e w' => e = .returned (.int .i64 (Lib.index (s.drop i) t)) ∧ w' = w := hI
  have hi0 : (0 : Int) ≤ (i : Int) := by omega
  have hi1 : (i : Int) ≤ (s.length : Int) := by omega
  by_cases hx : Lib.index (s.drop i) t < 0
  · have e : behP s t i = s.length := by unfold behP pastL; rw [if_pos hx]; simp
    rw [e]
    generalize Lib.index (s.drop i) t = z at hx hI2
    have HI := Lib.hid hI2
    have d : decide (z < 0) = true := by simpa using hx
    clear hI hI2 hbk hbe e hM hb
    go_enter Tryd.func42, Tryd.ntmps42
    go_wp2_with fail
    refine HI.out.mono ?_
    rintro e w1 ⟨rfl, rfl⟩
    go_wp2_with fail
    go_ret
    exact ⟨rfl, rfl⟩
  · obtain ⟨k, hk⟩ : ∃ k : Nat, Lib.index (s.drop i) t = k := ⟨(Lib.index (s.drop i) t).toNat, by omega⟩
    rw [hk] at hI2 hbk
    obtain ⟨_, hk2⟩ := hbk (by omega)
    rw [Int.toNat_natCast] at hk2
    have e : ((behP s t i : Nat) : Int) = (i : Int) + (k : Int) + (t.length : Int) := by omega
    have HI := Lib.hid hI2
    have He := Lib.hid e
    have hk3 : k ≤ 1000000 := by omega
    have d : decide ((k : Int) < 0) = false := by simp
    clear hI hI2 hbk hbe e hM hb hk2 hk hx
    go_enter Tryd.func42, Tryd.ntmps42
    go_wp2_with fail
    refine HI.out.mono ?_
    rintro e w1 ⟨rfl, rfl⟩
    go_wp2_with fail
    go_ret
    exact ⟨by rw [He.out]; rfl, rfl⟩
end Go.Proofs.YtacecobfhaihhaaDoor

namespace Go.Proofs.YtacecobfhaihhaaDoor
open Go.RowKit

/-- What a link says is no longer than the page. -/
theorem replaceK_le {old new : List UInt8} (h : new.length ≤ old.length) : ∀ (k : Nat) (s : List UInt8), (Lib.replaceK old new k s).length ≤ s.length
  | 0, s => by rw [Lib.replaceK]; exact Nat.le_refl _
  | k + 1, s => by
    rw [Lib.replaceK]
    split
    · exact Nat.le_refl _
    · rename_i hm
      have h0 := Lib.index_ge s old
      have h1 : 0 ≤ Lib.index s old := by
        have : Lib.index s old ≠ -1 := fun e => hm (by rw [e]; rfl)
        omega
      have h2 := Lib.index_room s old h1
      have ih := replaceK_le h k (s.drop ((Lib.index s old).toNat + old.length))
      simp only [List.length_append, List.length_take, List.length_drop] at ih ⊢
      omega
theorem unamp_le (s : List UInt8) : (unamp s).length ≤ s.length := by
  unfold unamp Lib.replaceAll Lib.replace
  split
  · exact Nat.le_refl _
  · exact replaceK_le (by decide) _ _
def TextLe (N : Nat) (ls : List LinkD) : Prop := ∀ x ∈ ls, x.text.length ≤ N
theorem addLink_text {N n : Nat} {name : List UInt8} {seen : List (List UInt8)} {v : List UInt8 × List UInt8 × List UInt8} {ls : List LinkD} (h : TextLe N ls) (hv : v.1.length ≤ N) : TextLe N (addLink n name seen v ls) := by
  unfold addLink
  split
  · intro x hx
    rcases List.mem_append.1 hx with hx | hx
    · exact h x hx
    · rw [List.mem_singleton.1 hx]
      refine Nat.le_trans (unamp_le _) ?_
      rw [List.length_take]
      omega
  · exact h
theorem attrsL_text (N n : Nat) : ∀ (f : Nat) (r : List UInt8) (seen : List (List UInt8)) (ls : List LinkD), r.length ≤ N → TextLe N ls → ∀ r' ls', attrsL n f r seen ls = some (r', ls') → r'.length ≤ N ∧ TextLe N ls'
  | 0, _, _, _, _, _, r', ls', h => by simp [attrsL] at h
  | f + 1, r, seen, ls, hr, hl, r', ls', h => by
    unfold attrsL at h
    have hs := stopD_len pAttr r
    cases hc : stopD pAttr r with
    | nil => rw [hc] at h; simp at h
    | cons c r2 =>
      rw [hc] at h hs
      simp only [List.length_cons] at hs
      simp only at h
      have h2 := stopD_len pEq r2
      have h3 := stopD_len pNotSp (stopD pEq r2)
      split at h
      · injection h with h
        injection h with e1 e2
        subst e1; subst e2
        exact ⟨by omega, hl⟩
      · split at h
        · obtain ⟨v1, v2, _⟩ := valueR_in (stopD pNotSp (stopD pEq r2)).tail
          have l1 := v1.length_le
          have l2 := v2.length_le
          rw [List.length_tail] at l1 l2
          exact attrsL_text N n f _ _ _ (by omega) (addLink_text hl (by omega)) r' ls' h
        · exact attrsL_text N n f _ _ _ (by omega) hl r' ls' h
theorem tagL_text {N n : Nat} {r : List UInt8} {shut : Bool} {out : List LinkD} (hr : r.length ≤ N) (ho : TextLe N out) : (tagL n r shut out).1.length ≤ N ∧ TextLe N (tagL n r shut out).2 := by
  unfold tagL
  have hs := stopD_len pName r
  cases h : attrsL n ((stopD pName r).length + 1) (stopD pName r) [] [] with
  | none => exact ⟨Nat.zero_le _, ho⟩
  | some x =>
    obtain ⟨r', ls⟩ := x
    obtain ⟨h1, h2⟩ := attrsL_text N n _ _ _ _ (by omega) (fun x hx => by simp at hx) r' ls h
    refine ⟨h1, ?_⟩
    simp only
    split
    · exact ho
    · intro x hx
      rcases List.mem_append.1 hx with hx | hx
      · exact ho x hx
      · exact h2 x hx
theorem stepL_text {N n : Nat} {r : List UInt8} {out : List LinkD} (hr : r.length ≤ N) (ho : TextLe N out) : (stepL n r out).1.length ≤ N ∧ TextLe N (stepL n r out).2 := by
  unfold stepL
  have h4 := (pastL_suffix [45, 45, 62] (r.drop 4)).length_le
  have h5 := (pastL_suffix [62] r).length_le
  rw [List.length_drop] at h4
  split
  · exact ⟨by simp only; omega, ho⟩
  · split
    · exact ⟨by simp only; omega, ho⟩
    · split
      · exact tagL_text (by rw [List.length_drop]; omega) ho
      · split
        · exact tagL_text (by rw [List.length_drop]; omega) ho
        · exact ⟨by simp only [List.length_drop]; omega, ho⟩
theorem findL_text {N n : Nat} : ∀ (f : Nat) (r : List UInt8) (out : List LinkD), r.length ≤ N → TextLe N out → ∀ ls, findL n f r out = some ls → TextLe N ls
  | 0, r, out, hr, ho, ls, h => by
    rw [findL] at h
    injection h with h
    exact h ▸ ho
  | f + 1, r, out, hr, ho, ls, h => by
    rw [findL] at h
    split at h
    · injection h with h
      exact h ▸ ho
    · split at h
      · cases h
      · have hs := stopD_len (pIs 60) r
        obtain ⟨h1, h2⟩ := stepL_text (n := n) (r := stopD (pIs 60) r) (by omega) ho
        exact findL_text f _ _ h1 h2 ls h
theorem findE_text (b : List UInt8) : TextLe b.length (findE b).1 := by
  unfold findE
  split
  · intro x hx; cases hx
  · cases h : findB b with
    | none => intro x hx; cases hx
    | some ls => exact findL_text _ _ _ (Nat.le_refl _) (fun x hx => by simp at hx) ls h
end Go.Proofs.YtacecobfhaihhaaDoor

namespace Go.Proofs.YtacecobfhaihhaaDoor
open Go.RowKit

/-! ### strings.Join -/
theorem strs_data (l : List (List UInt8)) : (l.map fun x => (⟨x.toArray⟩ : ByteArray)).map (fun s => s.data.toList) = l := by
  rw [List.map_map]
  conv => rhs; rw [← List.map_id l]
  exact List.map_congr_left fun _ _ => rfl
theorem JoinS_any (l : List (List UInt8)) (sep : List UInt8) (S : Option Addr) (c B : Nat) (w : World) (h : Sl w B 1 S l.length (l.map str)) (hB : B ≤ w.heap.size) (hc : l.length ≤ c) (hn : l.length ≤ 100000000) (hlen : (Lib.join l sep).length ≤ 100000000) :
    Calls Tryd.prog 45 #[.slice S l.length c, .string ⟨sep.toArray⟩] w fun e w' => e = .returned (str (Lib.join l sep)) ∧ Below w.heap.size w w' := by
  rcases l with _ | ⟨x, r⟩
  · refine (Go.Proofs.Tryd.strings_Join_none S c ⟨sep.toArray⟩ w).mono ?_
    rintro e w' ⟨rfl, rfl⟩
    exact ⟨rfl, Below.refl _ _⟩
  · obtain ⟨b, off, rfl, hb, hcell⟩ := h.2 (by simp)
    have e1 := strs_data (x :: r)
    have hk := Go.Proofs.Tryd.strings_Join b off c ((x :: r).map fun l => (⟨l.toArray⟩ : ByteArray)) ⟨sep.toArray⟩ w (fun j y hy => by
      refine hcell j _ ?_
      rw [List.getElem?_map] at hy ⊢
      cases hq : (x :: r)[j]? with
      | none => rw [hq] at hy; cases hy
      | some z => rw [hq] at hy; simp at hy; subst hy; rfl) (Nat.lt_of_lt_of_le hb hB) (by simp at hn ⊢; omega) (by simpa using hc) (by rw [e1]; show (Lib.join (x :: r) sep).length ≤ _; omega)
    rw [e1] at hk
    simp only [List.length_map] at hk
    exact hk
end Go.Proofs.YtacecobfhaihhaaDoor

namespace Go.Proofs.YtacecobfhaihhaaDoor
open Go.RowKit
theorem infoStrR : (Tryd.prog.info? 9).map (fun i => (i.zero, i.size, i.bytes)) = some (some (.string ⟨#[]⟩), 1, 16) := by kernel_rfl

/-- The outer loop. -/
def LkRel (W0 : World) (n : Nat) (l : List UInt8) (R : Option (List LinkD)) (v2 v3 v4 v9 : Value) (wr : World) : Prop :=
  ∃ (i m c : Nat) (S : Option Addr) (out : List LinkD), v2 = .slice none 0 0 ∧ v3 = .int .i64 0 ∧ v4 = .slice S m c ∧ v9 = .int .i64 (i : Nat) ∧ i ≤ n ∧ m ≤ 60 ∧ Hid (out.length = m ∧ FL l.length (l.drop i) out = R) ∧
    wr.ownsRow W0.heap.size 33 3 (.slice S m c) m (linkC out) ∧ Below W0.heap.size W0 wr
/-- The attributes of a tag. -/
def AtRel (wt : World) (n p1 : Nat) (l : List UInt8) (RA : Option (List UInt8 × List LinkD)) (v9 v11 v12 : Value) (wr : World) : Prop :=
  ∃ (i m c k c2 : Nat) (S S2 : Option Addr) (ls : List LinkD) (names : List (List UInt8)), v9 = .int .i64 (i : Nat) ∧ v11 = .slice S m c ∧ v12 = .slice S2 k c2 ∧ p1 ≤ i ∧ i ≤ n ∧ m ≤ i ∧ k ≤ i ∧
    Hid (ls.length = m ∧ names.length = k ∧ AL l.length (l.drop i) names.reverse ls = RA) ∧ wr.ownsRow wt.heap.size 33 3 (.slice S m c) m (linkC ls) ∧ wr.ownsRow wt.heap.size 9 1 (.slice S2 k c2) k (names.map str) ∧ Below wt.heap.size wt wr
theorem own_types {w : World} {b b' : Nat} {e e' : TypeId} {z z' n n' : Nat} {v v' : Value} {xs xs' : List Value} (h : w.ownsRow b e z v n xs) (h' : w.ownsRow b' e' z' v' n' xs') (hne : e ≠ e') : v.ownBlock = none ∨ v.ownBlock ≠ v'.ownBlock := by
  rcases h.2 with ⟨rfl, _⟩ | ⟨g, cap, cur, rfl, _, hg, _⟩
  · exact .inl rfl
  · right
    intro e0
    rcases h'.2 with ⟨rfl, _⟩ | ⟨g', cap', cur', rfl, _, hg', _⟩
    · cases e0
    · injection e0 with e0
      simp only at e0
      subst e0
      rw [hg] at hg'
      injection hg' with hg'
      injection hg' with _ hg' _
      exact hne hg'
/-- A link's variable. -/
def BoxL (w : World) (g : Nat) (fr tl : Int) (t : List UInt8) : Prop := w.heap[g]? = some (.cells #[.int .i64 fr, .int .i64 tl, str t] 33)
section
variable {w : World} {g : Nat} {fr tl : Int} {t : List UInt8}
theorem BoxL.lt (h : BoxL w g fr tl t) : g < w.heap.size := by
  rcases Nat.lt_or_ge g w.heap.size with h' | h'
  · exact h'
  · unfold BoxL at h; rw [Array.getElem?_eq_none h'] at h; cases h
theorem BoxL.cells (h : BoxL w g fr tl t) : w.cell? ⟨g, 0, none⟩ = some (.int .i64 fr) ∧ w.cell? ⟨g, 1, none⟩ = some (.int .i64 tl) ∧ w.cell? ⟨g, 2, none⟩ = some (str t) := by
  unfold BoxL at h
  refine ⟨?_, ?_, ?_⟩ <;> (unfold World.cell?; simp only [h]; rfl)
theorem BoxL.fz (h : BoxL w g fr tl t) (k : Nat) : w.frozen? ⟨g, k, none⟩ = false := by
  unfold BoxL at h
  unfold World.frozen?
  simp [h]
theorem BoxL.set0 (h : BoxL w g fr tl t) (x : Int) : BoxL (w.setCell ⟨g, 0, none⟩ (.int .i64 x)) g x tl t := by
  unfold BoxL at h ⊢
  unfold World.setCell
  rw [Array.getElem?_modify, if_pos rfl, h]
  rfl
theorem BoxL.set1 (h : BoxL w g fr tl t) (x : Int) : BoxL (w.setCell ⟨g, 1, none⟩ (.int .i64 x)) g fr x t := by
  unfold BoxL at h ⊢
  unfold World.setCell
  rw [Array.getElem?_modify, if_pos rfl, h]
  rfl
theorem BoxL.set2 (h : BoxL w g fr tl t) (x : List UInt8) : BoxL (w.setCell ⟨g, 2, none⟩ (str x)) g fr tl x := by
  unfold BoxL at h ⊢
  unfold World.setCell
  rw [Array.getElem?_modify, if_pos rfl, h]
  rfl
theorem BoxL.below {w' : World} (h : BoxL w g fr tl t) (hb : Below w.heap.size w w') : BoxL w' g fr tl t := (hb.block g h.lt).trans h
end
theorem Contains_strs (l : List (List UInt8)) (x : List UInt8) (S : Option Addr) (n c B : Nat) (w : World) (h : Sl w B 1 S n (l.map str)) (hn : n ≤ 100000000) :
    Calls Tryd.prog 44 #[.slice S n c, str x] w fun e w' => e = .returned (.bool (l.contains x)) ∧ w = w' := by
  have hl : l.length = n := by have := h.len; simpa using this
  rcases Nat.eq_zero_or_pos n with h0 | h0
  · subst h0
    obtain rfl : l = [] := List.eq_nil_of_length_eq_zero hl
    refine (Go.Proofs.Tryd.slices_Contains_string_empty S c ⟨x.toArray⟩ w).mono ?_
    rintro e w' ⟨rfl, rfl⟩
    exact ⟨rfl, rfl⟩
  · obtain ⟨b, off, rfl, _, hcell⟩ := h.2 h0
    refine (Go.Proofs.Tryd.slices_Contains_string b off n c (l.map fun x => (⟨x.toArray⟩ : ByteArray)) ⟨x.toArray⟩ w (by simp; omega) (by omega) (fun j hj => by
      have hj' : j < l.length := by simpa using hj
      have := hcell j (str l[j]) (by simp [hj'])
      rw [this]
      simp [List.getD, hj', str])).mono ?_
    rintro e w' ⟨rfl, rfl⟩
    refine ⟨?_, rfl⟩
    have e1 : (l.map fun x => (⟨x.toArray⟩ : ByteArray)).take n = l.map fun x => (⟨x.toArray⟩ : ByteArray) := List.take_of_length_le (by simp; omega)
    rw [e1]
    congr 2
    rw [Bool.eq_iff_iff, Lib.containsS_iff, List.contains_iff_mem]
    constructor
    · intro hx
      obtain ⟨y, hy, he⟩ := List.mem_map.1 hx
      have := congrArg (fun b : ByteArray => b.data.toList) he
      simp at this
      exact this ▸ hy
    · intro hx
      exact List.mem_map.2 ⟨x, hx, rfl⟩
def ampB : List UInt8 := [38, 97, 109, 112, 59]
theorem SplitAmp (t : List UInt8) (w : World) (hM : MaxLenOk w) (hs : t.length ≤ 1000000) :
    Calls Tryd.prog 46 #[str t, .string ⟨#[38, 97, 109, 112, 59]⟩] w fun e w' => ∃ S c, e = .returned (.slice S (Lib.split t ampB).length c) ∧ Sl w' w'.heap.size 1 S (Lib.split t ampB).length ((Lib.split t ampB).map str) ∧ (Lib.split t ampB).length ≤ c ∧ Below w.heap.size w w' := by
  obtain ⟨m, hm⟩ := hM
  have hc := Go.Proofs.Tryd.strings_Split ⟨t.toArray⟩ ⟨#[38, 97, 109, 112, 59]⟩ m w (by simp [ByteArray.size]; omega) hm (by decide)
  have hd := Lib.splitB_data ⟨#[38, 97, 109, 112, 59]⟩ 0 (Lib.countB ⟨t.toArray⟩ ⟨#[38, 97, 109, 112, 59]⟩) ⟨t.toArray⟩
  have he : (Lib.splitB ⟨#[38, 97, 109, 112, 59]⟩ 0 (Lib.countB ⟨t.toArray⟩ ⟨#[38, 97, 109, 112, 59]⟩) ⟨t.toArray⟩).map (·.data.toList) = Lib.split t ampB := hd
  have hl : Lib.countB ⟨t.toArray⟩ ⟨#[38, 97, 109, 112, 59]⟩ + 1 = (Lib.split t ampB).length := by
    rw [← he, List.length_map, Lib.splitB_all ⟨#[38, 97, 109, 112, 59]⟩ (by decide) 0 _ _ rfl]
  have hcells : (Lib.splitB ⟨#[38, 97, 109, 112, 59]⟩ 0 (Lib.countB ⟨t.toArray⟩ ⟨#[38, 97, 109, 112, 59]⟩) ⟨t.toArray⟩).map Value.string = (Lib.split t ampB).map str := by
    rw [← he, List.map_map]
    exact List.map_congr_left fun s _ => str_of s
  rw [hcells, hl] at hc
  refine hc.mono ?_
  rintro e w' ⟨rfl, rfl⟩
  have h1 := Sl.row w 9 1 (Lib.split t ampB).length ((Lib.split t ampB).map str) (by simp)
  exact ⟨_, _, rfl, by rw [World.size_alloc]; exact h1, Nat.le_refl _, (Below.refl _ w).alloc (Nat.le_refl _) _⟩
theorem split_len (t : List UInt8) : (Lib.split t ampB).length ≤ t.length + 1 := by
  have h := Lib.countB_le ⟨ampB.toArray⟩ (by decide) t.length ⟨t.toArray⟩ (by simp [ByteArray.size])
  have he : (Lib.split t ampB).length = Lib.countB ⟨t.toArray⟩ ⟨#[38, 97, 109, 112, 59]⟩ + 1 := by
    have hd := Lib.splitB_data ⟨#[38, 97, 109, 112, 59]⟩ 0 (Lib.countB ⟨t.toArray⟩ ⟨#[38, 97, 109, 112, 59]⟩) ⟨t.toArray⟩
    have he : (Lib.splitB ⟨#[38, 97, 109, 112, 59]⟩ 0 (Lib.countB ⟨t.toArray⟩ ⟨#[38, 97, 109, 112, 59]⟩) ⟨t.toArray⟩).map (·.data.toList) = Lib.split t ampB := hd
    rw [← he, List.length_map, Lib.splitB_all ⟨#[38, 97, 109, 112, 59]⟩ (by decide) 0 _ _ rfl]
  have h2 : Lib.countB ⟨t.toArray⟩ ⟨#[38, 97, 109, 112, 59]⟩ ≤ t.length := by simpa [ByteArray.size, ampB] using h
  omega
theorem unampJ (t : List UInt8) : Lib.join (Lib.split t ampB) [38] = unamp t := unamp_join t
/-- What an attribute does. -/
def NextL (l : List UInt8) (i : Nat) (nm : List UInt8) (i2 : Nat) (fr tl : Int) : Prop :=
  i < i2 ∧ i2 ≤ l.length ∧ ((fr = -1 ∧ ∀ seen ls, AL l.length (l.drop i) seen ls = AL l.length (l.drop i2) (nm :: seen) ls) ∨
    ∃ a z : Nat, fr = a ∧ tl = z ∧ a ≤ z ∧ z ≤ l.length ∧ ∀ seen ls, AL l.length (l.drop i) seen ls = AL l.length (l.drop i2) (nm :: seen) (if leadsB nm && !seen.contains nm then ls ++ [⟨a, z, unamp ((l.take z).drop a)⟩] else ls))
section
variable {l : List UInt8} {i j k : Nat}
theorem NextL.bare (h : i < l.length) (hp : pAttr (nth l i) = true) (h62 : nth l i ≠ 62) (hj : toP pEq l (i + 1) = j) (hk : toP pNotSp l j = k) (hno : (decide (k < l.length) && nth l k == 61) = false) : NextL l i (lowL ((l.take j).drop i)) j (-1) 0 := by
  have h1 := toP_le pEq l (i + 1) (by omega)
  rw [hj] at h1
  refine ⟨by omega, h1.2, .inl ⟨rfl, fun seen ls => AL_bare h hp h62 j k hj.symm hk.symm ?_⟩⟩
  rintro ⟨a, b⟩
  simp [a, b] at hno
theorem NextL.quo (h : i < l.length) (hp : pAttr (nth l i) = true) (h62 : nth l i ≠ 62) (hj : toP pEq l (i + 1) = j) (hk : toP pNotSp l j = k) (hkl : k < l.length) (h61 : nth l k = 61) {k2 T : Nat} (hk2 : toP pNotSp l (k + 1) = k2) (hl : k2 < l.length) (hq : nth l k2 = 34 ∨ nth l k2 = 39) (hT : toP (pIs (nth l k2)) l (k2 + 1) = T) :
    NextL l i (lowL ((l.take j).drop i)) (min (T + 1) l.length) ((k2 + 1 : Nat) : Int) (T : Int) := by
  have h1 := toP_le pEq l (i + 1) (by omega)
  have h2 := toP_le pNotSp l j (by omega)
  have h3 := toP_le pNotSp l (k + 1) (by omega)
  have h4 := toP_le (pIs (nth l k2)) l (k2 + 1) (by omega)
  rw [hj] at h1
  rw [hk] at h2
  rw [hk2] at h3
  rw [hT] at h4
  refine ⟨by omega, Nat.min_le_right _ _, .inr ⟨k2 + 1, T, rfl, rfl, h4.1, h4.2, fun seen ls => ?_⟩⟩
  rw [AL_val h hp h62 j k hj.symm hk.symm hkl h61, value_quo k2 T k hk2.symm hl hq hT.symm]
  simp only
  rw [add_at (k2 + 1) T h4.1 h4.2]
theorem NextL.val (h : i < l.length) (hp : pAttr (nth l i) = true) (h62 : nth l i ≠ 62) (hj : toP pEq l (i + 1) = j) (hk : toP pNotSp l j = k) (hkl : k < l.length) (h61 : nth l k = 61) {k2 T : Nat} (hk2 : toP pNotSp l (k + 1) = k2) (hq : (decide (k2 < l.length) && (nth l k2 == 34 || nth l k2 == 39)) = false) (hT : toP pVal l k2 = T) :
    NextL l i (lowL ((l.take j).drop i)) T (k2 : Int) (T : Int) := by
  have h1 := toP_le pEq l (i + 1) (by omega)
  have h2 := toP_le pNotSp l j (by omega)
  have h3 := toP_le pNotSp l (k + 1) (by omega)
  rw [hj] at h1
  rw [hk] at h2
  rw [hk2] at h3
  have h4 := toP_le pVal l k2 (by omega)
  rw [hT] at h4
  refine ⟨by omega, h4.2, .inr ⟨k2, T, rfl, rfl, h4.1, h4.2, fun seen ls => ?_⟩⟩
  rw [AL_val h hp h62 j k hj.symm hk.symm hkl h61, value_bare k2 T k hk2.symm (by rintro ⟨a, b⟩; rcases b with b | b <;> simp [a, b] at hq) hT.symm (by omega)]
  simp only
  rw [add_at k2 T h4.1 h4.2]
end
theorem index_quo (l : List UInt8) (a : Nat) (q : Nat) (hq : q < 256) (_h : a ≤ l.length) : Lib.index (l.drop a ++ [UInt8.ofNat q]) [UInt8.ofNat q] = ((toP (pIs q) l a - a : Nat) : Int) := by
  have hT : toP (pIs q) l a - a = (stopT (pIs q) (l.drop a)).length := by unfold toP; omega
  rw [hT]
  have hst := stop_app (pIs q) (l.drop a)
  have hno : ∀ b ∈ stopT (pIs q) (l.drop a), b ≠ UInt8.ofNat q := by
    intro b hb e
    have := stopT_not (pIs q) (l.drop a) b hb
    rw [e] at this
    unfold pIs at this
    rw [UInt8.toNat_ofNat'] at this
    simp at this
    omega
  have key : ∀ x y : List UInt8, (∀ b ∈ x, b ≠ UInt8.ofNat q) → Lib.index (x ++ UInt8.ofNat q :: y) [UInt8.ofNat q] = (x.length : Nat) := fun x y hx => index_seg x y (UInt8.ofNat q) (fun hm => hx _ hm rfl)
  cases hd : stopD (pIs q) (l.drop a) with
  | nil =>
    rw [hd, List.append_nil] at hst
    have h2 := key (stopT (pIs q) (l.drop a)) [] hno
    rw [hst] at h2
    rw [h2, hst]
  | cons c r =>
    have hc := stopD_head (pIs q) (l.drop a) c r hd
    have hce : c = UInt8.ofNat q := by
      unfold pIs at hc
      apply UInt8.toNat_inj.1
      rw [UInt8.toNat_ofNat']
      simp at hc
      omega
    rw [hd, hce] at hst
    have h2 := key (stopT (pIs q) (l.drop a)) (r ++ [UInt8.ofNat q]) hno
    rw [← h2, ← List.cons_append, ← List.append_assoc, hst]
theorem behP_gt (l t : List UInt8) (j : Nat) (hj : j ≤ l.length) (ht : t ≠ []) (i : Nat) (hi : i < l.length) (hij : i ≤ j) : i < behP l t j := by
  obtain ⟨_, _, h3⟩ := behP_drop l t j hj ht
  have htl := List.length_pos_iff.2 ht
  by_cases hx : 0 ≤ Lib.index (l.drop j) t
  · have := (h3 hx).2
    omega
  · unfold behP pastL
    rw [if_pos (by omega)]
    simpa using hi
theorem cont_rev (names : List (List UInt8)) (x : List UInt8) : names.reverse.contains x = names.contains x := by
  rw [Bool.eq_iff_iff, List.contains_iff_mem, List.contains_iff_mem, List.mem_reverse]
end Go.Proofs.YtacecobfhaihhaaDoor

import Derived.Test.YtinfjdfhkfhgjaaGreatDoorU1
import Derived.Lib.Split
import Derived.Lib.Join
import Derived.Lib.IndexAny
import Derived.Test.YtinfjdfhkfhgjaaGreatDoorU4
import Derived.Lib.Case
import Derived.Test.YtinfjdfhkfhgjaaGreatDoorU3
import Derived.LaidSub
import Derived.LaidMore
import Derived.MakeChecks
import Derived.Test.YtinfjdfhkfhgjaaGreatDoorU2
set_option maxRecDepth 100000
set_option maxHeartbeats 40000000
namespace Go.Proofs.YtinfjdfhkfhgjaaGreatDoor
theorem splitC_ne (c : UInt8) : ∀ l, splitC c l ≠ []
 | [] => by simp [splitC]
 | b :: l => by
  unfold splitC
  by_cases h : b = c
  · rw [if_pos h]; simp
  · rw [if_neg h]
    cases h2 : splitC c l <;> simp [consHead]
theorem joinC_cons (c : UInt8) (x y : List UInt8) (r) : joinC c (x :: y :: r) = x ++ c :: joinC c (y :: r) := rfl
theorem joinC_head (c b : UInt8) (x : List UInt8) (r) : joinC c ((b :: x) :: r) = b :: joinC c (x :: r) := by
 cases r <;> rfl
theorem join_split (c : UInt8) : ∀ l, joinC c (splitC c l) = l
 | [] => rfl
 | b :: l => by
  have ih := join_split c l
  have hne := splitC_ne c l
  unfold splitC
  by_cases h : b = c
  · rw [if_pos h]
    cases h2 : splitC c l with
    | nil => exact absurd h2 hne
    | cons x r => rw [h2] at ih; rw [joinC_cons, ih, h]; rfl
  · rw [if_neg h]
    cases h2 : splitC c l with
    | nil => exact absurd h2 hne
    | cons x r => rw [h2] at ih; show joinC c ((b :: x) :: r) = _; rw [joinC_head, ih]
theorem splitC_free (c : UInt8) : ∀ l, ∀ x ∈ splitC c l, c ∉ x
 | [] => by simp [splitC]
 | b :: l => by
  have ih := splitC_free c l
  unfold splitC
  by_cases h : b = c
  · rw [if_pos h]
    intro x hx
    simp only [List.mem_cons] at hx
    rcases hx with rfl | hx
    · simp
    · exact ih x hx
  · rw [if_neg h]
    have hb : c ≠ b := fun e => h e.symm
    cases h2 : splitC c l with
    | nil => simp [consHead, hb]
    | cons x r =>
     rw [h2] at ih
     intro y hy
     simp only [consHead, List.mem_cons] at hy
     rcases hy with rfl | hy
     · simp only [List.mem_cons, not_or]; exact ⟨hb, ih x (by simp)⟩
     · exact ih y (by simp [hy])
theorem splitC_app (c : UInt8) : ∀ (x l : List UInt8), c ∉ x → splitC c (x ++ c :: l) = x :: splitC c l
 | [], l, _ => by simp [splitC]
 | b :: x, l, h => by
  simp only [List.mem_cons, not_or] at h
  have hb : b ≠ c := fun e => h.1 e.symm
  show splitC c (b :: (x ++ c :: l)) = _
  rw [splitC, if_neg hb, splitC_app c x l h.2]
  rfl
theorem splitC_one (c : UInt8) : ∀ (x : List UInt8), c ∉ x → splitC c x = [x]
 | [], _ => rfl
 | b :: x, h => by
  simp only [List.mem_cons, not_or] at h
  have hb : b ≠ c := fun e => h.1 e.symm
  rw [splitC, if_neg hb, splitC_one c x h.2]
  rfl
end Go.Proofs.YtinfjdfhkfhgjaaGreatDoor
namespace Go.Proofs.YtinfjdfhkfhgjaaGreatDoor
theorem index_free (x : List UInt8) (c : UInt8) (h : c ∉ x) : Lib.index x [c] = -1 := by
 rw [Lib.index_one, indexByte_tw, if_neg h]
theorem index_seg (x r : List UInt8) (c : UInt8) (h : c ∉ x) : Lib.index (x ++ c :: r) [c] = x.length := by
 rw [Lib.index_one, indexByte_tw, if_pos (by simp), List.takeWhile_append_of_pos (fun b hb => by simp only [bne_iff_ne, ne_eq]; exact fun e => h (e ▸ hb))]
 simp
theorem drop_seg (x r : List UInt8) (c : UInt8) : (x ++ c :: r).drop (((x.length : Nat) : Int).toNat + ([c] : List UInt8).length) = r := by
 rw [Int.toNat_natCast]
 show List.drop (x.length + 1) _ = r
 rw [← List.drop_drop, List.drop_left]
 rfl
theorem count_seg (c : UInt8) : ∀ (fuel : Nat) (L : List (List UInt8)), L.length ≤ fuel → (∀ x ∈ L, c ∉ x) → Lib.countFrom [c] fuel (joinC c L) = L.length - 1 := by
 intro fuel
 induction fuel with
 | zero => intro L h _; have : L = [] := List.eq_nil_of_length_eq_zero (by omega); subst this; rfl
 | succ f ih =>
  intro L h hx
  match L, h, hx with
  | [], _, _ => rfl
  | [x], _, hx =>
   show (if Lib.index x [c] == -1 then 0 else _) = 0
   rw [index_free x c (hx x (by simp))]
   rfl
  | x :: y :: r, h, hx =>
   rw [joinC_cons, Lib.countFrom, index_seg x _ c (hx x (by simp)), drop_seg, ih (y :: r) (by simp at h ⊢; omega) (fun z hz => hx z (by simp at hz ⊢; exact .inr hz))]
   have : ((x.length : Int) == -1) = false := by simp
   rw [this]
   simp
   omega
theorem joinC_len (c : UInt8) : ∀ (L : List (List UInt8)), L.length ≤ (joinC c L).length + 1 := by
 intro L
 induction L with
 | nil => simp
 | cons x L ih =>
  match L, ih with
  | [], _ => simp
  | y :: r, ih =>
   rw [joinC_cons]
   simp only [List.length_cons, List.length_append] at ih ⊢
   omega
theorem count_split (c : UInt8) (l : List UInt8) : Lib.count l [c] = (splitC c l).length - 1 := by
 have h := count_seg c (l.length + 1) (splitC c l) (by have := joinC_len c (splitC c l); rw [join_split] at this; exact this) (splitC_free c l)
 rw [join_split] at h
 exact h
theorem splitK_seg (c : UInt8) : ∀ (L : List (List UInt8)), L ≠ [] → (∀ x ∈ L, c ∉ x) → Lib.splitK [c] 0 (L.length - 1) (joinC c L) = L := by
 intro L
 induction L with
 | nil => intro h; exact absurd rfl h
 | cons x L ih =>
  intro _ hx
  match L, ih, hx with
  | [], _, _ => rfl
  | y :: r, ih, hx =>
   have h1 := ih (by simp) (fun z hz => hx z (by simp at hz ⊢; exact .inr hz))
   show Lib.splitK [c] 0 ((y :: r).length - 1 + 1) (joinC c (x :: y :: r)) = _
   rw [joinC_cons, Lib.splitK, index_seg x _ c (hx x (by simp)), drop_seg, h1]
   have : ((x.length : Int) == -1) = false := by simp
   rw [this]
   simp
theorem splitK_split (c : UInt8) (l : List UInt8) : Lib.splitK [c] 0 (Lib.count l [c]) l = splitC c l := by
 have h := splitK_seg c (splitC c l) (splitC_ne c l) (splitC_free c l)
 rw [join_split, ← count_split] at h
 exact h
theorem splitB_split (c : UInt8) (l : List UInt8) : (Lib.splitB ⟨#[c]⟩ 0 (Lib.countB ⟨l.toArray⟩ ⟨#[c]⟩) ⟨l.toArray⟩).map Value.string = (splitC c l).map str ∧ Lib.countB ⟨l.toArray⟩ ⟨#[c]⟩ + 1 = (splitC c l).length := by
 have hc : Lib.countB ⟨l.toArray⟩ ⟨#[c]⟩ = Lib.count l [c] := rfl
 have hd := Lib.splitB_data ⟨#[c]⟩ 0 (Lib.count l [c]) ⟨l.toArray⟩
 constructor
 · rw [hc]
   have h2 := splitK_split c l
   have e : ∀ L : List ByteArray, L.map Value.string = (L.map (fun s => s.data.toList)).map str := by
    intro L
    rw [List.map_map]
    exact List.map_congr_left fun x _ => str_of x
   rw [e]
   congr 1
   exact hd.trans h2
 · rw [hc, count_split]
   have := splitC_ne c l
   have : (splitC c l).length ≠ 0 := fun h => this (List.eq_nil_of_length_eq_zero h)
   omega
theorem splitC_len (c : UInt8) (l : List UInt8) : (splitC c l).length ≤ l.length + 1 := by
 have := joinC_len c (splitC c l)
 rwa [join_split] at this
end Go.Proofs.YtinfjdfhkfhgjaaGreatDoor
namespace Go.Proofs.YtinfjdfhkfhgjaaGreatDoor
/-- strings.SplitAfter's pieces. -/
def afterC (c : UInt8) : List (List UInt8) → List (List UInt8)
 | [] => []
 | [x] => [x]
 | x :: y :: r => (x ++ [c]) :: afterC c (y :: r)
theorem afterC_len (c : UInt8) : ∀ L, (afterC c L).length = L.length
 | [] => rfl
 | [_] => rfl
 | _ :: y :: r => by rw [afterC, List.length_cons, afterC_len c (y :: r)]; rfl
theorem splitK_after1 (c : UInt8) : ∀ (L : List (List UInt8)), L ≠ [] → (∀ x ∈ L, c ∉ x) → Lib.splitK [c] 1 (L.length - 1) (joinC c L) = afterC c L := by
 intro L
 induction L with
 | nil => intro h; exact absurd rfl h
 | cons x L ih =>
  intro _ hx
  match L, ih, hx with
  | [], _, _ => rfl
  | y :: r, ih, hx =>
   have h1 := ih (by simp) (fun z hz => hx z (by simp at hz ⊢; exact .inr hz))
   show Lib.splitK [c] 1 ((y :: r).length - 1 + 1) (joinC c (x :: y :: r)) = _
   rw [joinC_cons, Lib.splitK, index_seg x _ c (hx x (by simp)), drop_seg, h1]
   have : ((x.length : Int) == -1) = false := by simp
   rw [this]
   have e : (x ++ c :: joinC c (y :: r)).take (((x.length : Nat) : Int).toNat + 1) = x ++ [c] := by
    rw [Int.toNat_natCast, List.take_append, List.take_of_length_le (by omega), Nat.add_sub_cancel_left]
    rfl
   rw [e]
   rfl
theorem splitK_after (c : UInt8) (l : List UInt8) : Lib.splitK [c] 1 (Lib.count l [c]) l = afterC c (splitC c l) := by
 have h := splitK_after1 c (splitC c l) (splitC_ne c l) (splitC_free c l)
 rw [join_split, ← count_split] at h
 exact h
theorem splitB_after (c : UInt8) (l : List UInt8) : (Lib.splitB ⟨#[c]⟩ 1 (Lib.countB ⟨l.toArray⟩ ⟨#[c]⟩) ⟨l.toArray⟩).map Value.string = (afterC c (splitC c l)).map str ∧ Lib.countB ⟨l.toArray⟩ ⟨#[c]⟩ + 1 = (splitC c l).length := by
 refine ⟨?_, (splitB_split c l).2⟩
 have hc : Lib.countB ⟨l.toArray⟩ ⟨#[c]⟩ = Lib.count l [c] := rfl
 have hd := Lib.splitB_data ⟨#[c]⟩ 1 (Lib.count l [c]) ⟨l.toArray⟩
 rw [hc]
 have h2 := splitK_after c l
 have e : ∀ L : List ByteArray, L.map Value.string = (L.map (fun s => s.data.toList)).map str := by
  intro L
  rw [List.map_map]
  exact List.map_congr_left fun x _ => str_of x
 rw [e]
 congr 1
 exact hd.trans h2
/-- What the end of a line gives. -/
def lineE (r : List (List UInt8)) (x : List UInt8) : List UInt8 := if (!r.isEmpty && !softQ (trimQ x)) = true then [13, 10] else []
/-- The loop over the lines. -/
def lpQ : List (List UInt8) → List UInt8 → List UInt8 × Nat
 | [], out => (out, 0)
 | x :: r, out =>
  match decQ (bareQ (trimQ x)) with
  | none => ([], 1)
  | some y => if 4000 < (out ++ y ++ lineE r x).length then ([], 2) else lpQ r (out ++ y ++ lineE r x)
theorem lpQ_nil (out : List UInt8) (h : out.length ≤ 4000) : lpQ [[]] out = (out, 0) := by
 have e : decQ (bareQ (trimQ [])) = some [] := by decide +kernel
 unfold lpQ
 rw [e]
 have e2 : lineE [] [] = [] := rfl
 simp only [e2, List.append_nil]
 rw [if_neg (by omega)]
 rfl
theorem lpQ_lines : ∀ (k : Nat) (s out : List UInt8), s.length ≤ k → out.length ≤ 4000 → linesQ k s out = lpQ (splitC 10 s) out := by
 intro k
 induction k with
 | zero =>
  intro s out hs ho
  have : s = [] := List.eq_nil_of_length_eq_zero (by omega)
  subst this
  rw [linesQ_end]
  exact (lpQ_nil out ho).symm
 | succ k ih =>
  intro s out hs ho
  by_cases h0 : s = []
  · subst h0
    rw [linesQ_end]
    exact (lpQ_nil out ho).symm
  · have he : s.isEmpty = false := by simpa using h0
    rw [linesQ, he]
    by_cases hm : (10 : UInt8) ∈ s
    · obtain ⟨x, y, rfl, hx⟩ := first_of s 10 hm
      have hc := cut_app x y 10 hx
      have hn : (10 : UInt8) ∉ x := fun h => hx _ h rfl
      rw [splitC_app 10 x y hn, lpQ]
      have hE : endQ (x ++ 10 :: y) = lineE (splitC 10 y) x := by
       unfold endQ lineE
       rw [hc]
       have : (splitC 10 y).isEmpty = false := by simpa using splitC_ne 10 y
       rw [this]
       rfl
      rw [hE, hc]
      simp only [Bool.false_eq_true, if_false]
      cases hd : decQ (bareQ (trimQ x)) with
      | none => rfl
      | some z =>
       simp only
       split
       · rfl
       · refine ih _ _ ?_ (by omega)
         simp only [List.length_append, List.length_cons] at hs
         omega
    · have hc := cut_not s 10 (fun b hb e => hm (e ▸ hb))
      rw [splitC_one 10 s hm, lpQ]
      have hE : endQ s = lineE [] s := by
       unfold endQ lineE
       rw [hc]
       rfl
      rw [hE, hc]
      simp only [Bool.false_eq_true, if_false]
      cases hd : decQ (bareQ (trimQ s)) with
      | none => rfl
      | some z =>
       simp only
       split
       · rfl
       · rw [linesQ_end, lpQ]
theorem lpQ_read (s : List UInt8) : readQ s = if 16000 < s.length then ([], 2) else lpQ (splitC 10 s) [] := by
 unfold readQ
 split
 · rfl
 · exact lpQ_lines _ _ _ (Nat.le_refl _) (by simp)
end Go.Proofs.YtinfjdfhkfhgjaaGreatDoor
namespace Go.Proofs.YtinfjdfhkfhgjaaGreatDoor
/-- The digits as strconv has them. -/
def lowDs : List UInt8 := [48, 49, 50, 51, 52, 53, 54, 55, 56, 57, 97, 98, 99, 100, 101, 102]
/-- strconv.FormatInt, base 16, of a byte. -/
def fmtQ (x : Nat) : List UInt8 := if x < 16 then [lowDs.getD x 0] else [lowDs.getD (x / 16) 0, lowDs.getD (x % 16) 0]
theorem up_fmt : ∀ x : Fin 256, Lib.toUpperA (fmtQ x.val) = if x.val < 16 then [digits.getD x.val 0] else [digits.getD (x.val / 16) 0, digits.getD (x.val % 16) 0] := by decide +kernel
theorem fmt_ascii : ∀ x : Fin 256, (fmtQ x.val).all (fun b => decide (b.toNat < 128)) = true := by decide +kernel
theorem fmt_len (x : Nat) : (fmtQ x).length = if x < 16 then 1 else 2 := by unfold fmtQ; split <;> rfl
theorem up_len (l : List UInt8) : (Lib.toUpperA l).length = l.length := by simp [Lib.toUpperA]
theorem one_out1 (c : UInt8) (hp : plainQ c.toNat = false) (h : c.toNat < 16) : [61] ++ ([48] ++ Lib.toUpperA (fmtQ c.toNat)) = oneQ c := by
 have hc := c.toNat_lt
 have := up_fmt ⟨c.toNat, hc⟩
 simp only at this
 rw [this, if_pos h]
 unfold oneQ
 rw [hp, show c.toNat / 16 = 0 by omega, show c.toNat % 16 = c.toNat by omega]
 rfl
theorem one_out2 (c : UInt8) (hp : plainQ c.toNat = false) (h : ¬ c.toNat < 16) : [61] ++ Lib.toUpperA (fmtQ c.toNat) = oneQ c := by
 have hc := c.toNat_lt
 have := up_fmt ⟨c.toNat, hc⟩
 simp only at this
 rw [this, if_neg h]
 unfold oneQ
 rw [hp]
 rfl
theorem one_plainQ (c : UInt8) (hp : plainQ c.toNat = true) : oneQ c = [c] := by
 unfold oneQ
 rw [if_pos hp]
theorem encQ_wide (l out line : List UInt8) (c : UInt8) (r : List UInt8) (h : out ++ line ++ encQ line.length (c :: r) = l) (hw : 75 < line.length + (oneQ c).length) : (out ++ line ++ [61, 13, 10]) ++ oneQ c ++ encQ (oneQ c).length r = l := by
 rw [← h, encQ, if_pos hw]
 simp
theorem encQ_fits (l out line : List UInt8) (c : UInt8) (r : List UInt8) (h : out ++ line ++ encQ line.length (c :: r) = l) (hw : ¬ 75 < line.length + (oneQ c).length) : out ++ (line ++ oneQ c) ++ encQ (line ++ oneQ c).length r = l := by
 rw [← h, encQ, if_neg hw, List.length_append]
 simp
def hexSet : List UInt8 := [48, 49, 50, 51, 52, 53, 54, 55, 56, 57, 65, 66, 67, 68, 69, 70, 97, 98, 99, 100, 101, 102]
theorem hex_set : ∀ x : Fin 256, hexSet.contains (UInt8.ofNat x.val) = decide (0 ≤ hexQ x.val) := by decide +kernel
theorem hex_set1 (b : UInt8) : hexSet.contains b = decide (0 ≤ hexQ b.toNat) := by
 have := hex_set ⟨b.toNat, b.toNat_lt⟩
 simp only [UInt8.ofNat_toNat] at this
 exact this
/-- What a digit is worth. -/
def valQ (x : Nat) : Nat := (hexQ x).toNat
theorem val_dig : ∀ x : Fin 256, decide (0 ≤ hexQ x.val) = true → (decide (48 ≤ x.val) && decide (x.val ≤ 57)) = true → valQ x.val = x.val - 48 := by decide +kernel
theorem val_let : ∀ x : Fin 256, decide (0 ≤ hexQ x.val) = true → (decide (48 ≤ x.val) && decide (x.val ≤ 57)) = false → 97 ≤ (x.val ||| 32) ∧ (x.val ||| 32) ≤ 102 ∧ valQ x.val = (x.val ||| 32) - 87 := by decide +kernel
theorem val_lt : ∀ x : Fin 256, valQ x.val < 16 := by decide +kernel
end Go.Proofs.YtinfjdfhkfhgjaaGreatDoor
namespace Go.Proofs.YtinfjdfhkfhgjaaGreatDoor
open Go.RowKit
/-- The table that math/bits reads. -/
def DeOk (w : World) : Prop := w.cell? ⟨10, 15, none⟩ = some (.int .u8 4)
theorem DeOk.lt {w : World} (h : DeOk w) : 10 < w.heap.size := World.block_lt_of_cell? _ _ h
theorem DeOk.below {w w' : World} (h : DeOk w) (hb : Below w.heap.size w w') : DeOk w' := (hb.cell (p := ⟨10, 15, none⟩) h.lt).trans h
theorem Zeros64_16 (w : World) (h : DeOk w) : Calls Tryz.prog 183 #[.int .u64 16] w fun e w' => e = .returned (.int .i64 4) ∧ w = w' := by
 unfold DeOk at h
 have b1 : bits .and .u64 16 (IntKind.u64.wrap (-16)) = 16 := by decide +kernel
 have b2 : IntKind.u64.wrap (16 * 285870213051353865) = 4573923408821661840 := by decide +kernel
 go_enter Tryz.func183, Tryz.ntmps183
 go_wp2_with fail
 go_ret
 exact ⟨rfl, rfl⟩
theorem Zeros_16 (w : World) (h : DeOk w) : Calls Tryz.prog 177 #[.int .u64 16] w fun e w' => e = .returned (.int .i64 4) ∧ w = w' := by
 have HD := Lib.hid h
 clear h
 go_enter Tryz.func177, Tryz.ntmps177
 go_wp2_with fail
 refine (Zeros64_16 _ HD.out).mono ?_
 rintro e w1 ⟨rfl, rfl⟩
 go_wp2_with fail
 go_ret
 exact ⟨rfl, rfl⟩
theorem isPow_16 (w : World) : Calls Tryz.prog 176 #[.int .i64 16] w fun e w' => e = .returned (.bool true) ∧ w = w' := by
 go_enter Tryz.func176, Tryz.ntmps176
 go_wp2_with fail
 go_ret
 exact ⟨rfl, rfl⟩
theorem and15u : ∀ x : Fin 256, bits .and .u64 ((x.val : Nat) : Int) 15 = ((x.val % 16 : Nat) : Int) := by decide +kernel
def hexL : List UInt8 := [48, 49, 50, 51, 52, 53, 54, 55, 56, 57, 97, 98, 99, 100, 101, 102, 103, 104, 105, 106, 107, 108, 109, 110, 111, 112, 113, 114, 115, 116, 117, 118, 119, 120, 121, 122]
/-- The array of formatBits. -/
def ArrAt (W : World) (b : Nat) (C : Array Value) : Prop := W.heap[b]? = some (.cells C 174 (0, 0))
theorem ArrAt.cell {W : World} {b : Nat} {C : Array Value} (h : ArrAt W b C) (i : Nat) (v : Value) (hv : C[i]? = some v) : W.cell? ⟨b, i, none⟩ = some v := by
 unfold ArrAt at h
 unfold World.cell?
 rw [h]
 exact hv
theorem ArrAt.fz {W : World} {b : Nat} {C : Array Value} (h : ArrAt W b C) : ∀ i, W.frozen? ⟨b, i, none⟩ = false := by
 intro i
 unfold ArrAt at h
 unfold World.frozen?
 rw [h]
 simp
theorem ArrAt.put {W : World} {b : Nat} {C : Array Value} (h : ArrAt W b C) (k : Nat) (v : Value) : ArrAt (W.setCell ⟨b, k, none⟩ v) b (C.setIfInBounds k v) := by
 unfold ArrAt at h ⊢
 simp only [World.setCell, Array.getElem?_modify, if_pos, h, Option.map_some]
 rfl
theorem hex_low : ∀ k : Fin 16, hexL.getD k.val 0 = lowDs.getD k.val 0 := by decide +kernel
theorem idx_hex (k : Nat) (hk : k < 16) (X : World) : (Instr.index 9 (.string ⟨hexL.toArray⟩) (.int .u64 (k : Int))).run Tryz.prog X = .ok (.int .u8 ((nth lowDs k : Nat) : Int)) X := by
 have h : k = 0 ∨ k = 1 ∨ k = 2 ∨ k = 3 ∨ k = 4 ∨ k = 5 ∨ k = 6 ∨ k = 7 ∨ k = 8 ∨ k = 9 ∨ k = 10 ∨ k = 11 ∨ k = 12 ∨ k = 13 ∨ k = 14 ∨ k = 15 := by omega
 rcases h with rfl | rfl | rfl | rfl | rfl | rfl | rfl | rfl | rfl | rfl | rfl | rfl | rfl | rfl | rfl | rfl <;> rfl
/-- The state of the loop. -/
def FmtRel (c b : Nat) (W0 : World) (uv iv : Value) (wr : World) : Prop :=
 (uv = .int .u64 (c : Nat) ∧ iv = .int .i64 65 ∧ wr = W0) ∨ (16 ≤ c ∧ uv = .int .u64 ((c / 16 : Nat) : Int) ∧ iv = .int .i64 64 ∧ wr = W0.setCell ⟨b, 64, none⟩ (.int .u8 ((nth hexL (c % 16) : Nat) : Int)))
theorem formatBits_16 (c : Nat) (hc : c < 256) (w : World) (h : DeOk w) : Calls Tryz.prog 152 #[.slice none 0 0, .int .u64 (c : Nat), .int .i64 16, .bool false, .bool false] w fun e w' => e = .returned (.tuple #[.slice none 0 0, str (fmtQ c)]) ∧ Below w.heap.size w w' := by
 have HD := Lib.hid h
 clear h
 go_enter Tryz.func152, Tryz.ntmps152
 go_wp2_with fail
 refine (isPow_16 _).mono ?_
 rintro e w1 ⟨rfl, rfl⟩
 go_wp2_with fail
 refine (Zeros_16 _ (HD.out.below ((Below.refl _ w).alloc (Nat.le_refl _) _))).mono ?_
 rintro e w1 ⟨rfl, rfl⟩
 go_wp2_with fail
 generalize hW : World.alloc w _ = W
 have hb0 : Below w.heap.size w W := by rw [← hW]; exact (Below.refl _ w).alloc (Nat.le_refl _) _
 have hA : ArrAt W w.heap.size Tryz.zeroCells174 := by rw [← hW]; exact heap_alloc_new w _
 clear hW
 have hZ63 : Tryz.zeroCells174[63]? = some (.int .u8 0) := by kernel_rfl
 have hZ64 : Tryz.zeroCells174[64]? = some (.int .u8 0) := by kernel_rfl
 have hZs : Tryz.zeroCells174.size = 65 := by kernel_rfl
 generalize Tryz.zeroCells174 = Z at *
 have hsz : w.heap.size < W.heap.size := by
  rcases Nat.lt_or_ge w.heap.size W.heap.size with h' | h'
  · exact h'
  · unfold ArrAt at hA; rw [Array.getElem?_eq_none h'] at hA; cases hA
 go_loopw [1, 13] (fun uv iv wr => FmtRel c w.heap.size W uv iv wr) (fun _ iv _ => (intOf iv).toNat)
 case atStart => exact .inl ⟨rfl, rfl, rfl⟩
 case round =>
  rcases hrel with ⟨rfl, rfl, rfl⟩ | ⟨h16, rfl, rfl, rfl⟩
  · have c64 := hA.cell 64 _ hZ64
    have f64 := hA.fz 64
    by_cases h16 : c < 16
    · have d1 : decide ((16 : Int) ≤ (c : Int)) = false := decide_eq_false (by omega)
      have d2 : (c : Int) < 16 := by omega
      have ix := fun X => idx_hex c h16 X
      simp only [hexL] at ix
      have hP := hA.put 64 (.int .u8 ((nth lowDs c : Nat) : Int))
      have hby : By (wr.setCell ⟨w.heap.size, 64, none⟩ (.int .u8 ((nth lowDs c : Nat) : Int))) wr.heap.size (some ⟨w.heap.size, 64, none⟩) 1 [lowDs.getD c 0] := by
       refine ⟨rfl, fun _ => ⟨_, _, rfl, hsz, fun j u hu => ?_⟩⟩
       cases j with
       | zero =>
        refine hP.cell 64 u ?_
        simp [Lib.byteCells] at hu
        rw [← hu]
        simp [hZs, nth]
       | succ j => simp [Lib.byteCells] at hu
      have hcv := fun X B (h : By X B (some ⟨w.heap.size, 64, none⟩) 1 [lowDs.getD c 0]) => run_toStr (P := Tryz.prog) X 22 9 5 B (some ⟨w.heap.size, 64, none⟩) 1 1 [lowDs.getD c 0] h Tryz.underlying22 Tryz.underlying5 Tryz.underlying9
      have hcv1 := hcv _ _ hby
      have HB := Lib.hid (hb0.setCell (p := ⟨w.heap.size, 64, none⟩) (Nat.le_refl _) (.int .u8 ((nth lowDs c : Nat) : Int)))
      have hq : fmtQ c = [lowDs.getD c 0] := by unfold fmtQ; rw [if_pos h16]
      have HQ := Lib.hid hq
      clear hq hby hP hcv
      go_wp2_with fail
      refine bodyPost_ret (v := .tuple #[.slice none 0 0, str [lowDs.getD c 0]]) (by simp [results, Tryz.results152, go_sem]) rfl ⟨by rw [HQ.out], HB.out⟩
    · have d1 : decide ((16 : Int) ≤ (c : Int)) = true := decide_eq_true (by omega)
      have d2 : (16 : Int) ≤ (c : Int) := by omega
      have b1 := and15u ⟨c, hc⟩
      simp only at b1
      go_wp2_with fail
      exact ⟨.inr ⟨by omega, rfl, rfl, rfl⟩, by simp [intOf]⟩
  · have hA1 := hA.put 64 (.int .u8 ((nth hexL (c % 16) : Nat) : Int))
    have hZ63' : (Z.setIfInBounds 64 (.int .u8 ((nth hexL (c % 16) : Nat) : Int)))[63]? = some (.int .u8 0) := by
     rw [Array.getElem?_setIfInBounds_ne (by omega)]; exact hZ63
    have c63 := hA1.cell 63 _ hZ63'
    have f63 := hA1.fz 63
    have q16 : c / 16 < 16 := by omega
    have hlo := hex_low ⟨c % 16, by omega⟩
    simp only at hlo
    have hq : fmtQ c = [lowDs.getD (c / 16) 0, hexL.getD (c % 16) 0] := by unfold fmtQ; rw [if_neg (by omega), hlo]
    clear hlo
    generalize c / 16 = q at *
    have d1 : decide ((16 : Int) ≤ ((q : Nat) : Int)) = false := decide_eq_false (by omega)
    have d2 : ((q : Nat) : Int) < 16 := by omega
    have ix := fun X => idx_hex q q16 X
    simp only [hexL] at ix
    have hP := hA1.put 63 (.int .u8 ((nth lowDs q : Nat) : Int))
    generalize hX : W.setCell ⟨w.heap.size, 64, none⟩ (.int .u8 ((nth hexL (c % 16) : Nat) : Int)) = X at *
    have hsX : w.heap.size < X.heap.size := by rw [← hX]; simpa [World.setCell] using hsz
    have hbX : Below w.heap.size w X := by rw [← hX]; exact hb0.setCell (p := ⟨w.heap.size, 64, none⟩) (Nat.le_refl _) _
    clear hX hA1
    have hby : By (X.setCell ⟨w.heap.size, 63, none⟩ (.int .u8 ((nth lowDs q : Nat) : Int))) X.heap.size (some ⟨w.heap.size, 63, none⟩) 2 [lowDs.getD q 0, hexL.getD (c % 16) 0] := by
     refine ⟨rfl, fun _ => ⟨_, _, rfl, hsX, fun j u hu => ?_⟩⟩
     match j, hu with
     | 0, hu =>
      refine hP.cell 63 u ?_
      simp [Lib.byteCells] at hu
      rw [← hu]
      simp [hZs, nth]
     | 1, hu =>
      refine hP.cell 64 u ?_
      simp [Lib.byteCells] at hu
      rw [← hu]
      simp [hZs, nth]
     | j + 2, hu => simp [Lib.byteCells] at hu
    have hcv1 := run_toStr (P := Tryz.prog) _ 22 9 5 _ (some ⟨w.heap.size, 63, none⟩) 2 2 _ hby Tryz.underlying22 Tryz.underlying5 Tryz.underlying9
    have HB := Lib.hid (hbX.setCell (p := ⟨w.heap.size, 63, none⟩) (Nat.le_refl _) (.int .u8 ((nth lowDs q : Nat) : Int)))
    have HQ := Lib.hid hq
    clear hq hby hP
    go_wp2_with fail
    refine bodyPost_ret (v := .tuple #[.slice none 0 0, str [lowDs.getD q 0, hexL.getD (c % 16) 0]]) (by simp [results, Tryz.results152, go_sem]) rfl ⟨by rw [HQ.out], HB.out⟩
end Go.Proofs.YtinfjdfhkfhgjaaGreatDoor
namespace Go.Proofs.YtinfjdfhkfhgjaaGreatDoor
open Go.ChangeShapes Go.WideShapes Go.ChangeAt Go.RowKit
/-- What the row's laid table gives. -/
theorem deOk_of_laid2 {W : World} {laid : List (String × DataW Unit)} (h : laidMetH Tryz.prog laid W) (e : laid.filter (fun x => x.1 == "math/bits.deBruijn64tab") = [("math/bits.deBruijn64tab", Rows.laid_math_bits_deBruijn64tab)]) : DeOk W := by
 have h1 := h.filter (fun x => x.1 == "math/bits.deBruijn64tab")
 rw [e, MakeChecks.laidMetH_plain _ _ _ (by kernel_rfl)] at h1
 obtain ⟨ps, ⟨g, t, cs, fuel, p, q, hg, ht, hv, hd, _, _⟩, _, _⟩ := h1
 obtain rfl := Option.some.inj ((show Tryz.prog.globalNamed "math/bits.deBruijn64tab" = some 10 by kernel_rfl).symm.trans hg)
 obtain rfl := Option.some.inj ((show (Tryz.prog.globals[10]?).map (·.type) = some 194 by kernel_rfl).symm.trans ht)
 obtain ⟨xs, m, _, ex, _, hl, hel⟩ := DataW.trod_array Tryz.underlying194 hd
 have c5 : Tryz.prog.cellsOf 5 = 1 := by kernel_rfl
 have hE := hel 15 (by omega)
 rw [c5, Nat.mul_one, List.getElem?_eq_getElem (by omega)] at hE
 obtain ⟨z, e1, e2, _⟩ := DataW.trod_int Tryz.underlying5 hE
 have e3 : (DataW.agg (xs.map (·.1)) : DataW Unit) = Rows.laid_math_bits_deBruijn64tab := ((Prod.mk.inj ex).1).symm
 have e4 : (xs.map (·.1))[15]? = some (DataW.lit (.int .u8 4) : DataW Unit) := by
  unfold Rows.laid_math_bits_deBruijn64tab at e3
  rw [DataW.agg.inj e3]
  rfl
 rw [List.getElem?_map, List.getElem?_eq_getElem (by omega : 15 < xs.length), e2] at e4
 have hz : z = 4 := by
  simp only [Option.map_some, Option.some.injEq, DataW.lit.injEq, Lit.int.injEq, true_and] at e4
  exact e4
 unfold DeOk
 rw [World.var?_cell hg hv 15]
 have : cs.toList[15]? = some (.int .u8 z) := by
  have h0 : ((cs.toList.drop 15).take 1)[0]? = some (.int .u8 z) := by rw [e1]; rfl
  simpa using h0
 rw [hz] at this
 simpa using this
end Go.Proofs.YtinfjdfhkfhgjaaGreatDoor
namespace Go.Proofs.YtinfjdfhkfhgjaaGreatDoor
open Go.RowKit
theorem infoStrM : (Tryz.prog.info? 9).map (fun i => (i.zero, i.size, i.bytes)) = some (some (.string ⟨#[]⟩), 1, 16) := by kernel_rfl
theorem take_one {α : Type} {l : List α} {i : Nat} {x : α} (h : l.drop i = x :: l.drop (i + 1)) : l.take (i + 1) = l.take i ++ [x] := by
 have hi : i < l.length := by
  rcases Nat.lt_or_ge i l.length with h' | h'
  · exact h'
  · rw [List.drop_of_length_le h'] at h; cases h
 rw [List.drop_eq_getElem_cons hi] at h
 injection h with h _
 rw [List.take_succ_eq_append_getElem hi, h]
theorem flats_in : ∀ (ps : List PartD) (q : PartD), q ∈ ps → (flatD q).length ≤ (flatsD ps).length ∧ ∀ x ∈ flatD q, x ∈ flatsD ps
 | [], q, h => by simp at h
 | p :: ps, q, h => by
  rw [flatsD, List.length_append]
  rcases List.mem_cons.1 h with rfl | h
  · exact ⟨by omega, fun x hx => by simp [hx]⟩
  · obtain ⟨h1, h2⟩ := flats_in ps q h
    exact ⟨by omega, fun x hx => by simp [h2 x hx]⟩
def txsM (ps : List PartD) (i : Nat) : List Value := ((ps.take i).map textM).map str
/-- The loop that writes the parts. -/
def TxRelM (W : World) (n2 : Nat) (ps : List PartD) (lv iv : Value) (wr : World) : Prop :=
 ∃ i S c, lv = .slice S i c ∧ iv = .int .i64 (i : Nat) ∧ i ≤ n2 ∧ wr.ownsRow W.heap.size 9 1 (.slice S i c) i (txsM ps i) ∧ Below W.heap.size W wr
/-- The loop that looks for a border. -/
def BdRelM (w : World) (N : Nat) (nv : Value) (wr : World) : Prop := ∃ n : Nat, nv = .int .i64 (n : Nat) ∧ 1 ≤ n ∧ n ≤ N ∧ Below w.heap.size w wr
/-- The loop that puts the texts between borders. -/
def WrRelM (w : World) (n : Nat) (border T : List UInt8) (L : List (List UInt8)) (sv iv : Value) (wr : World) : Prop :=
 ∃ (i : Nat) (acc : List UInt8), sv = str acc ∧ iv = .int .i64 (i : Nat) ∧ i ≤ n ∧ w = wr ∧ Hid (acc ++ wrapM border (L.drop i) = T)
theorem mtext_any (k : Nat) : ∀ (p : PartD) (v : List Value) (w : World), (flatD p).length ≤ k → (flatD p).length ≤ 12 → goodP p → PartAt (· < w.heap.size) w p v → MaxLenOk w → PowOk w →
 Calls Tryz.prog 17 #[.agg v.toArray] w fun e w' => e = .returned (str (textM p)) ∧ Below w.heap.size w w' := by
 obtain ⟨i0, hi0, hz0, hz1, hz2⟩ := info_parts infoStrM
 induction k with
 | zero => intro p v w h; rw [flatD_eq] at h; simp at h
 | succ k ih =>
  intro p v w hk h12 hg hp hM hW0
  have h0 := hg p (by rw [flatD_eq]; simp)
  unfold chkD at h0
  obtain ⟨ht, hcs, hid, hloc, hw0, hw2, hbo, hm1, hm0⟩ := chkB_zero h0
  have hcs' : p.cs = [] ∨ tokB p.cs = true := by
   rcases hcs with h | h
   · exact .inl (by simpa using h)
   · exact .inr h
  have htl := (typ_parts ht).2.1
  have hcl : p.cs.length ≤ 30 := by
   rcases hcs' with h | h
   · rw [h]; simp
   · exact (tok_mem h).2.1
  have hil := (wordP_mem hid).1
  have hll := (wordP_mem hloc).1
  have htm := textM_len p hg
  obtain ⟨A, c, A2, c2, rfl, hbds, hB, hn, hcm, hP, hc2, hcm2⟩ := hp.open
  have hBy : By w w.heap.size A p.body.length p.body := hB
  obtain ⟨T, hT⟩ : ∃ T, T = textM p := ⟨_, rfl⟩
  rw [← hT] at htm ⊢
  obtain ⟨n1, hn1⟩ : ∃ n1, n1 = p.body.length := ⟨_, rfl⟩
  obtain ⟨n2, hn2⟩ : ∃ n2, n2 = p.parts.length := ⟨_, rfl⟩
  obtain ⟨W, hW⟩ : ∃ W, W = w.alloc (.cells #[str p.type, str p.cs, str p.id, str p.loc, .int .i64 p.how, .slice A n1 c, .slice A2 n2 c2] 25) := ⟨_, rfl⟩
  have hbW : Below w.heap.size w W := by rw [hW]; exact (Below.refl _ w).alloc (Nat.le_refl _) _
  have hbx : Box7 W w.heap.size (str p.type) (str p.cs) (str p.id) (str p.loc) (.int .i64 p.how) (.slice A n1 c) (.slice A2 n2 c2) := by rw [hW]; exact Box7.new w _ _ _ _ _ _ _ _
  have ⟨x0, x1, x2, x3, x4, x5, x6⟩ := hbx
  have hm := Many_any p.type
  rw [← hn1] at hBy hn hbo ⊢
  rw [← hn2] at hP hc2 ⊢
  have hByW := (hBy.below hbW).more hbW.size
  have hMW := hM.below hbW
  have hPW := hW0.below hbW
  have hps := (hP.below hbW).more hbW.size
  have hsW : W.heap.size = w.heap.size + 1 := by rw [hW]; simp
  have HT := Lib.hid hT
  have HW := Lib.hid hW
  have Hn1 := Lib.hid hn1
  have Hn2 := Lib.hid hn2
  have HBy := Lib.hid hByW
  have HM := Lib.hid hMW
  have HP := Lib.hid hPW
  have Hps := Lib.hid hps
  have HsW := Lib.hid hsW
  have Hg := Lib.hid hg
  have Hih := Lib.hid ih
  have Hcs := Lib.hid hcs'
  have Ht := Lib.hid ht
  have Hid' := Lib.hid hid
  have Hloc := Lib.hid hloc
  have Hbx := Lib.hid hbx
  have Hk := Lib.hid hk
  clear hT hW hn1 hn2 hByW hMW hPW hps hsW hg ih hcs' hcs ht hid hloc hp hB hBy hP hM hW0 h0 hbds hk hbx
  by_cases hmp : manyB p.type = true
  · rw [hmp] at hm
    obtain ⟨_, hb0, hh0, hc0⟩ := hm1 hmp
    have hTl : T = textF (fieldsM p.type p.cs p.id p.loc p.how (bordP p)) ++ wrapM (bordP p) (textsM p.parts) := by rw [HT.out]; exact text_many p hmp
    have hbk : bordOk (bordP p) := bordM_ok _
    have hbl : (bordP p).length ≤ 9 := bord_len _
    have hfl := fields_text (how := p.how) Ht.out Hcs.out Hid'.out Hloc.out (.inr hbk)
    have hf4 := fields_len p.type p.cs p.id p.loc (bordP p) p.how
    have hcon := fun W' => fields_any p.type p.cs p.id p.loc (bordP p) p.how A A2 n1 c n2 c2 W' (by omega) (by omega) (by omega) (by omega) (by omega) hw0 hw2
    obtain ⟨F, hF⟩ : ∃ F, F = fieldsM p.type p.cs p.id p.loc p.how (bordP p) := ⟨_, rfl⟩
    rw [← hF] at hTl hfl hf4 hcon
    obtain ⟨L, hL⟩ : ∃ L, L = textsM p.parts := ⟨_, rfl⟩
    have hLm : L = p.parts.map textM := by rw [hL, texts_map]
    have hsum := textsM_len p.parts (fun q hq => Hg.out q (by rw [flatD_eq]; simp [hq]))
    have hns := nl_sum (textsM p.parts)
    have hfl2 : (flatD p).length = 1 + (flatsD p.parts).length := by rw [flatD_eq, List.length_cons]; omega
    have hJ : (nlJ L).length ≤ 204000 := by rw [hL]; omega
    have hbd := bordN_spec (nlJ L) (by omega)
    obtain ⟨N, hN⟩ : ∃ N, N = bordN (nlJ L) := ⟨_, rfl⟩
    have hbp : bordP p = [61, 95] ++ Lib.decDigits N := by rw [hN, hL]; rfl
    have hLn : L.length = n2 := by rw [hLm, List.length_map, Hn2.out]
    have hn12 : n2 ≤ 11 := by
     have := flatsD_len p.parts
     rw [← Hn2.out] at this
     omega
    rw [← hL] at hTl
    rw [← hN] at hbd
    obtain ⟨hbd1, hbd2, hbd3, hbd4⟩ := hbd
    obtain ⟨bd, hbdd⟩ : ∃ bd, bd = bordP p := ⟨_, rfl⟩
    rw [← hbdd] at hTl hbl hcon hbp
    have Hih2 := Lib.hid Hih.out
    have Hcon := Lib.hid hcon
    have HTl := Lib.hid hTl
    have Hm := Lib.hid hm
    have HL := Lib.hid hLm
    have HLn := Lib.hid hLn
    have Hbp := Lib.hid hbp
    have Hbd3 := Lib.hid hbd3
    have Hbd4 := Lib.hid hbd4
    have Hfl2 := Lib.hid hfl2
    have hTb : T.length ≤ 204000 := by omega
    clear hcon hTl hm hL hLm hLn hbp hbd3 hbd4 hfl2 hmp hm1 hm0 hF hbdd hN hsum hns hbk hb0 hh0 hc0 htm
    go_enter Tryz.func17, Tryz.ntmps17
    go_wp2_with fail
    rw [← HW.out]
    refine (Hm.out _).mono ?_
    rintro e w1 ⟨rfl, rfl⟩
    go_wp2_with fail
    go_loopw [4, 39] (TxRelM W n2 p.parts) (fun _ iv _ => n2 - (intOf iv).toNat)
    case atStart => exact ⟨0, none, 0, rfl, rfl, Nat.zero_le _, World.ownsRow_nil _ _ _ _, Below.refl _ _⟩
    case round =>
     obtain ⟨i, S, cs, rfl, rfl, hi, hown, hbel⟩ := hrel
     by_cases hin : i < n2
     · have hPr := Hps.out.below hbel
       obtain ⟨b, off, q, A', n', c', A2', n2', c2', rfl, hbS, hq, hqa, y0, y1, y2, y3, y4, y5, y6⟩ := hPr.cells7 hin
       have hqm : q ∈ p.parts := List.mem_of_mem_drop (by rw [hq]; simp)
       obtain ⟨f1, f2⟩ := flats_in p.parts q hqm
       obtain ⟨V, hV⟩ : ∃ V, V = wr.alloc (.cells #[str q.type, str q.cs, str q.id, str q.loc, .int .i64 q.how, .slice A' n' c', .slice A2' n2' c2'] 25) := ⟨_, rfl⟩
       have hbV : Below wr.heap.size wr V := by rw [hV]; exact (Below.refl _ wr).alloc (Nat.le_refl _) _
       have hbelV := hbel.trans (hbV.mono hbel.size)
       have hqV : PartAt (· < V.heap.size) V q [str q.type, str q.cs, str q.id, str q.loc, .int .i64 q.how, .slice A' n' c', .slice A2' n2' c2'] := (hqa.belowN hbV hbel.size).more hbelV.size
       have hfl2 := Hfl2.out
       have hk := Hk.out
       have hcl := Hih2.out q _ V (by omega) (by omega) (fun x hx => Hg.out x (by rw [flatD_eq]; simp [f2 x hx])) hqV (HM.out.below hbelV) (HP.out.below hbelV)
       have htk := take_one hq
       have hownV := own_below hown hbV
       obtain ⟨tq, htq⟩ : ∃ t, t = textM q := ⟨_, rfl⟩
       rw [← htq] at hcl
       have Hcl := Lib.hid hcl
       have Htq := Lib.hid htq
       have Htk := Lib.hid htk
       have HV := Lib.hid hV
       have hi11 : i ≤ 11 := by omega
       clear hq hqa hqV hPr hown hbV hbel hcl htq htk hV hqm f1 f2 hfl2 hk
       go_wp2_with fail
       rw [← HV.out]
       clear y0 y1 y2 y3 y4 y5 y6
       refine Hcl.out.mono ?_
       rintro e w1 ⟨rfl, hb1⟩
       have hown1 := own_below hownV hb1
       have hbel1 := hbelV.trans (hb1.mono hbelV.size)
       clear hownV hb1 hbelV Hcl
       go_wp2_with (at_builtin; refine wpList_app rfl _ _ 52 rfl W.heap.size 9 i0 (.string ⟨#[]⟩) 1 16 Tryz.underlying52 hi0 hz0 hz1 hz2 rfl (by decide) S i cs (txsM p.parts i) rfl (hown1.alloc _) _ _ 1 1 [str tq] rfl (Sl.one _ _ _) (fun u hu => by rw [List.mem_singleton.1 hu]; rfl) (by unfold maxLen; omega) (by omega) (by have := hbel1.size; simp; omega) ?_)
       intro S' c' w4 hown4 hb4 _
       have hbel4 := ((hbel1.alloc hbel1.size (.cells #[str tq] 9))).trans hb4
       have hown5 : w4.ownsRow W.heap.size 9 1 (.slice S' (i + 1) c') (i + 1) (txsM p.parts (i + 1)) := by
        unfold txsM at hown4 ⊢
        rw [Htk.out, List.map_append, List.map_append]
        rw [Htq.out] at hown4
        exact hown4
       have Hown5 := Lib.hid hown5
       clear hown4 hown5 hb4 hown1 hbel1
       go_wp2_with fail
       exact ⟨⟨i + 1, S', c', rfl, by go_num, by omega, Hown5.out, hbel4⟩, by simp [intOf]; omega⟩
     · obtain rfl : i = n2 := by omega
       have hsl : Sl wr wr.heap.size 1 S L.length (L.map str) := by
        have h := Sl.of_own hown
        unfold txsM at h
        have e : p.parts.take i = p.parts := List.take_of_length_le (by rw [← Hn2.out]; exact Nat.le_refl _)
        rw [e, ← HL.out] at h
        rw [HLn.out]
        exact h
       have hcs := own_cap hown
       have Hsl := Lib.hid hsl
       clear hsl hown
       obtain ⟨wo, rfl⟩ : ∃ x, x = wr := ⟨_, rfl⟩
       go_wp2_with fail
       go_loopw [7] (BdRelM wo N) (fun nv _ => N - (intOf nv).toNat)
       case atStart => exact ⟨1, rfl, Nat.le_refl _, by omega, Below.refl _ _⟩
       case round =>
        obtain ⟨n, rfl, hn1, hn2, hbel2⟩ := hrel
        have hbel3 := hbel.trans (hbel2.mono hbel.size)
        have hsl2 := (Hsl.out.below hbel2).more hbel2.size
        have hjn := JoinNl_any L S cs wr.heap.size wr hsl2 (Nat.le_refl _) (by rw [HLn.out]; exact hcs) (by rw [HLn.out]; omega) (by omega)
        rw [HLn.out] at hjn
        have hit := fun W' (hb : Below wr.heap.size wr W') => Itoa_any n (by omega) W' (HP.out.below (hbel3.trans (hb.mono hbel3.size)))
        have hco := fun W' (hb : Below wr.heap.size wr W') => Contains_any (nlJ L) (45 :: 45 :: 61 :: 95 :: Lib.decDigits n) W' (HM.out.below (hbel3.trans (hb.mono hbel3.size))) (by omega)
        have hnd : (Lib.decDigits n).length ≤ 20 := by rw [Lib.decDigits_length]; have := nDig_le 6 n (by omega); omega
        obtain ⟨J, hJJ⟩ : ∃ J, J = nlJ L := ⟨_, rfl⟩
        have hmk : hasS J (45 :: 45 :: 61 :: 95 :: Lib.decDigits n) = hasS (nlJ L) (markM n) := by rw [hJJ]; rfl
        rw [← hJJ] at hjn hco
        have Hjn := Lib.hid hjn
        have Hit := Lib.hid hit
        have Hmk := Lib.hid hmk
        clear hjn hit hmk hJJ hsl2
        cases hh : hasS (nlJ L) (markM n) with
        | true =>
         have hne : n < N := by
          rcases Nat.lt_or_ge n N with h | h
          · exact h
          · obtain rfl : n = N := by omega
            rw [Hbd3.out] at hh
            cases hh
         rw [Hmk.out, hh] at hco
         have Hco := Lib.hid hco
         clear hco hh
         go_wp2_with fail
         refine Hjn.out.mono ?_
         rintro e w5 ⟨rfl, hb5⟩
         go_wp2_with fail
         refine (Hit.out _ hb5).mono ?_
         rintro e w6 ⟨rfl, hb6⟩
         have hb56 := hb5.trans (hb6.mono hb5.size)
         go_wp2_with fail
         refine (Hco.out _ hb56).mono ?_
         rintro e w7 ⟨rfl, rfl⟩
         have hbel7 := hbel2.trans (hb56.mono hbel2.size)
         go_wp2_with fail
         exact ⟨⟨n + 1, by go_num, by omega, by omega, hbel7⟩, by simp [intOf]; omega⟩
        | false =>
         obtain rfl : n = N := by
          rcases Nat.lt_or_ge n N with h | h
          · have := Hbd4.out n hn1 h
            rw [hh] at this
            cases this
          · omega
         rw [Hmk.out, hh] at hco
         have Hco := Lib.hid hco
         have hbde : bd = 61 :: 95 :: Lib.decDigits n := Hbp.out
         have hbd60 : 2 + bd.length ≤ 100 := by omega
         have Hbde := Lib.hid hbde
         clear hco hh hbde
         go_wp2_with fail
         refine Hjn.out.mono ?_
         rintro e w5 ⟨rfl, hb5⟩
         go_wp2_with fail
         refine (Hit.out _ hb5).mono ?_
         rintro e w6 ⟨rfl, hb6⟩
         have hb56 := hb5.trans (hb6.mono hb5.size)
         go_wp2_with fail
         refine (Hco.out _ hb56).mono ?_
         rintro e w7 ⟨rfl, rfl⟩
         go_wp2_with fail
         refine (Hit.out _ hb56).mono ?_
         rintro e w8 ⟨rfl, hb8⟩
         have hb58 := hb56.trans (hb8.mono hb56.size)
         have hbel8 := hbel3.trans (hb58.mono hbel3.size)
         have hbx8 := Hbx.out.below hbel8
         have hsl8 := (Hsl.out.below (hbel2.trans (hb58.mono hbel2.size))).more ((hbel2.trans (hb58.mono hbel2.size)).size)
         have Hsl8 := Lib.hid hsl8
         clear x0 x1 x2 x3 x4 x5 x6 hb5 hb6 hb8 hb56 hsl8 Hjn Hit Hco Hmk
         have ⟨x0, x1, x2, x3, x4, x5, x6⟩ := hbx8
         go_wp2_with fail
         rw [← Hbde.out]
         refine (Hcon.out _).mono ?_
         rintro e w9 ⟨S9, c9, rfl, hown9, hb9⟩
         have hft := FText_any F S9 F.length c9 w9.heap.size w9 (Sl.of_own hown9) (Nat.le_refl _) (by unfold maxLen; omega) (by omega)
         have Hft := Lib.hid hft
         clear hft hown9 hbx8
         go_wp2_with fail
         refine Hft.out.mono ?_
         rintro e wa ⟨rfl, hba⟩
         have hbA := hb9.trans (hba.mono hb9.size)
         have hbelA := hbel8.trans (hbA.mono hbel8.size)
         have hslA := Hsl8.out.below hbA
         have HslA := Lib.hid hslA
         clear x0 x1 x2 x3 x4 x5 x6 hb9 hba hslA Hft Hsl8 hbA hb58
         have hen0 : Hid (textF F ++ wrapM bd (L.drop 0) = T) := HTl.out.symm
         go_wp2_with fail
         go_loopw [9, 66] (WrRelM wa i bd T L) (fun _ iv _ => i - (intOf iv).toNat)
         case atStart => exact ⟨0, _, rfl, rfl, Nat.zero_le _, rfl, hen0⟩
         case round =>
          obtain ⟨j, acc, rfl, rfl, hj, rfl, hE⟩ := hrel
          have hle : acc.length + (wrapM bd (L.drop j)).length ≤ 204000 := by
           have := congrArg List.length hE.out
           rw [List.length_append] at this
           omega
          by_cases hjn : j < i
          · have hLj : j < L.length := by rw [HLn.out]; exact hjn
            obtain ⟨x, hx⟩ : ∃ x, L.drop j = x :: L.drop (j + 1) := ⟨L[j], List.drop_eq_getElem_cons hLj⟩
            have hxj : (L.map str)[j]? = some (str x) := by
             have h1 : L[j]? = some x := by rw [← List.head?_drop, hx]; rfl
             rw [List.getElem?_map, h1]; rfl
            obtain ⟨b2, off2, hS2, hb2, hc2⟩ := HslA.out.2 (by omega)
            subst hS2
            have y0 := hc2 j _ hxj
            have hE2 := hE.out
            rw [hx, wrapM] at hE2
            rw [hx, wrapM] at hle
            simp only [List.length_append, List.length_cons, List.length_nil] at hle
            have hE3 : Hid ((acc ++ 45 :: 45 :: (bd ++ 13 :: 10 :: (x ++ [13, 10]))) ++ wrapM bd (L.drop (j + 1)) = T) := by
             show _ = T
             rw [← hE2]
             simp
            have Hc2 := Lib.hid hc2
            clear hE hE2 hx hxj hc2 hLj
            go_wp2_with fail
            exact ⟨⟨j + 1, _, rfl, by go_num, by omega, rfl, hE3⟩, by simp [intOf]; omega⟩
          · obtain rfl : j = i := by omega
            have hE2 := hE.out
            have hd : L.drop j = [] := List.drop_of_length_le (by rw [HLn.out]; exact Nat.le_refl _)
            rw [hd, wrapM] at hE2
            rw [hd, wrapM] at hle
            simp only [List.length_append, List.length_cons, List.length_nil] at hle
            have hE3 : Hid (T = acc ++ 45 :: 45 :: (bd ++ [45, 45, 13, 10])) := by
             show T = _
             rw [← hE2]
             simp
            clear hE hE2 hd
            go_wp2_with fail
            go_ret
            exact ⟨by rw [hE3.out]; rfl, hbW.trans (hbelA.mono hbW.size)⟩
  · have hmp : manyB p.type = false := by simpa using hmp
    rw [hmp] at hm
    have hTl : T = textF (fieldsM p.type p.cs p.id p.loc p.how []) ++ encM p.how p.body := by rw [HT.out]; exact text_leaf p hmp
    have hfl := fields_text (b := []) (how := p.how) Ht.out Hcs.out Hid'.out Hloc.out (.inl rfl)
    have hf4 := fields_len p.type p.cs p.id p.loc [] p.how
    have hcon := fun W' => fields_any p.type p.cs p.id p.loc [] p.how A A2 n1 c n2 c2 W' (by omega) (by omega) (by omega) (by omega) (by simp) hw0 hw2
    have hcl1 : c ≤ maxLen := hcm
    obtain ⟨F, hF⟩ : ∃ F, F = fieldsM p.type p.cs p.id p.loc p.how [] := ⟨_, rfl⟩
    rw [← hF] at hTl hfl hf4 hcon
    have hen := enc_small p.how p.body (by rw [← Hn1.out]; exact hbo)
    obtain ⟨E, hE⟩ : ∃ E, E = encM p.how p.body := ⟨_, rfl⟩
    rw [← hE] at hTl hen
    have Hcon := Lib.hid hcon
    have HTl := Lib.hid hTl
    have Hm := Lib.hid hm
    have HE := Lib.hid hE
    clear hcon hTl hm hm1 hm0 hF htm hE hmp
    have hts := run_toStr (P := Tryz.prog) W 22 9 5 _ A n1 c p.body HBy.out Tryz.underlying22 Tryz.underlying5 Tryz.underlying9
    rcases (by omega : p.how = 0 ∨ p.how = 1 ∨ p.how = 2) with hh | hh | hh
    · have he : E = p.body := by rw [HE.out, hh]; rfl
      have hel : p.body.length ≤ 12600 := by rw [← he]; exact hen
      have He := Lib.hid he
      have d1 : (p.how == 1) = false := by rw [hh]; rfl
      have d2 : (p.how == 2) = false := by rw [hh]; rfl
      have Hh := Lib.hid hh
      clear he hh
      go_enter Tryz.func17, Tryz.ntmps17
      go_wp2_with fail
      rw [← HW.out]
      refine (Hm.out _).mono ?_
      rintro e w1 ⟨rfl, rfl⟩
      go_wp2_with fail
      refine (Hcon.out _).mono ?_
      rintro e w2 ⟨S, cc, rfl, hown, hb2⟩
      have hft := FText_any F S F.length cc w2.heap.size w2 (Sl.of_own hown) (Nat.le_refl _) (by unfold maxLen; omega) (by omega)
      have Hft := Lib.hid hft
      clear hft hown
      go_wp2_with fail
      refine Hft.out.mono ?_
      rintro e w3 ⟨rfl, hb3⟩
      go_wp2_with fail
      go_ret
      exact ⟨by rw [HTl.out, He.out]; rfl, hbW.trans ((hb2.trans (hb3.mono hb2.size)).mono hbW.size)⟩
    · have he : E = enc 0 p.body := by rw [HE.out, hh]; rfl
      have hel : (enc 0 p.body).length ≤ 12600 := by rw [← he]; exact hen
      have He := Lib.hid he
      have d1 : (p.how == 1) = true := by rw [hh]; rfl
      have d2 : (p.how == 2) = false := by rw [hh]; rfl
      have hct := fun W' (hb : Below W.heap.size W W') => Text_any A n1 c p.body W' ((HBy.out.below hb).more hb.size) hn hbo
      have Hct := Lib.hid hct
      have Hh := Lib.hid hh
      clear he hh hct
      go_enter Tryz.func17, Tryz.ntmps17
      go_wp2_with fail
      rw [← HW.out]
      refine (Hm.out _).mono ?_
      rintro e w1 ⟨rfl, rfl⟩
      go_wp2_with fail
      refine (Hct.out _ (Below.refl _ _)).mono ?_
      rintro e wq ⟨rfl, hbq⟩
      have hbxq := Hbx.out.below hbq
      clear x0 x1 x2 x3 x4 x5 x6
      have ⟨x0, x1, x2, x3, x4, x5, x6⟩ := hbxq
      go_wp2_with fail
      refine (Hcon.out _).mono ?_
      rintro e w2 ⟨S, cc, rfl, hown, hb2⟩
      have hft := FText_any F S F.length cc w2.heap.size w2 (Sl.of_own hown) (Nat.le_refl _) (by unfold maxLen; omega) (by omega)
      have Hft := Lib.hid hft
      clear hft hown
      go_wp2_with fail
      refine Hft.out.mono ?_
      rintro e w3 ⟨rfl, hb3⟩
      go_wp2_with fail
      go_ret
      exact ⟨by rw [HTl.out, He.out]; rfl, hbW.trans ((hbq.trans ((hb2.trans (hb3.mono hb2.size)).mono hbq.size)).mono hbW.size)⟩
    · have he : E = encQ 0 p.body := by rw [HE.out, hh]; rfl
      have hel : (encQ 0 p.body).length ≤ 12600 := by rw [← he]; exact hen
      have He := Lib.hid he
      have d1 : (p.how == 1) = false := by rw [hh]; rfl
      have d2 : (p.how == 2) = true := by rw [hh]; rfl
      have hct := fun W' (hb : Below W.heap.size W W') => QText_any A n1 c p.body W' ((HBy.out.below hb).more hb.size) hn hbo
      have Hct := Lib.hid hct
      have Hh := Lib.hid hh
      clear he hh hct
      go_enter Tryz.func17, Tryz.ntmps17
      go_wp2_with fail
      rw [← HW.out]
      refine (Hm.out _).mono ?_
      rintro e w1 ⟨rfl, rfl⟩
      go_wp2_with fail
      refine (Hct.out _ (Below.refl _ _)).mono ?_
      rintro e wq ⟨rfl, hbq⟩
      have hbxq := Hbx.out.below hbq
      clear x0 x1 x2 x3 x4 x5 x6
      have ⟨x0, x1, x2, x3, x4, x5, x6⟩ := hbxq
      go_wp2_with fail
      refine (Hcon.out _).mono ?_
      rintro e w2 ⟨S, cc, rfl, hown, hb2⟩
      have hft := FText_any F S F.length cc w2.heap.size w2 (Sl.of_own hown) (Nat.le_refl _) (by unfold maxLen; omega) (by omega)
      have Hft := Lib.hid hft
      clear hft hown
      go_wp2_with fail
      refine Hft.out.mono ?_
      rintro e w3 ⟨rfl, hb3⟩
      go_wp2_with fail
      go_ret
      exact ⟨by rw [HTl.out, He.out]; rfl, hbW.trans ((hbq.trans ((hb2.trans (hb3.mono hb2.size)).mono hbq.size)).mono hbW.size)⟩
end Go.Proofs.YtinfjdfhkfhgjaaGreatDoor
namespace Go.Proofs.YtinfjdfhkfhgjaaGreatDoor
open Go.RowKit
theorem upto_bytes (w : World) (A : Option Addr) (n c : Nat) (ki : IntKind) (k : Int) (h0 : 0 ≤ k) (h1 : k ≤ n) (hc : n ≤ c) :
 (Instr.slice 22 (.slice A n c) none (some (.int ki k)) none).run Tryz.prog w = .ok (.slice (cutA A c 0 1) k.toNat c) w :=
 run_upto w _ _ 1 Tryz.underlying22 (Tryz.sizeOf5 w) A n c ki k h0 h1 hc
attribute [local go_sem high] cut_bytes upto_bytes
theorem infoInt : (Tryz.prog.info? 3).map (fun i => (i.zero, i.size, i.bytes)) = some (some (.int .i64 0), 1, 8) := by kernel_rfl
theorem IndexByteR_any (l : List UInt8) (x : Nat) (_hx : x < 256) (w : World) :
 Calls Tryz.prog 89 #[str l, .int .u8 (x : Int)] w fun e w' => e = .returned (.int .i64 (idxI l x)) ∧ w = w' := by
 refine (Go.Proofs.Tryz.strings_IndexByte ⟨l.toArray⟩ (x : Int) w).mono ?_
 rintro e w' ⟨rfl, rfl⟩
 refine ⟨?_, rfl⟩
 show Ending.returned (.int .i64 (Lib.indexByte l (((x : Int).toNat).toUInt8))) = _
 rfl
/-- Likewise, in memory of its own. -/
def BytesResF (w : World) (r : List UInt8 × Nat) (e : Ending) (w' : World) : Prop :=
 ∃ A c, e = .returned (.tuple #[.slice A r.1.length c, .int .i64 r.2]) ∧ SlS (fun b => w.heap.size ≤ b ∧ b < w'.heap.size) w' 1 A r.1.length (Lib.byteCells r.1) ∧ r.1.length ≤ c ∧ c ≤ maxLen ∧ Below w.heap.size w w'
theorem BytesResF.fail {w w' : World} (k : Nat) (h : Below w.heap.size w w') : BytesResF w ([], k) (.returned (.tuple #[.slice none 0 0, .int .i64 (k : Int)])) w' :=
 ⟨none, 0, rfl, ⟨rfl, fun h => absurd h (by simp)⟩, Nat.le_refl _, Nat.zero_le _, h⟩
theorem own_slsR {w : World} {base n c : Nat} {e : TypeId} {A : Option Addr} {xs : List Value} (h : w.ownsRow base e 1 (.slice A n c) n xs) : SlS (fun b => base ≤ b ∧ b < w.heap.size) w 1 A n xs := by
 refine ⟨h.1, fun hn => ?_⟩
 obtain ⟨b, off, e1, hb, hc⟩ := (Sl.of_own h).2 hn
 rcases h.2 with ⟨_, h0⟩ | ⟨g, cap, cur, hv, hg, _⟩
 · omega
 · injection hv with hA _ _
   rw [hA] at e1
   injection e1 with e1
   injection e1 with e1 e2 _
   subst e1; subst e2
   exact ⟨g, 0, hA, ⟨hg, hb⟩, hc⟩
theorem own_capR {w : World} {base : Nat} {e : TypeId} {size : Nat} {S : Option Addr} {n c : Nat} {xs : List Value} (h : w.ownsRow base e size (.slice S n c) n xs) : c ≤ maxLen := by
 rcases h.2 with ⟨hv, _⟩ | ⟨g, cap, cur, hv, _, _, _, hm, _⟩
 · injection hv with _ _ hc; subst hc; exact Nat.zero_le _
 · injection hv with _ _ hc; subst hc; exact hm
theorem SlS.head_ {S : Nat → Prop} {w : World} {A : Option Addr} {n c q : Nat} {xs : List Value} (h : SlS S w 1 A n xs) (hq : q ≤ n) : SlS S w 1 (cutA A c 0 1) q (xs.take q) := by
 refine ⟨by rw [List.length_take, h.1]; omega, fun hn => ?_⟩
 obtain ⟨b, off, rfl, hb, hc⟩ := h.2 (by omega)
 refine ⟨b, off, ?_, hb, fun j u hu => hc j u ?_⟩
 · unfold cutA; split
   · rfl
   · rfl
 · rw [List.getElem?_take] at hu
   split at hu
   · exact hu
   · cases hu
def ReadRel1 (n : Nat) (s : List UInt8) (R : Option (List Nat × Nat)) (w1 : World) (vv pv iv : Value) (wr : World) : Prop :=
 ∃ i pad m c vals V, vv = .slice V m c ∧ pv = .int .i64 (pad : Nat) ∧ iv = .int .i64 (i : Nat) ∧ i ≤ n ∧ pad ≤ m ∧ m ≤ i ∧ Hid (vals.length = m ∧ (∀ x ∈ vals, x < 64) ∧ scanB vals pad (s.drop i) = R) ∧
  wr.ownsRow w1.heap.size 3 1 (.slice V m c) m (intCells vals) ∧ Below w1.heap.size w1 wr
def ReadRel2 (m : Nat) (vals : List Nat) (w2 : World) (ov iv : Value) (wr : World) : Prop :=
 ∃ p ol oc out O, ov = .slice O ol oc ∧ iv = .int .i64 (p : Nat) ∧ p ≤ m ∧ p % 4 = 0 ∧ ol * 4 = 3 * p ∧ ol ≤ oc ∧ Hid (out.length = ol ∧ out ++ bytes3 (vals.drop p) = bytes3 vals) ∧
  wr.ownsRow w2.heap.size 5 1 (.slice O ol oc) ol (Lib.byteCells out) ∧ Below w2.heap.size w2 wr
theorem Read_anyF (s : List UInt8) (w : World) (hs : s.length ≤ 9223372036854775807) :
 Calls Tryz.prog 110 #[str s] w (BytesResF w (readB s)) := by
 obtain ⟨i0, hi0, hz0, hz1, hz2⟩ := info_parts infoInt
 obtain ⟨j0, hj0, hjz0, hjz1, hjz2⟩ := info_parts infoByte
 by_cases h8 : 8000 < s.length
 · have hr : readB s = ([], 2) := by unfold readB; rw [if_pos h8]
   rw [hr]
   go_enter Tryz.func110, Tryz.ntmps110
   go_wp2_with fail
   go_ret2
   exact BytesResF.fail 2 (Below.refl _ _)
 · obtain ⟨R, hR⟩ : ∃ R, R = scanB [] 0 s := ⟨_, rfl⟩
   obtain ⟨r, hr⟩ : ∃ r, r = readB s := ⟨_, rfl⟩
   have hr2 : Hid (r = readFin R) := by
    show r = _
    rw [hr, hR]; unfold readB; rw [if_neg h8]
   rw [← hr]
   have HR := Lib.hid hR; clear hR hr
   obtain ⟨n, hn⟩ : ∃ n, n = s.length := ⟨_, rfl⟩
   have h8n : n ≤ 8000 := by omega
   obtain ⟨A, c, w1, hconv, hby, hnc, hb1, hlt1⟩ := run_toBytes (P := Tryz.prog) w 9 22 5 s Tryz.underlying9 Tryz.underlying22 Tryz.underlying5
   rw [← hn] at hconv hby hnc
   have Hn := Lib.hid hn
   have hlen : s.length ≤ 8000 := by omega
   clear hn h8 hs
   go_enter Tryz.func110, Tryz.ntmps110
   go_wp2_with fail
   go_loopw [4, 5, 20] (ReadRel1 n s R w1) (fun _ _ iv _ => n - (intOf iv).toNat)
   case atStart => exact ⟨0, 0, 0, 0, [], none, rfl, rfl, rfl, by omega, by omega, by omega, ⟨rfl, by simp, by rw [HR.out]; rfl⟩, World.ownsRow_nil _ _ _ _, Below.refl _ _⟩
   case round =>
    obtain ⟨i, pad, m, c4, vals, V, rfl, rfl, rfl, hi, hpm, hmi, hE, hown, hb2⟩ := hrel
    by_cases hin : i < n
    · obtain ⟨b, off, rfl, hbl, hcell1⟩ := hby.at_ hin
      have hcell : wr.cell? ⟨b, off + i, none⟩ = some (.int .u8 (nth s i)) := (hb2.cell (p := ⟨b, _, none⟩) hbl).trans hcell1
      have hx8 := nth_lt s i
      have his : Hid (i < s.length) := by rw [Hn.out] at hin; exact hin
      clear hcell1
      rcases blank_cases (nth s i) with ⟨hbk, h1⟩ | ⟨hbk, h1, h2⟩ | ⟨hbk, h1, h2, h3⟩ | ⟨hbk, h1, h2, h3, h4⟩ | ⟨hbk, h1, h2, h3, h4⟩
      case inr.inr.inr.inr =>
       have Hbk := Lib.hid hbk; clear hbk
       go_wp2_with fail
       refine (IndexByteR_any letters _ hx8 _).mono ?_
       rintro e w2 ⟨rfl, rfl⟩
       have hbd := idxI_bd letters (nth s i)
       rw [letters_len] at hbd
       obtain ⟨hbd1, hbd2⟩ := hbd
       have h63 : m + 1 ≤ maxLen := by unfold maxLen; omega
       have h47 : (m + 1) * 8 ≤ 140737488355328 := by omega
       by_cases he : nth s i = 61
       · have he1 : ((nth s i : Int) == 61) = true := by simp [he]
         have HE := Lib.hid he; clear he
         go_wp2_with (at_builtin; refine wpList_app rfl _ _ 108 rfl w1.heap.size 3 i0 (.int .i64 0) 1 8 Tryz.underlying108 hi0 hz0 hz1 hz2 rfl (by decide) V m c4 (intCells vals) rfl (hown.alloc _) _ _ 1 1 [.int .i64 0] rfl (Sl.one _ _ _) ?c1 h63 h47 ?c2 ?_)
         case c1 => intro u hu; simp at hu; subst hu; rfl
         case c2 => have := hb2.size; simp; omega
         intro S' c' w3 hown3 hb3 _
         go_wp2_with fail
         exact ⟨⟨i + 1, pad + 1, m + 1, c', vals ++ [0], S', rfl, by go_num, by go_num, by omega, by omega, by omega,
          ⟨by simp [hE.out.1], by intro x hx; simp at hx; rcases hx with hx | hx; exact hE.out.2.1 x hx; omega, by rw [← scan_eq his.out Hbk.out HE.out]; exact hE.out.2.2⟩, by rw [intCells_append]; exact hown3, (hb2.alloc hb2.size _).trans hb3⟩, by simp [intOf]; omega⟩
       · have he1 : ((nth s i : Int) == 61) = false := by simp; omega
         by_cases hk0 : idxI letters (nth s i) < 0
         · have hR0 : R = none := by rw [← hE.out.2.2]; exact scan_bad his.out Hbk.out he (.inl hk0)
           have hr0 : Hid (r = ([], 1)) := by show r = _; rw [hr2.out, hR0]; rfl
           clear hR0 he
           go_wp2_with fail
           go_ret2
           rw [hr0.out]
           exact BytesResF.fail 1 (hb1.trans (hb2.mono (by omega)))
         · by_cases hp0 : 0 < pad
           · have hR0 : R = none := by rw [← hE.out.2.2]; exact scan_bad his.out Hbk.out he (.inr hp0)
             have hr0 : Hid (r = ([], 1)) := by show r = _; rw [hr2.out, hR0]; rfl
             clear hR0 he
             go_wp2_with fail
             go_ret2
             rw [hr0.out]
             exact BytesResF.fail 1 (hb1.trans (hb2.mono (by omega)))
           · have HE := Lib.hid he; clear he
             go_wp2_with (at_builtin; refine wpList_app rfl _ _ 108 rfl w1.heap.size 3 i0 (.int .i64 0) 1 8 Tryz.underlying108 hi0 hz0 hz1 hz2 rfl (by decide) V m c4 (intCells vals) rfl (hown.alloc _) _ _ 1 1 [.int .i64 (idxI letters (nth s i))] rfl (Sl.one _ _ _) ?c3 h63 h47 ?c4 ?_)
             case c3 => intro u hu; simp at hu; subst hu; rfl
             case c4 => have := hb2.size; simp; omega
             intro S' c' w3 hown3 hb3 _
             go_wp2_with fail
             have hkk : ((idxI letters (nth s i)).toNat : Int) = idxI letters (nth s i) := by omega
             refine ⟨⟨i + 1, pad, m + 1, c', vals ++ [(idxI letters (nth s i)).toNat], S', rfl, rfl, by go_num, by omega, by omega, by omega,
              ⟨by simp [hE.out.1], ?_, by rw [← scan_val his.out Hbk.out HE.out (by omega) (by omega)]; exact hE.out.2.2⟩, ?_, (hb2.alloc hb2.size _).trans hb3⟩, by simp [intOf]; omega⟩
             · intro x hx
               simp at hx
               rcases hx with hx | hx
               · exact hE.out.2.1 x hx
               · omega
             · rw [intCells_append]; show World.ownsRow _ _ _ _ _ _ (_ ++ [Value.int .i64 ((idxI letters (nth s i)).toNat : Int)]); rw [hkk]; exact hown3
      all_goals
       have Hbk := Lib.hid hbk; clear hbk
       go_wp2_with fail
       exact ⟨⟨i + 1, pad, m, c4, vals, V, rfl, rfl, by go_num, by omega, by omega, by omega, ⟨hE.out.1, hE.out.2.1, by rw [← scan_blank his.out Hbk.out]; exact hE.out.2.2⟩, hown, hb2⟩, by simp [intOf]; omega⟩
    · obtain rfl : i = n := by omega
      have hRv : R = some (vals, pad) := by rw [← hE.out.2.2, List.drop_of_length_le (by rw [Hn.out]; exact Nat.le_refl _)]; rfl
      have hr3 : r = if m % 4 != 0 || decide (2 < pad) then ([], 1) else cutPad (bytes3 vals) pad := by rw [hr2.out, hRv, ← hE.out.1]; rfl
      have hbel := hb1.trans (hb2.mono (Nat.le_of_lt hlt1))
      clear HR hRv hr2
      by_cases h4 : m % 4 = 0
      · have h4b : ((m : Int) % 4 != 0) = false := by simp; omega
        by_cases hp2 : 2 < pad
        · have hr4 : Hid (r = ([], 1)) := by show r = _; rw [hr3]; simp [hp2]
          clear hr3
          go_wp2_with fail
          go_ret2
          rw [hr4.out]
          exact BytesResF.fail 1 hbel
        · have hr4 : Hid (r = cutPad (bytes3 vals) pad) := by show r = _; rw [hr3]; simp [h4]; omega
          clear hr3
          have hE2 := hE.out
          have HV := Lib.hid hE2.1
          have hv64 := Lib.hid hE2.2.1
          clear hE hE2
          go_wp2_with fail
          obtain ⟨w2, rfl⟩ : ∃ w2 : World, w2 = wr := ⟨_, rfl⟩
          have hSv := Sl.of_own hown
          clear hby hconv hnc
          go_loopw [9, 10] (ReadRel2 m vals w2) (fun _ iv _ => m - (intOf iv).toNat)
          case atStart => exact ⟨0, 0, 0, [], none, rfl, rfl, by omega, rfl, rfl, by omega, ⟨rfl, rfl⟩, World.ownsRow_nil _ _ _ _, Below.refl _ _⟩
          case round =>
           obtain ⟨p, ol, oc, out, O, rfl, rfl, hp, hp4, hol, hoc, hE, hown3, hb3⟩ := hrel
           by_cases hpm : p < m
           · obtain ⟨g, off, rfl, hg, hcells⟩ := ints_opn hSv (by omega)
             have hx : ∀ k, k < m → wr.cell? ⟨g, off + k, none⟩ = some (.int .i64 (nthN vals k : Nat)) := fun k hk => (hb3.cell (p := ⟨g, _, none⟩) hg).trans (hcells k hk)
             have x0 := hx p (by omega)
             have x1 := hx (p + 1) (by omega)
             have x2 := hx (p + 2) (by omega)
             have x3 := hx (p + 3) (by omega)
             clear hx hcells
             obtain ⟨a, ha⟩ : ∃ a, a = nthN vals p := ⟨_, rfl⟩
             obtain ⟨b, hb⟩ : ∃ a, a = nthN vals (p + 1) := ⟨_, rfl⟩
             obtain ⟨d, hd⟩ : ∃ a, a = nthN vals (p + 2) := ⟨_, rfl⟩
             obtain ⟨f, hf⟩ : ∃ a, a = nthN vals (p + 3) := ⟨_, rfl⟩
             rw [← ha] at x0; rw [← hb] at x1; rw [← hd] at x2; rw [← hf] at x3
             have a64 : a < 64 := by rw [ha]; exact nthN_lt vals _ 64 (by omega) hv64.out
             have b64 : b < 64 := by rw [hb]; exact nthN_lt vals _ 64 (by omega) hv64.out
             have d64 : d < 64 := by rw [hd]; exact nthN_lt vals _ 64 (by omega) hv64.out
             have f64 : f < 64 := by rw [hf]; exact nthN_lt vals _ 64 (by omega) hv64.out
             have Hnum : Hid (num4 a b d f = num4 (nthN vals p) (nthN vals (p + 1)) (nthN vals (p + 2)) (nthN vals (p + 3))) := by rw [← ha, ← hb, ← hd, ← hf]; rfl
             clear ha hb hd hf
             go_wp2_with fail
             have i1 : IntKind.i64.wrap ((p : Int) + 1) = (p : Int) + 1 := IntWalk.i64_in _ (by omega)
             have i2 : IntKind.i64.wrap ((p : Int) + 2) = (p : Int) + 2 := IntWalk.i64_in _ (by omega)
             have i3 : IntKind.i64.wrap ((p : Int) + 3) = (p : Int) + 3 := IntWalk.i64_in _ (by omega)
             have j1 : ((p : Int) + 1).toNat = p + 1 := by omega
             have j2 : ((p : Int) + 2).toNat = p + 2 := by omega
             have j3 : ((p : Int) + 3).toNat = p + 3 := by omega
             have l0 : (p : Int) < m := by omega
             have l1 : (p : Int) + 1 < m := by omega
             have l2 : (p : Int) + 2 < m := by omega
             have l3 : (p : Int) + 3 < m := by omega
             have k1 : 0 ≤ (p : Int) + 1 := by omega
             have k2 : 0 ≤ (p : Int) + 2 := by omega
             have k3 : 0 ≤ (p : Int) + 3 := by omega
             obtain ⟨v1, hv1⟩ : ∃ v, v = a * 262144 + b * 4096 := ⟨_, rfl⟩
             obtain ⟨v2, hv2⟩ : ∃ v, v = v1 + d * 64 := ⟨_, rfl⟩
             obtain ⟨v, hv⟩ : ∃ v, v = num4 a b d f := ⟨_, rfl⟩
             have hvv : v = v2 + f := by rw [hv, hv2, hv1]; rfl
             have v24 : v < 16777216 := by omega
             have o1 : bits .or .i64 ((a : Int) * 262144) ((b : Int) * 4096) = (v1 : Int) := by
              have h := i64_or (a * 262144) (b * 4096) (by omega) (by omega)
              rw [show a * 262144 ||| b * 4096 = v1 from by rw [hv1]; exact or_low a (b * 4096) 18 (by omega)] at h
              simpa using h
             have o2 : bits .or .i64 (v1 : Int) ((d : Int) * 64) = (v2 : Int) := by
              have h := i64_or v1 (d * 64) (by omega) (by omega)
              rw [show v1 ||| d * 64 = v2 from by
               rw [hv2, show v1 = (a * 64 + b) * 2 ^ 12 from by omega]; exact or_low _ (d * 64) 12 (by omega)] at h
              simpa using h
             have o3 : bits .or .i64 (v2 : Int) (f : Int) = (v : Int) := by
              have h := i64_or v2 f (by omega) (by omega)
              rw [show v2 ||| f = v from by
               rw [hvv, show v2 = (a * 4096 + b * 64 + d) * 2 ^ 6 from by omega]; exact or_low _ f 6 (by omega)] at h
              exact h
             rw [← hv] at Hnum
             clear hv1 hv2 hvv hv
             go_quiet (fail)
             clear i1 i2 i3 j1 j2 j3 l0 l1 l2 l3 k1 k2 k3 o1 o2 o3 x0 x1 x2 x3
             have h63 : ol + 3 ≤ maxLen := by unfold maxLen; omega
             have h47 : (ol + 3) * 1 ≤ 140737488355328 := by omega
             go_wp2_with (at_builtin; refine wpList_app rfl _ _ 22 rfl w2.heap.size 5 j0 (.int .u8 0) 1 1 Tryz.underlying22 hj0 hjz0 hjz1 hjz2 rfl (by decide) O ol oc (Lib.byteCells out) rfl (World.ownsRow.alloc (w := wr.drewN nq) hown3 _) _ _ 3 3 [.int .u8 ((v : Int) / 65536), .int .u8 ((v : Int) / 256 % 256), .int .u8 ((v : Int) % 256)] rfl (Sl.row (wr.drewN nq) _ 1 3 _ rfl) ?c5 h63 h47 ?c6 ?_)
             case c5 => intro u hu; simp at hu; rcases hu with rfl | rfl | rfl <;> rfl
             case c6 => have := hb3.size; simp; omega
             intro S' c' w4 hown4 hb4 _
             have hc' : ol + 3 ≤ c' := by
              rcases hown4.2 with ⟨_, h0⟩ | ⟨g', cap', cur', hv', _, _, hnc', _⟩
              · omega
              · injection hv' with _ _ hcc; omega
             go_wp2_with fail
             refine ⟨⟨p + 4, ol + 3, c', out ++ three v, S', rfl, by go_num, by omega, by omega, by omega, hc', ?_, ?_, ?_⟩, by simp [intOf]; omega⟩
             · have h1 := hE.out.1
               have h2 := hE.out.2
               have h3 := bytes3_step vals (p / 4) (by have := HV.out; omega)
               rw [show 4 * (p / 4) = p from by omega, show 4 * (p / 4 + 1) = p + 4 from by omega, ← Hnum.out] at h3
               refine ⟨by simp [three, h1], ?_⟩
               rw [← h2, h3]; simp
             · rw [byteCells_append, three_cells v v24]; exact hown4
             · exact ((belN hb3 nq).alloc hb3.size _).trans hb4
           · obtain rfl : p = m := by omega
             have hE2 := hE.out.2
             rw [List.drop_of_length_le (by rw [HV.out]; exact Nat.le_refl _)] at hE2
             have hout : out = bytes3 vals := by rw [← hE2]; simp [bytes3]
             subst hout
             have hE1 := hE.out.1
             have hr5 : Hid (r = cutPad (bytes3 vals) pad) := hr4
             clear hE hE2 hr4
             have HE1 := Lib.hid hE1; clear hE1
             have hbel2 := hbel.trans (hb3.mono (Nat.le_trans (Nat.le_of_lt hlt1) hb2.size))
             have hByO := By.of_own hown3
             have HF := Lib.hid (And.intro (SlS.change (S' := fun b => w.heap.size ≤ b ∧ b < _) (own_slsR hown3) (fun b hb => ⟨Nat.le_trans (Nat.le_trans (Nat.le_of_lt hlt1) hb2.size) hb.1, hb.2⟩) (fun _ _ => rfl)) (own_capR hown3))
             have hpol : pad ≤ ol := by omega
             obtain ⟨q, hq, hqo⟩ : ∃ q : Nat, (ol : Int) - (pad : Int) = (q : Int) ∧ Hid (q + pad = ol) := ⟨ol - pad, by omega, by show _ = _; omega⟩
             have hqle : q ≤ ol := by have := hqo.out; omega
             have hol8 : ol ≤ 6000 := by omega
             clear hb2 hb3 hbel hown hown3 hSv hpol
             go_wp2_with fail
             have hT := hByO.cut hqle hoc
             generalize cutA O oc q 1 = A5 at hT ⊢
             generalize hd : ol - q = d at hT ⊢
             have hdp : Hid (d = pad) := by have := hqo.out; show _ = _; omega
             have hd2 : d ≤ 2 := by have := hdp.out; omega
             clear hd
             go_loop [114] (fun iv => ∃ k : Nat, k ≤ d ∧ iv = .int .i64 k ∧ Hid (∀ j, j < k → nth ((bytes3 vals).drop q) j = 0)) (fun iv => d - (intOf iv).toNat)
             case atStart => exact ⟨0, by omega, rfl, fun j hj => absurd hj (by omega)⟩
             case round =>
              obtain ⟨k, hk, rfl, hz⟩ := hrel
              by_cases hkd : k < d
              · obtain ⟨b, off, rfl, _, hc⟩ := hT.at_ hkd
                by_cases hx0 : nth ((bytes3 vals).drop q) k = 0
                · have hxb : ((nth ((bytes3 vals).drop q) k : Int) != 0) = false := by simp [hx0]
                  have HX := Lib.hid hx0; clear hx0
                  go_wp2_with fail
                  refine ⟨⟨k + 1, by omega, by go_num, fun j hj => ?_⟩, by simp [intOf]; omega⟩
                  rcases Nat.lt_or_ge j k with h | h
                  · exact hz.out j h
                  · rw [show j = k from by omega]; exact HX.out
                · have hxb : ((nth ((bytes3 vals).drop q) k : Int) != 0) = true := by simp; omega
                  have hr6 : Hid (r = ([], 1)) := by
                   show r = _
                   rw [hr5.out]
                   exact cutPad_bad _ pad q k (by rw [HE1.out]; exact hqo.out) (by have := hdp.out; omega) hx0
                  clear hx0
                  go_wp2_with fail
                  go_ret2
                  rw [hr6.out]
                  exact BytesResF.fail 1 hbel2
              · obtain rfl : k = d := by omega
                have hr6 := cutPad_ok (bytes3 vals) pad q (by rw [HE1.out]; exact hqo.out) (fun j hj => hz.out j (by have := hdp.out; omega))
                rw [← hr5.out] at hr6
                by_cases hq4 : 4000 < q
                · have hr7 : Hid (r = ([], 2)) := by show r = _; rw [hr6, if_pos hq4]
                  clear hr6
                  go_wp2_with fail
                  go_ret2
                  rw [hr7.out]
                  exact BytesResF.fail 2 hbel2
                · have hr7 : Hid (r = ((bytes3 vals).take q, 0)) := by show r = _; rw [hr6, if_neg hq4]
                  clear hr6
                  go_wp2_with fail
                  go_ret2
                  rw [hr7.out]
                  have hlq : ((bytes3 vals).take q).length = q := by rw [List.length_take, HE1.out]; omega
                  refine ⟨cutA O oc 0 1, oc, ?_, ?_, ?_, HF.out.2, hbel2⟩
                  · show _ = Ending.returned (.tuple #[.slice _ ((bytes3 vals).take q).length _, .int .i64 ((0 : Nat) : Int)])
                    rw [hlq]; rfl
                  · show SlS _ _ 1 _ ((bytes3 vals).take q).length (Lib.byteCells ((bytes3 vals).take q))
                    rw [hlq]
                    have h := SlS.head_ (c := oc) (q := q) HF.out.1 (by omega)
                    have e : (Lib.byteCells (bytes3 vals)).take q = Lib.byteCells ((bytes3 vals).take q) := by unfold Lib.byteCells; rw [List.map_take]
                    rw [e] at h
                    exact h
                  · show ((bytes3 vals).take q).length ≤ oc
                    rw [hlq]; omega
      · have h4b : ((m : Int) % 4 != 0) = true := by simp; omega
        have hr4 : Hid (r = ([], 1)) := by show r = _; rw [hr3]; simp [h4]
        clear hr3
        go_wp2_with fail
        go_ret2
        rw [hr4.out]
        exact BytesResF.fail 1 hbel
end Go.Proofs.YtinfjdfhkfhgjaaGreatDoor
namespace Go.Proofs.YtinfjdfhkfhgjaaGreatDoor
open Go.RowKit
/-- '[]byte(s)', its spare room a length. -/
theorem run_toBytesM {P : Program} (w : World) (src dst e : TypeId) (l : List UInt8) (hs : P.underlying src = some .string) (hd : P.underlying dst = some (.slice e)) (he : P.underlying e = some (.int .u8)) (hl : l.length ≤ maxLen) :
 ∃ A c w', (convert src dst (str l)).run P w = .ok (.slice A l.length c) w' ∧ By w' w'.heap.size A l.length l ∧ l.length ≤ c ∧ c ≤ maxLen ∧ Below w.heap.size w w' := by
 obtain ⟨A, c, w', h1, h2, h3, h4, _⟩ := run_toBytes (P := P) w src dst e l hs hd he
 have h := run_bytes_of_string (P := P) w src dst e ⟨l.toArray⟩ hs hd he
 have k := h1.symm.trans h
 injection k with k _
 injection k with _ _ k
 exact ⟨A, c, w', h1, h2, h3, by rw [k]; exact grownCap_le_maxLen _ _ _ _ (by show l.toArray.size ≤ maxLen; simpa using hl), h4⟩
def WriteRes (w : World) (r : List UInt8 × Nat) (e : Ending) (w' : World) : Prop :=
 ∃ A c, e = .returned (.tuple #[.slice A r.1.length c, .int .i64 r.2]) ∧ By w' w'.heap.size A r.1.length r.1 ∧ r.1.length ≤ c ∧ c ≤ maxLen ∧ Below w.heap.size w w'
theorem WriteRes.fail {w w' : World} (k : Nat) (h : Below w.heap.size w w') : WriteRes w ([], k) (.returned (.tuple #[.slice none 0 0, .int .i64 (k : Int)])) w' :=
 ⟨none, 0, rfl, By.nil_ _ _ _, Nat.le_refl _, Nat.zero_le _, h⟩
theorem MWrite_any (p : PartD) (v : List Value) (w : World) (hp : PartAt (· < w.heap.size) w p v) (hM : MaxLenOk w) (hP : PowOk w) :
 Calls Tryz.prog 4 #[.agg v.toArray] w (WriteRes w (writeM p)) := by
 have hck := PCheck_any p v
 have htx := fun W => mtext_any 12 p v W
 obtain ⟨A, c, A2, c2, rfl, _⟩ := hp.open
 obtain ⟨n1, hn1⟩ : ∃ n1, n1 = p.body.length := ⟨_, rfl⟩
 obtain ⟨n2, hn2⟩ : ∃ n2, n2 = p.parts.length := ⟨_, rfl⟩
 rw [← hn1, ← hn2] at hp hck htx ⊢
 obtain ⟨W, hW⟩ : ∃ W, W = w.alloc (.cells #[str p.type, str p.cs, str p.id, str p.loc, .int .i64 p.how, .slice A n1 c, .slice A2 n2 c2] 25) := ⟨_, rfl⟩
 have hbW : Below w.heap.size w W := by rw [hW]; exact (Below.refl _ w).alloc (Nat.le_refl _) _
 have hbx : Box7 W w.heap.size (str p.type) (str p.cs) (str p.id) (str p.loc) (.int .i64 p.how) (.slice A n1 c) (.slice A2 n2 c2) := by rw [hW]; exact Box7.new w _ _ _ _ _ _ _ _
 have hkW := hck W ((hp.below hbW).more hbW.size)
 have hwm : writeM p = if checkD p ≠ 0 then ([], checkD p) else if 40000 < (textM p).length then ([], 2) else (textM p, 0) := rfl
 obtain ⟨R, hR⟩ : ∃ R, R = writeM p := ⟨_, rfl⟩
 rw [← hR] at hwm ⊢
 by_cases h0 : checkD p = 0
 · obtain ⟨g1, _, g3⟩ := checkM_parts h0
   rw [if_neg (by omega)] at hwm
   rw [h0] at hkW
   have ht2 := fun W' (hb : Below w.heap.size w W') => htx W' g3 g3 g1 ((hp.below hb).more hb.size) (hM.below hb) (hP.below hb)
   obtain ⟨T, hT⟩ : ∃ T, T = textM p := ⟨_, rfl⟩
   rw [← hT] at hwm ht2
   have HW := Lib.hid hW
   have Hk := Lib.hid hkW
   have Ht := Lib.hid ht2
   have Hbx := Lib.hid hbx
   have hwm' := Lib.hid hwm
   clear hwm hR hT hkW ht2 hck htx hp hM hP hn1 hn2 hW g1 g3 h0 hbx
   go_enter Tryz.func4, Tryz.ntmps4
   have ⟨x0, x1, x2, x3, x4, x5, x6⟩ := Hbx.out
   go_wp2_with fail
   rw [← HW.out]
   refine Hk.out.mono ?_
   rintro e w1 ⟨rfl, hb1⟩
   have hbx1 := Hbx.out.below hb1
   have hbel1 := hbW.trans (hb1.mono hbW.size)
   clear x0 x1 x2 x3 x4 x5 x6
   have ⟨x0, x1, x2, x3, x4, x5, x6⟩ := hbx1
   clear hb1
   go_wp2_with fail
   refine (Ht.out _ hbel1).mono ?_
   rintro e w2 ⟨rfl, hb2⟩
   have hbel2 := hbel1.trans (hb2.mono hbel1.size)
   by_cases h4 : 40000 < T.length
   · have d1 : decide ((40000 : Int) < (T.length : Int)) = true := by simp; omega
     have hR : R = ([], 2) := by rw [hwm'.out, if_pos h4]
     have HR := Lib.hid hR
     clear hR hwm' hb2 hbx1
     go_wp2_with fail
     go_ret2
     rw [HR.out]
     exact WriteRes.fail 2 hbel2
   · have d1 : decide ((40000 : Int) < (T.length : Int)) = false := by simp; omega
     have hR : R = (T, 0) := by rw [hwm'.out, if_neg h4]
     obtain ⟨A9, c9, w9, hrun, hby, hc9, hm9, hb9⟩ := run_toBytesM (P := Tryz.prog) w2 9 22 5 T Tryz.underlying9 Tryz.underlying22 Tryz.underlying5 (by unfold maxLen; omega)
     have HR := Lib.hid hR
     have Hby := Lib.hid hby
     clear hR hwm' hb2 hbx1 hby
     go_wp2_with fail
     go_ret2
     rw [HR.out]
     exact ⟨A9, c9, rfl, Hby.out, hc9, hm9, hbel2.trans (hb9.mono hbel2.size)⟩
 · rw [if_pos h0] at hwm
   have de : ((checkD p : Int) != 0) = true := by simp; omega
   obtain ⟨K, hK⟩ : ∃ K, K = checkD p := ⟨_, rfl⟩
   rw [← hK] at hwm hkW de
   have HW := Lib.hid hW
   have Hk := Lib.hid hkW
   have Hw := Lib.hid hwm
   have Hbx := Lib.hid hbx
   clear hR hkW hck htx hp hM hP hn1 hn2 hW h0 hK hwm hbx
   go_enter Tryz.func4, Tryz.ntmps4
   have ⟨x0, x1, x2, x3, x4, x5, x6⟩ := Hbx.out
   go_wp2_with fail
   rw [← HW.out]
   refine Hk.out.mono ?_
   rintro e w1 ⟨rfl, hb1⟩
   go_wp2_with fail
   go_ret2
   rw [Hw.out]
   exact WriteRes.fail K (hbW.trans (hb1.mono hbW.size))
end Go.Proofs.YtinfjdfhkfhgjaaGreatDoor

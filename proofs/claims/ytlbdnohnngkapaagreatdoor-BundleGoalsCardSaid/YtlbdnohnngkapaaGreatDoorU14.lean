import Derived.Test.YtlbdnohnngkapaaGreatDoorU13
import Derived.KernelRfl
import Derived.Lib.Replace
import Derived.Lib.Split
import Derived.Lib.IndexLaws
import Derived.Test.YtlbdnohnngkapaaGreatDoorU12
import Derived.Deep.Onto
import Derived.Laws.StructEq
namespace Go.Proofs.YtlbdnohnngkapaaGreatDoor

/-- A blank or an end of a line. -/
def blankN (x : Nat) : Bool := x == 32 || x == 9 || x == 13 || x == 10
/-- The first place of a byte; -1: none. -/
def idxI (l : List UInt8) (x : Nat) : Int := Lib.indexByte l (UInt8.ofNat x)
theorem indexByte_bd (l : List UInt8) (c : UInt8) : -1 ≤ Lib.indexByte l c ∧ Lib.indexByte l c < l.length := by
  induction l with
  | nil => simp [Lib.indexByte]
  | cons a l ih =>
    simp only [Lib.indexByte, List.length_cons]
    split
    · omega
    · split <;> omega
theorem idxI_bd (l : List UInt8) (x : Nat) : -1 ≤ idxI l x ∧ idxI l x < l.length := indexByte_bd l _

/-- base.Read's first loop. -/
def scanB (vals : List Nat) (pad : Nat) : List UInt8 → Option (List Nat × Nat)
  | [] => some (vals, pad)
  | c :: r =>
    if blankN c.toNat then scanB vals pad r
    else if c.toNat == 61 then scanB (vals ++ [0]) (pad + 1) r
    else if decide (idxI letters c.toNat < 0) || decide (0 < pad) then none
    else scanB (vals ++ [(idxI letters c.toNat).toNat]) pad r
def num4 (a b c d : Nat) : Nat := a * 262144 + b * 4096 + c * 64 + d
def three (v : Nat) : List UInt8 := [UInt8.ofNat (v / 65536), UInt8.ofNat (v / 256), UInt8.ofNat v]
/-- base.Read's second loop. -/
def bytes3 : List Nat → List UInt8
  | a :: b :: c :: d :: r => three (num4 a b c d) ++ bytes3 r
  | _ => []
def cutPad (out : List UInt8) (pad : Nat) : List UInt8 × Nat :=
  if (out.drop (out.length - pad)).any (fun c => c != 0) then ([], 1)
  else if 4000 < out.length - pad then ([], 2) else (out.take (out.length - pad), 0)
def readFin : Option (List Nat × Nat) → List UInt8 × Nat
  | none => ([], 1)
  | some (vals, pad) => if vals.length % 4 != 0 || decide (2 < pad) then ([], 1) else cutPad (bytes3 vals) pad
/-- base.Read. -/
def readB (s : List UInt8) : List UInt8 × Nat := if 8000 < s.length then ([], 2) else readFin (scanB [] 0 s)

theorem readB_len (s : List UInt8) : (readB s).1.length ≤ 4000 := by
  unfold readB
  split
  · simp
  · cases h : scanB [] 0 s with
    | none => simp [readFin]
    | some p =>
      obtain ⟨vals, pad⟩ := p
      simp only [readFin]
      split
      · simp
      · unfold cutPad
        split
        · simp
        · split
          · simp
          · simp only [List.length_take]; omega
def nthN (l : List Nat) (k : Nat) : Nat := l.getD k 0
theorem drop_nth (s : List UInt8) (i : Nat) (h : i < s.length) : ∃ c : UInt8, c.toNat = nth s i ∧ s.drop i = c :: s.drop (i + 1) :=
  ⟨s[i], by rw [nth_of s i h], List.drop_eq_getElem_cons h⟩
theorem scan_blank {vals : List Nat} {pad i : Nat} {s : List UInt8} (h : i < s.length) (hb : blankN (nth s i) = true) : scanB vals pad (s.drop i) = scanB vals pad (s.drop (i + 1)) := by
  obtain ⟨c, hc, hd⟩ := drop_nth s i h
  rw [hd]; simp only [scanB, hc, hb, if_true]
theorem scan_eq {vals : List Nat} {pad i : Nat} {s : List UInt8} (h : i < s.length) (hb : blankN (nth s i) = false) (he : nth s i = 61) : scanB vals pad (s.drop i) = scanB (vals ++ [0]) (pad + 1) (s.drop (i + 1)) := by
  obtain ⟨c, hc, hd⟩ := drop_nth s i h
  rw [hd]; simp only [scanB, hc, hb, he]; simp [blankN]
theorem scan_bad {vals : List Nat} {pad i : Nat} {s : List UInt8} (h : i < s.length) (hb : blankN (nth s i) = false) (he : nth s i ≠ 61) (hx : idxI letters (nth s i) < 0 ∨ 0 < pad) : scanB vals pad (s.drop i) = none := by
  obtain ⟨c, hc, hd⟩ := drop_nth s i h
  rw [hd]; simp only [scanB, hc, hb]; simp [he]; intro h1; omega
theorem scan_val {vals : List Nat} {pad i : Nat} {s : List UInt8} (h : i < s.length) (hb : blankN (nth s i) = false) (he : nth s i ≠ 61) (hx : 0 ≤ idxI letters (nth s i)) (hp : pad = 0) : scanB vals pad (s.drop i) = scanB (vals ++ [(idxI letters (nth s i)).toNat]) pad (s.drop (i + 1)) := by
  obtain ⟨c, hc, hd⟩ := drop_nth s i h
  rw [hd]; simp only [scanB, hc, hb]; subst hp; simp [he]; intro h1; omega
theorem blank_cases (x : Nat) : (blankN x = true ∧ ((x : Int) == 32) = true) ∨ (blankN x = true ∧ ((x : Int) == 32) = false ∧ ((x : Int) == 9) = true) ∨
    (blankN x = true ∧ ((x : Int) == 32) = false ∧ ((x : Int) == 9) = false ∧ ((x : Int) == 13) = true) ∨
    (blankN x = true ∧ ((x : Int) == 32) = false ∧ ((x : Int) == 9) = false ∧ ((x : Int) == 13) = false ∧ ((x : Int) == 10) = true) ∨
    (blankN x = false ∧ ((x : Int) == 32) = false ∧ ((x : Int) == 9) = false ∧ ((x : Int) == 13) = false ∧ ((x : Int) == 10) = false) := by
  simp only [blankN, beq_iff_eq, beq_eq_false_iff_ne, Bool.or_eq_true, Bool.or_eq_false_iff]
  omega
theorem bytes3_len : ∀ (k : Nat) (l : List Nat), l.length = 4 * k → (bytes3 l).length = 3 * k := by
  intro k
  induction k with
  | zero => intro l h; have : l = [] := List.eq_nil_of_length_eq_zero (by omega); subst this; rfl
  | succ k ih =>
    intro l h
    match l, h with
    | a :: b :: c :: d :: r, h =>
      simp only [bytes3, List.length_append, three, List.length_cons, List.length_nil]
      rw [ih r (by simp at h; omega)]
      omega
theorem bytes3_step (l : List Nat) (j : Nat) (h : 4 * j + 4 ≤ l.length) : bytes3 (l.drop (4 * j)) = three (num4 (nthN l (4 * j)) (nthN l (4 * j + 1)) (nthN l (4 * j + 2)) (nthN l (4 * j + 3))) ++ bytes3 (l.drop (4 * (j + 1))) := by
  have e : l.drop (4 * j) = l[4 * j] :: l[4 * j + 1] :: l[4 * j + 2] :: l[4 * j + 3] :: l.drop (4 * (j + 1)) := by
    rw [List.drop_eq_getElem_cons (by omega), List.drop_eq_getElem_cons (by omega), List.drop_eq_getElem_cons (by omega), List.drop_eq_getElem_cons (by omega)]
    rfl
  rw [e]
  simp only [bytes3, nthN, List.getD]
  simp [show 4 * j < l.length by omega, show 4 * j + 1 < l.length by omega, show 4 * j + 2 < l.length by omega, show 4 * j + 3 < l.length by omega]
theorem three_cells (v : Nat) (h : v < 16777216) : Lib.byteCells (three v) = [Value.int .u8 ((v : Int) / 65536), Value.int .u8 ((v : Int) / 256 % 256), Value.int .u8 ((v : Int) % 256)] := by
  have e1 : ((UInt8.ofNat (v / 65536)).toNat : Int) = (v : Int) / 65536 := by rw [UInt8.toNat_ofNat']; omega
  have e2 : ((UInt8.ofNat (v / 256)).toNat : Int) = (v : Int) / 256 % 256 := by rw [UInt8.toNat_ofNat']; omega
  have e3 : ((UInt8.ofNat v).toNat : Int) = (v : Int) % 256 := by rw [UInt8.toNat_ofNat']; omega
  simp only [Lib.byteCells, three, List.map_cons, List.map_nil, e1, e2, e3]
theorem cutPad_bad (out : List UInt8) (pad q k : Nat) (hq : q + pad = out.length) (hk : k < pad) (h : nth (out.drop q) k ≠ 0) : cutPad out pad = ([], 1) := by
  have hq' : out.length - pad = q := by omega
  have hl : k < (out.drop q).length := by simp; omega
  rw [nth_of _ k hl] at h
  unfold cutPad
  rw [hq', if_pos]
  rw [List.any_eq_true]
  refine ⟨(out.drop q)[k], List.getElem_mem hl, ?_⟩
  rw [bne_iff_ne]
  rintro h0
  rw [h0] at h
  exact h rfl
theorem cutPad_ok (out : List UInt8) (pad q : Nat) (hq : q + pad = out.length) (h : ∀ k, k < pad → nth (out.drop q) k = 0) : cutPad out pad = if 4000 < q then ([], 2) else (out.take q, 0) := by
  have hq' : out.length - pad = q := by omega
  unfold cutPad
  rw [hq', if_neg]
  rw [List.any_eq_true]
  rintro ⟨x, hx, hx0⟩
  obtain ⟨k, hk, rfl⟩ := List.mem_iff_getElem.1 hx
  have hk' : k < pad := by simp at hk; omega
  have h1 := h k hk'
  rw [nth_of _ k hk] at h1
  rw [bne_iff_ne] at hx0
  exact hx0 (UInt8.toNat_inj.1 h1)
theorem nthN_lt (l : List Nat) (k b : Nat) (hb : 0 < b) (h : ∀ x ∈ l, x < b) : nthN l k < b := by
  unfold nthN
  rcases Nat.lt_or_ge k l.length with hk | hk
  · rw [List.getD_eq_getElem?_getD, List.getElem?_eq_getElem hk]; exact h _ (List.getElem_mem hk)
  · simp [List.getD, hk]; exact hb
theorem ints_opn {w : World} {B n : Nat} {A : Option Addr} {l : List Nat} (h : Sl w B 1 A n (intCells l)) (hn : 0 < n) : ∃ b off, A = some ⟨b, off, none⟩ ∧ b < B ∧ ∀ k, k < n → w.cell? ⟨b, off + k, none⟩ = some (.int .i64 (nthN l k : Nat)) := by
  obtain ⟨b, off, hA, hb, hc⟩ := And.right h hn
  have hl : l.length = n := by have := h.len; rwa [intCells_len] at this
  exact ⟨b, off, hA, hb, fun k hk => hc k _ (intCells_at l k (by omega))⟩
end Go.Proofs.YtlbdnohnngkapaaGreatDoor

namespace Go.Proofs.YtlbdnohnngkapaaGreatDoor

theorem quad_append (a r : List UInt8) (h : 3 ≤ a.length) : quad (a ++ r) = quad a := by
  match a, h with
  | x :: y :: z :: t, _ =>
    simp only [quad, val3, List.cons_append, nth, List.getD, List.length_cons, List.length_append]
    congr 2
theorem enc_line (k : Nat) : ∀ (i : Nat) (a r : List UInt8), k + i = 19 → a.length = 3 * k → enc (4 * i) (a ++ r) = enc (4 * i) a ++ enc 76 r := by
  induction k with
  | zero =>
    intro i a r hi ha
    have : a = [] := List.eq_nil_of_length_eq_zero (by omega)
    subst this
    have : i = 19 := by omega
    subst this
    simp [enc_nil]
  | succ k ih =>
    intro i a r hi ha
    have hw : after (4 * i) = 4 * (i + 1) := by unfold after; rw [if_neg (by omega)]; omega
    rw [enc_step (4 * i) (a ++ r) (by simp; omega), enc_step (4 * i) a (by omega), quad_append a r (by omega), hw]
    have e1 : min 3 (a ++ r).length = 3 := by simp; omega
    have e2 : min 3 a.length = 3 := by omega
    rw [e1, e2, List.drop_append_of_le_length (by omega), ih (i + 1) (a.drop 3) r (by omega) (by simp; omega)]
    simp
theorem enc_76 (r : List UInt8) (h : 0 < r.length) : enc 76 r = [13, 10] ++ enc 0 r := by
  rw [enc_step 76 r h, enc_step 0 r h]
  simp [brk, after]
theorem enc_lines (j : Nat) : ∀ (a r : List UInt8), a.length = 57 * (j + 1) → 0 < r.length → enc 0 (a ++ r) = enc 0 a ++ [13, 10] ++ enc 0 r := by
  induction j with
  | zero =>
    intro a r ha hr
    rw [enc_line 19 0 a r rfl (by omega), enc_76 r hr]
    simp
  | succ j ih =>
    intro a r ha hr
    have e : a = a.take 57 ++ a.drop 57 := (List.take_append_drop 57 a).symm
    have h1 : (a.take 57).length = 3 * 19 := by simp; omega
    have h2 : (a.drop 57).length = 57 * (j + 1) := by simp; omega
    generalize a.take 57 = x at *
    generalize a.drop 57 = y at *
    subst e
    rw [List.append_assoc, enc_line 19 0 x (y ++ r) rfl h1, enc_line 19 0 x y rfl h1, enc_76 (y ++ r) (by simp; omega), enc_76 y (by omega), ih y r h2 hr]
    simp
/-- BaseParts, plain. -/
theorem enc_parts (l : List UInt8) (j : Nat) (h : 57 * j < l.length) : enc 0 l = enc 0 (l.take (57 * j)) ++ (if 0 < 57 * j then [13, 10] else []) ++ enc 0 (l.drop (57 * j)) := by
  cases j with
  | zero => simp [enc_nil]
  | succ j =>
    rw [if_pos (by omega)]
    have h1 : (l.take (57 * (j + 1))).length = 57 * (j + 1) := by simp; omega
    have h2 : 0 < (l.drop (57 * (j + 1))).length := by simp; omega
    have := enc_lines j _ _ h1 h2
    rw [List.take_append_drop] at this
    exact this
theorem enc_Ma : enc 0 ([77, 97] : List UInt8) = [84, 87, 69, 61] := by
  rw [enc_step 0 _ (by decide)]
  show brk 0 ++ quad [77, 97] ++ enc (after 0) [] = _
  rw [enc_nil]
  kernel_rfl
theorem read_Man : readB [32, 84, 32, 87, 70, 117, 13, 10] = ([77, 97, 110], 0) := by kernel_rfl
end Go.Proofs.YtlbdnohnngkapaaGreatDoor

namespace Go.Proofs.YtlbdnohnngkapaaGreatDoor

theorem letter_facts : ∀ q : Fin 64, blankN (nth letters q.val) = false ∧ (nth letters q.val == 61) = false ∧ idxI letters (nth letters q.val) = (q.val : Int) := by decide +kernel
/-- Letter i's value. -/
def lv (l : List UInt8) (i : Nat) : Nat := val3 l / 2 ^ (18 - 6 * i) % 64
theorem lv_lt (l : List UInt8) (i : Nat) : lv l i < 64 := Nat.mod_lt _ (by omega)
theorem scan_letter (vals : List Nat) (q : Nat) (hq : q < 64) (r : List UInt8) : scanB vals 0 (letters.getD q 0 :: r) = scanB (vals ++ [q]) 0 r := by
  obtain ⟨h1, h2, h3⟩ := letter_facts ⟨q, hq⟩
  have e : (letters.getD q 0).toNat = nth letters q := rfl
  simp only [scanB, e]
  rw [h1, h2, h3]
  simp
  intro h
  omega
theorem scan_pad (vals : List Nat) (pad : Nat) (r : List UInt8) : scanB vals pad (61 :: r) = scanB (vals ++ [0]) (pad + 1) r := by
  simp [scanB, blankN]
theorem scan_brk (vals : List Nat) (pad wide : Nat) (r : List UInt8) : scanB vals pad (brk wide ++ r) = scanB vals pad r := by
  unfold brk
  split
  · simp [scanB, blankN]
  · rfl
def padOf (l : List UInt8) : Nat := 3 - min 3 l.length
theorem scan_quad (vals : List Nat) (l r : List UInt8) (h : 0 < l.length) : scanB vals 0 (quad l ++ r) = scanB (vals ++ [lv l 0, lv l 1, lv l 2, lv l 3]) (padOf l) r := by
  have hq : quad l = [quadL (min 3 l.length) (val3 l) 0, quadL (min 3 l.length) (val3 l) 1, quadL (min 3 l.length) (val3 l) 2, quadL (min 3 l.length) (val3 l) 3] := rfl
  have hlet : ∀ i, ¬ min 3 l.length < i → quadL (min 3 l.length) (val3 l) i = letters.getD (lv l i) 0 := fun i hi => by simp [quadL, hi, lv]
  rw [hq]
  rcases (by omega : l.length = 1 ∨ l.length = 2 ∨ 3 ≤ l.length) with h1 | h2 | h3
  · have z2 : lv l 2 = 0 := by
      have a := nth_ge l 1 (by omega); have b := nth_ge l 2 (by omega)
      simp only [lv, val3, a, b]; omega
    have z3 : lv l 3 = 0 := by
      have a := nth_ge l 1 (by omega); have b := nth_ge l 2 (by omega)
      simp only [lv, val3, a, b]; omega
    rw [hlet 0 (by omega), hlet 1 (by omega), quadL_gt (by omega), quadL_gt (by omega), z2, z3]
    simp only [List.cons_append, List.nil_append]
    rw [scan_letter _ _ (lv_lt l 0), scan_letter _ _ (lv_lt l 1), scan_pad, scan_pad]
    simp [padOf, h1]
  · have z3 : lv l 3 = 0 := by
      have b := nth_ge l 2 (by omega)
      simp only [lv, val3, b]; omega
    rw [hlet 0 (by omega), hlet 1 (by omega), hlet 2 (by omega), quadL_gt (by omega), z3]
    simp only [List.cons_append, List.nil_append]
    rw [scan_letter _ _ (lv_lt l 0), scan_letter _ _ (lv_lt l 1), scan_letter _ _ (lv_lt l 2), scan_pad]
    simp [padOf, h2]
  · rw [hlet 0 (by omega), hlet 1 (by omega), hlet 2 (by omega), hlet 3 (by omega)]
    simp only [List.cons_append, List.nil_append]
    rw [scan_letter _ _ (lv_lt l 0), scan_letter _ _ (lv_lt l 1), scan_letter _ _ (lv_lt l 2), scan_letter _ _ (lv_lt l 3)]
    simp [padOf, Nat.min_eq_left h3]
theorem num4_lv (l : List UInt8) : num4 (lv l 0) (lv l 1) (lv l 2) (lv l 3) = val3 l := by
  have h0 := nth_lt l 0
  have h1 := nth_lt l 1
  have h2 := nth_lt l 2
  have hv : val3 l < 16777216 := by unfold val3; omega
  unfold num4 lv
  generalize val3 l = v at hv ⊢
  simp only [Nat.reduceMul, Nat.reduceSub, Nat.reducePow]
  omega
theorem three_val (l : List UInt8) : three (val3 l) = [UInt8.ofNat (nth l 0), UInt8.ofNat (nth l 1), UInt8.ofNat (nth l 2)] := by
  have h0 := nth_lt l 0
  have h1 := nth_lt l 1
  have h2 := nth_lt l 2
  have e1 : ∀ x y : Nat, x % 256 = y % 256 → UInt8.ofNat x = UInt8.ofNat y := fun x y h => by
    rw [← UInt8.toNat_inj, UInt8.toNat_ofNat', UInt8.toNat_ofNat']; exact h
  have a0 : UInt8.ofNat (val3 l / 65536) = UInt8.ofNat (nth l 0) := e1 _ _ (by unfold val3; omega)
  have a1 : UInt8.ofNat (val3 l / 256) = UInt8.ofNat (nth l 1) := e1 _ _ (by unfold val3; omega)
  have a2 : UInt8.ofNat (val3 l) = UInt8.ofNat (nth l 2) := e1 _ _ (by unfold val3; omega)
  unfold three
  rw [a0, a1, a2]
theorem three_head (l : List UInt8) (h : 3 ≤ l.length) : [UInt8.ofNat (nth l 0), UInt8.ofNat (nth l 1), UInt8.ofNat (nth l 2)] ++ l.drop 3 = l := by
  match l, h with
  | a :: b :: c :: r, _ =>
    show [UInt8.ofNat a.toNat, UInt8.ofNat b.toNat, UInt8.ofNat c.toNat] ++ r = _
    rw [UInt8.ofNat_toNat, UInt8.ofNat_toNat, UInt8.ofNat_toNat]
    rfl
/-- What is written is scanned as fours that give the bytes back. -/
theorem scan_enc (k : Nat) : ∀ (l : List UInt8) (wide : Nat) (vals : List Nat), l.length ≤ k → ∃ xs z, scanB vals 0 (enc wide l) = some (vals ++ xs, z) ∧ xs.length % 4 = 0 ∧ z ≤ 2 ∧ bytes3 xs = l ++ List.replicate z 0 := by
  induction k with
  | zero =>
    intro l wide vals h
    have : l = [] := List.eq_nil_of_length_eq_zero (by omega)
    subst this
    exact ⟨[], 0, by simp [enc_nil, scanB], rfl, by omega, rfl⟩
  | succ k ih =>
    intro l wide vals h
    rcases Nat.eq_zero_or_pos l.length with h0 | h0
    · have : l = [] := List.eq_nil_of_length_eq_zero h0
      subst this
      exact ⟨[], 0, by simp [enc_nil, scanB], rfl, by omega, rfl⟩
    · rw [enc_step wide l h0, List.append_assoc, scan_brk, scan_quad vals l _ h0]
      rcases (by omega : l.length < 3 ∨ 3 ≤ l.length) with h3 | h3
      · have hd : l.drop (min 3 l.length) = [] := List.drop_of_length_le (by omega)
        rw [hd, enc_nil]
        refine ⟨[lv l 0, lv l 1, lv l 2, lv l 3], padOf l, rfl, by simp, by unfold padOf; omega, ?_⟩
        show three (num4 _ _ _ _) ++ [] = _
        rw [num4_lv, three_val, List.append_nil]
        match l, h0, h3 with
        | [a], _, _ => simp [nth, padOf, List.replicate]
        | [a, b], _, _ => simp [nth, padOf, List.replicate]
      · have hp : padOf l = 0 := by unfold padOf; omega
        rw [hp, Nat.min_eq_left h3]
        obtain ⟨xs, z, h1, h2, h4, h5⟩ := ih (l.drop 3) (after wide) (vals ++ [lv l 0, lv l 1, lv l 2, lv l 3]) (by simp; omega)
        refine ⟨[lv l 0, lv l 1, lv l 2, lv l 3] ++ xs, z, by rw [h1]; simp, by simp; omega, h4, ?_⟩
        show three (num4 _ _ _ _) ++ bytes3 xs = _
        rw [num4_lv, three_val, h5, ← List.append_assoc, three_head l h3]
theorem cutPad_zeros (l : List UInt8) (z : Nat) (h : l.length ≤ 4000) : cutPad (l ++ List.replicate z 0) z = (l, 0) := by
  unfold cutPad
  have e : (l ++ List.replicate z (0 : UInt8)).length - z = l.length := by simp
  rw [e, List.drop_left, List.take_left, if_neg (by simp), if_neg (by omega)]
theorem enc_len2 (k : Nat) : ∀ (i : Nat) (l : List UInt8), l.length ≤ k → i ≤ 19 → (enc (4 * i) l).length ≤ 4 * ((l.length + 2) / 3) + 2 * (((l.length + 2) / 3 + i) / 19) := by
  induction k with
  | zero => intro i l h _; have : l = [] := List.eq_nil_of_length_eq_zero (by omega); subst this; simp [enc_nil]
  | succ k ih =>
    intro i l h hi
    rcases Nat.eq_zero_or_pos l.length with h0 | h0
    · have : l = [] := List.eq_nil_of_length_eq_zero h0; subst this; simp [enc_nil]
    · rw [enc_step _ l h0]
      simp only [List.length_append, quad_len]
      have hdl : (l.drop (min 3 l.length)).length = l.length - min 3 l.length := by simp
      by_cases h19 : i = 19
      · subst h19
        have h1 := ih 1 (l.drop (min 3 l.length)) (by omega) (by omega)
        have ha : after (4 * 19) = 4 * 1 := rfl
        have hb : (brk (4 * 19)).length = 2 := rfl
        rw [ha, hb]
        rw [hdl] at h1
        omega
      · have h1 := ih (i + 1) (l.drop (min 3 l.length)) (by omega) (by omega)
        have ha : after (4 * i) = 4 * (i + 1) := by unfold after; rw [if_neg (by omega)]; omega
        have hb : (brk (4 * i)).length = 0 := by unfold brk; rw [if_neg (by omega)]; rfl
        rw [ha, hb]
        rw [hdl] at h1
        omega
/-- BaseBack, the first half, plain: what is written is read. -/
theorem read_enc (l : List UInt8) (h : l.length ≤ 4000) : readB (enc 0 l) = (l, 0) := by
  have h8 := enc_len2 l.length 0 l (Nat.le_refl _) (by omega)
  rw [Nat.mul_zero] at h8
  unfold readB
  rw [if_neg (by omega)]
  obtain ⟨xs, z, h1, h2, h3, h4⟩ := scan_enc l.length l 0 [] (Nat.le_refl _)
  rw [h1]
  simp only [readFin, List.nil_append]
  rw [if_neg (by simp [h2]; omega), h4, cutPad_zeros l z h]
end Go.Proofs.YtlbdnohnngkapaaGreatDoor

namespace Go.Proofs.YtlbdnohnngkapaaGreatDoor

/-- Lines, CR LF between them. -/
def joinL : List (List UInt8) → List UInt8
  | [] => []
  | [x] => x
  | x :: y :: r => x ++ 13 :: 10 :: joinL (y :: r)
theorem index_none13 : ∀ (x : List UInt8), (∀ c ∈ x, c ≠ 13) → Lib.index x [13, 10] = -1 := by
  intro x
  induction x with
  | nil => intro _; rfl
  | cons b x ih =>
    intro h
    have hb : (([13, 10] : List UInt8).isPrefixOf (b :: x)) = false := by
      have : (13 : UInt8) ≠ b := fun e => h b (by simp) e.symm
      simp [List.isPrefixOf, this]
    rw [Lib.index, hb, ih (fun c hc => h c (by simp [hc]))]
    rfl
theorem index_line : ∀ (x r : List UInt8), (∀ c ∈ x, c ≠ 13) → Lib.index (x ++ 13 :: 10 :: r) [13, 10] = x.length := by
  intro x
  induction x with
  | nil => intro r _; simp [Lib.index, List.isPrefixOf]
  | cons b x ih =>
    intro r h
    have hb : (([13, 10] : List UInt8).isPrefixOf (b :: (x ++ 13 :: 10 :: r))) = false := by
      have : (13 : UInt8) ≠ b := fun e => h b (by simp) e.symm
      simp [List.isPrefixOf, this]
    have h1 := ih r (fun c hc => h c (by simp [hc]))
    show Lib.index (b :: (x ++ 13 :: 10 :: r)) [13, 10] = _
    rw [Lib.index, hb, h1]
    have : ((x.length : Int) == -1) = false := by simp
    rw [this]
    simp
/-- The lines of what base.Text writes. -/
theorem enc_lines_of (k : Nat) : ∀ (l : List UInt8), l.length ≤ k → ∃ L, L ≠ [] ∧ enc 0 l = joinL L ∧ (∀ x ∈ L, x.length ≤ 76 ∧ ∀ c ∈ x, c ≠ 13 ∧ c ≠ 10) ∧ L.flatten.length = 4 * ((l.length + 2) / 3) := by
  have hletters : ∀ c ∈ letters, c ≠ 13 ∧ c ≠ 10 := by decide
  have hq : ∀ (l : List UInt8) (c : UInt8), c ∈ quad l → c ≠ 13 ∧ c ≠ 10 := by
    intro l c hc
    simp only [quad, List.mem_map] at hc
    obtain ⟨i, _, rfl⟩ := hc
    unfold quadL
    split
    · decide
    · have h64 : val3 l / 2 ^ (18 - 6 * i) % 64 < letters.length := by rw [letters_len]; exact Nat.mod_lt _ (by omega)
      rw [List.getD_eq_getElem?_getD, List.getElem?_eq_getElem h64]
      exact hletters _ (List.getElem_mem h64)
  have hone : ∀ (j i : Nat) (l : List UInt8), l.length ≤ j → (l.length + 2) / 3 + i ≤ 19 → (enc (4 * i) l).length = 4 * ((l.length + 2) / 3) ∧ ∀ c ∈ enc (4 * i) l, c ≠ 13 ∧ c ≠ 10 := by
    intro j
    induction j with
    | zero => intro i l h _; have : l = [] := List.eq_nil_of_length_eq_zero (by omega); subst this; simp [enc_nil]
    | succ j ih =>
      intro i l h hi
      rcases Nat.eq_zero_or_pos l.length with h0 | h0
      · have : l = [] := List.eq_nil_of_length_eq_zero h0; subst this; simp [enc_nil]
      · have hd : (l.drop (min 3 l.length)).length = l.length - min 3 l.length := by simp
        have h1 := ih (i + 1) (l.drop (min 3 l.length)) (by omega) (by omega)
        rw [hd] at h1
        have ha : after (4 * i) = 4 * (i + 1) := by unfold after; rw [if_neg (by omega)]; omega
        have hb : brk (4 * i) = [] := by unfold brk; rw [if_neg (by omega)]
        rw [enc_step _ l h0, ha, hb]
        refine ⟨by simp only [List.nil_append, List.length_append, quad_len]; omega, fun c hc => ?_⟩
        simp only [List.nil_append, List.mem_append] at hc
        rcases hc with hc | hc
        · exact hq l c hc
        · exact h1.2 c hc
  induction k with
  | zero =>
    intro l h
    have : l = [] := List.eq_nil_of_length_eq_zero (by omega)
    subst this
    exact ⟨[[]], by simp, by simp [enc_nil, joinL], by simp, by simp⟩
  | succ k ih =>
    intro l h
    rcases (by omega : l.length ≤ 57 ∨ 57 < l.length) with h57 | h57
    · have h1 := hone l.length 0 l (Nat.le_refl _) (by omega)
      rw [Nat.mul_zero] at h1
      refine ⟨[enc 0 l], by simp, rfl, ?_, by simpa using h1.1⟩
      intro x hx
      simp at hx
      subst hx
      exact ⟨by omega, h1.2⟩
    · have hp := enc_parts l 1 (by omega)
      rw [if_pos (by omega)] at hp
      obtain ⟨L, hL0, hL1, hL2, hL3⟩ := ih (l.drop 57) (by simp; omega)
      have ht : (l.take 57).length = 57 := by simp; omega
      have h1 := hone 57 0 (l.take 57) (by omega) (by omega)
      rw [Nat.mul_zero, ht] at h1
      refine ⟨enc 0 (l.take 57) :: L, by simp, ?_, ?_, ?_⟩
      · rw [show l = l from rfl, hp]
        show enc 0 (l.take 57) ++ [13, 10] ++ enc 0 (l.drop 57) = _
        rw [hL1]
        match L, hL0 with
        | y :: r, _ => simp [joinL]
      · intro x hx
        simp only [List.mem_cons] at hx
        rcases hx with rfl | hx
        · exact ⟨by omega, h1.2⟩
        · exact hL2 x hx
      · have hdl : (l.drop 57).length = l.length - 57 := by simp
        rw [List.flatten_cons, List.length_append, hL3, h1.1, hdl]
        omega

theorem joinL_cons (x y : List UInt8) (r : List (List UInt8)) : joinL (x :: y :: r) = x ++ 13 :: 10 :: joinL (y :: r) := rfl
theorem drop_line (x r : List UInt8) : (x ++ 13 :: 10 :: r).drop (((x.length : Nat) : Int).toNat + ([13, 10] : List UInt8).length) = r := by
  rw [Int.toNat_natCast]
  show List.drop (x.length + 2) _ = r
  rw [← List.drop_drop, List.drop_left]
  rfl
theorem count_from_join : ∀ (fuel : Nat) (L : List (List UInt8)), L.length ≤ fuel → (∀ x ∈ L, ∀ c ∈ x, c ≠ 13) → Lib.countFrom [13, 10] fuel (joinL L) = L.length - 1 := by
  intro fuel
  induction fuel with
  | zero => intro L h _; have : L = [] := List.eq_nil_of_length_eq_zero (by omega); subst this; rfl
  | succ f ih =>
    intro L h hx
    match L, h, hx with
    | [], _, _ => rfl
    | [x], _, hx =>
      show (if Lib.index x [13, 10] == -1 then 0 else _) = 0
      rw [index_none13 x (hx x (by simp))]
      rfl
    | x :: y :: r, h, hx =>
      rw [joinL_cons, Lib.countFrom, index_line x _ (hx x (by simp)), drop_line, ih (y :: r) (by simp at h ⊢; omega) (fun z hz => hx z (by simp at hz ⊢; exact .inr hz))]
      have : ((x.length : Int) == -1) = false := by simp
      rw [this]
      simp
      omega
theorem joinL_len : ∀ (L : List (List UInt8)), L.length ≤ (joinL L).length + 1 := by
  intro L
  induction L with
  | nil => simp
  | cons x L ih =>
    match L, ih with
    | [], _ => simp
    | y :: r, ih =>
      rw [joinL_cons]
      simp only [List.length_cons, List.length_append] at ih ⊢
      omega
theorem count_join (L : List (List UInt8)) (hx : ∀ x ∈ L, ∀ c ∈ x, c ≠ 13) : Lib.count (joinL L) [13, 10] = L.length - 1 :=
  count_from_join _ L (joinL_len L) hx
/-- strings.Split's parts, on lists. -/
def splitK (sep : List UInt8) : Nat → List UInt8 → List (List UInt8)
  | 0, s => [s]
  | k + 1, s => if Lib.index s sep == -1 then [s] else s.take (Lib.index s sep).toNat :: splitK sep k (s.drop ((Lib.index s sep).toNat + sep.length))
theorem splitB_data (sep : List UInt8) (k : Nat) : ∀ s : ByteArray, (Lib.splitB ⟨sep.toArray⟩ 0 k s).map Value.string = (splitK sep k s.data.toList).map str := by
  induction k with
  | zero => intro s; rfl
  | succ k ih =>
    intro s
    unfold Lib.splitB splitK
    show (if (Lib.index s.data.toList sep == -1) = true then [s] else _).map Value.string = (if (Lib.index s.data.toList sep == -1) = true then [s.data.toList] else _).map str
    by_cases h : (Lib.index s.data.toList sep == -1) = true
    · rw [if_pos h, if_pos h]; rfl
    · rw [if_neg h, if_neg h]
      simp only [List.map_cons]
      rw [ih]
      congr 1
      · rw [str_of, Lib.extract_data]
        simp [Lib.indexB]
      · congr 1
        congr 1
        rw [Lib.extract_data]
        simp only [Lib.indexB]
        rw [List.take_of_length_le (by rw [List.length_drop]; exact Nat.le_refl _)]
        rfl
theorem split_join : ∀ (L : List (List UInt8)), L ≠ [] → (∀ x ∈ L, ∀ c ∈ x, c ≠ 13) → splitK [13, 10] (L.length - 1) (joinL L) = L := by
  intro L
  induction L with
  | nil => intro h; exact absurd rfl h
  | cons x L ih =>
    intro _ hx
    match L, ih, hx with
    | [], _, _ => rfl
    | y :: r, ih, hx =>
      have h1 := ih (by simp) (fun z hz => hx z (by simp at hz ⊢; exact .inr hz))
      show splitK [13, 10] ((y :: r).length - 1 + 1) (joinL (x :: y :: r)) = _
      rw [joinL_cons, splitK, index_line x _ (hx x (by simp)), drop_line, h1]
      have : ((x.length : Int) == -1) = false := by simp
      rw [this]
      simp
theorem replace_join : ∀ (L : List (List UInt8)), (∀ x ∈ L, ∀ c ∈ x, c ≠ 13) → Lib.replaceK [13, 10] [] (L.length - 1) (joinL L) = L.flatten := by
  intro L
  induction L with
  | nil => intro _; rfl
  | cons x L ih =>
    intro hx
    match L, ih, hx with
    | [], _, _ => simp [joinL, Lib.replaceK]
    | y :: r, ih, hx =>
      have h1 := ih (fun z hz => hx z (by simp at hz ⊢; exact .inr hz))
      show Lib.replaceK [13, 10] [] ((y :: r).length - 1 + 1) (joinL (x :: y :: r)) = _
      rw [joinL_cons, Lib.replaceK, index_line x _ (hx x (by simp)), drop_line, h1]
      have : ((x.length : Int) == -1) = false := by simp
      rw [this]
      simp
theorem replaceAll_join (L : List (List UInt8)) (hx : ∀ x ∈ L, ∀ c ∈ x, c ≠ 13) : Lib.replaceAll (joinL L) [13, 10] [] = L.flatten := by
  unfold Lib.replaceAll Lib.replace Lib.replaceNum
  rw [if_neg (by decide), if_pos (.inl (by omega)), count_join L hx, replace_join L hx]
end Go.Proofs.YtlbdnohnngkapaaGreatDoor

namespace Go.Proofs.YtlbdnohnngkapaaGreatDoor
open Go.RowKit
attribute [local go_sem high] cut_u8 mid_u8

def putE (l : List UInt8) (ts : List (List UInt8)) : List UInt8 × Nat := if 4000 < l.length then ([], 2) else putB l ts
def PutOut (T : List UInt8 × Nat) (w : World) (e : Ending) (w' : World) : Prop :=
  ∃ S c, e = .returned (.tuple #[.slice S T.1.length c, .int .i64 (T.2 : Nat)]) ∧ w'.ownsRow w.heap.size 5 1 (.slice S T.1.length c) T.1.length (Lib.byteCells T.1) ∧ Below w.heap.size w w'
def sumL (ts : List (List UInt8)) : Nat := (ts.map List.length).sum
theorem putE_none {l : List UInt8} {ts : List (List UInt8)} (h : (findE l).2 ≠ 0) : putE l ts = ([], 2) ∧ (findE l).2 = 2 := by
  unfold findE at h ⊢
  unfold putE
  split
  · exact ⟨rfl, rfl⟩
  · rename_i h4
    rw [if_neg h4] at h
    cases hf : findB l with
    | none => unfold putB; rw [hf]; exact ⟨rfl, rfl⟩
    | some ls => rw [hf] at h; exact absurd rfl h
theorem putE_some {l : List UInt8} {ts : List (List UInt8)} (h : (findE l).2 = 0) : findB l = some (findE l).1 ∧ l.length ≤ 4000 ∧ putE l ts = if ts.length ≠ (findE l).1.length then ([], 4) else if ts.any (fun t => t.any fun c => badPut c.toNat) then ([], 1) else if 4000 < (putL l 0 [] (findE l).1 ts).length then ([], 2) else (putL l 0 [] (findE l).1 ts, 0) := by
  unfold findE at h ⊢
  unfold putE
  split
  · rename_i h4; rw [if_pos h4] at h; cases h
  · rename_i h4
    rw [if_neg h4] at h
    cases hf : findB l with
    | none => rw [hf] at h; cases h
    | some ls => exact ⟨rfl, by omega, by unfold putB; rw [hf]; rfl⟩
theorem findB_len {l : List UInt8} {ls : List LinkD} (h : findB l = some ls) : ls.length ≤ 60 := by
  rw [findB_eq] at h
  split at h
  · cases h
  · have h := Option.some.inj h
    rw [← h, links_len]
    omega
def PutRel (w w1 : World) (n m : Nat) (l : List UInt8) (ls : List LinkD) (ts : List (List UInt8)) (T : Nat) (R : List UInt8) (ov av iv : Value) (wr : World) : Prop :=
  ∃ (i at_ no co : Nat) (So : Option Addr) (out : List UInt8), ov = .slice So no co ∧ av = .int .i64 (at_ : Nat) ∧ iv = .int .i64 (i : Nat) ∧ i ≤ m ∧ no = out.length ∧ wr.ownsRow w1.heap.size 5 1 (.slice So no co) no (Lib.byteCells out) ∧
    Below w1.heap.size w1 wr ∧ LOk at_ n (ls.drop i) ∧ Hid (putL l at_ out (ls.drop i) (ts.drop i) = R) ∧ Hid ((ts.take i).any (fun t => t.any fun c => badPut c.toNat) = false) ∧ no + sumL (ts.drop i) ≤ at_ + T
set_option maxRecDepth 100000 in
set_option maxHeartbeats 1000000 in
theorem Put_any (A TA : Option Addr) (n c tn tc : Nat) (l : List UInt8) (ts : List (List UInt8)) (w : World) (hM : MaxLenOk w) (hb : By w w.heap.size A n l) (hc : n ≤ c) (hcm : c ≤ maxLen) (hts : Sl w w.heap.size 1 TA tn (ts.map str)) (hT : sumL ts ≤ 1000000000000) :
    Calls Tryz.prog 50 #[.slice A n c, .slice TA tn tc] w (PutOut (putE l ts) w) := by
  obtain ⟨i0, hi0, hz0, hz1, hz2⟩ := info_parts infoByte
  have Hi0 := Lib.hid hi0
  clear hi0
  have hnl := hb.len
  have htn : ts.length = tn := by have := hts.1; simpa using this
  have hfind := Find_any A n c l w hM hb hc hcm
  have he0 := fun h => (putE_none (l := l) (ts := ts) h)
  have he1 := fun h => (putE_some (l := l) (ts := ts) h)
  unfold FindOut at hfind
  generalize findE l = F at hfind he0 he1
  obtain ⟨ls, fe⟩ := F
  simp only at hfind he0 he1
  by_cases hfe : fe = 0
  · subst hfe
    obtain ⟨e1, e2, e3⟩ := he1 rfl
    have hok := LOk.find e1
    have hm60 := findB_len e1
    have Hfind := Lib.hid hfind
    clear he0 he1 hfind
    obtain ⟨m, hm⟩ : ∃ m, m = ls.length := ⟨_, rfl⟩
    rw [← hm] at e3 hm60
    have Hm := Lib.hid hm
    have Htn := Lib.hid htn
    rw [htn] at e3
    by_cases hlen : tn = m
    · have hne : ((tn : Int) != (m : Int)) = false := by simp; omega
      rw [if_neg (by omega)] at e3
      obtain ⟨R, hR⟩ : ∃ R, R = putL l 0 [] ls ts := ⟨_, rfl⟩
      obtain ⟨bad, hbad⟩ : ∃ bad, bad = ts.any (fun t => t.any fun c => badPut c.toNat) := ⟨_, rfl⟩
      rw [← hR, ← hbad] at e3
      have hn4 : n ≤ 4000 := by omega
      rw [hnl] at hok
      have Hnl := Lib.hid hnl
      have HR := Lib.hid hR
      have Hbad := Lib.hid hbad
      have Hlen := Lib.hid hlen
      have E3 := Lib.hid e3
      clear hR hbad hlen e1 e2 e3 hm htn hnl
      go_enter Tryz.func50, Tryz.ntmps50
      go_wp2_with fail
      refine Hfind.out.mono ?_
      rw [← Hm.out]
      rintro e w1 ⟨S, cS, rfl, hown1, hb1⟩
      have hsz1 := hb1.size
      have hbP := hb.below hb1
      have htP := hts.below hb1
      have hsl := Sl.of_own hown1
      have hcap := own_cap hown1
      clear hown1 Hfind hb hts
      go_wp2_with fail
      go_loopw [8, 9, 27] (PutRel w w1 n m l ls ts (sumL ts) R) (fun _ _ iv _ => m - (intOf iv).toNat)
      case atStart => exact ⟨0, 0, 0, 0, none, [], rfl, rfl, rfl, Nat.zero_le _, rfl, World.ownsRow_nil _ _ _ _, Below.refl _ _, hok, HR.out.symm, rfl, by simp⟩
      case round =>
        obtain ⟨i, at_, no, co, So, out, rfl, rfl, rfl, hi, hno, hrow, hbel, hok, hE, hz, hT2⟩ := hrel
        have hsz := hbel.size
        by_cases hin : i < m
        · obtain ⟨b, off, x, rfl, hbS, hdx, x0, x1, x2⟩ := (hsl.belowN hbel (Nat.le_refl _)).link i hin
          obtain ⟨tb, toff, u, rfl, htb, hu, htc⟩ := (htP.belowN hbel hsz1).at_ (k := i) (by have := Hlen.out; omega)
          have hil : i < ts.length := by have := Htn.out; have := Hlen.out; omega
          have hdt := List.drop_eq_getElem_cons hil
          obtain ⟨t, ht⟩ : ∃ t, t = ts[i] := ⟨_, rfl⟩
          rw [← ht] at hdt
          have hut : u = str t := by
            rw [List.getElem?_map, List.getElem?_eq_getElem hil, ← ht] at hu
            simpa using hu.symm
          subst hut
          rw [hdx] at hok
          obtain ⟨o1, o2, o3⟩ := hok
          have o4 := o3.le
          have o5 : x.frm ≤ n := Nat.le_trans o2 o4
          have hE' : Hid (putL l at_ out (x :: ls.drop (i + 1)) (t :: ts.drop (i + 1)) = R) := by show _ = _; rw [← hdx, ← hdt]; exact hE.out
          have hT3 : no + (t.length + sumL (ts.drop (i + 1))) ≤ at_ + sumL ts := by rw [hdt] at hT2; simpa [sumL] using hT2
          have hzt : Hid ((ts.take (i + 1)).any (fun t => t.any fun c => badPut c.toNat) = (t.any fun c => badPut c.toNat)) := by
            show _ = _
            rw [List.take_add_one, List.getElem?_eq_getElem hil, ← ht, List.any_append, hz.out]
            simp
          have Ht := Lib.hid ht
          have Hno := Lib.hid hno
          have Hdt := Lib.hid hdt
          clear hu ht hdt hdx hE hT2 hno
          have htn2 : i < tn := by have := Hlen.out; omega
          obtain ⟨W, hW⟩ : ∃ W, W = wr.alloc (.cells #[.int .i64 (x.frm : Nat), .int .i64 (x.til : Nat), str x.text] 53) := ⟨_, rfl⟩
          have htcW := (World.cell?_alloc_lt wr (.cells #[.int .i64 (x.frm : Nat), .int .i64 (x.til : Nat), str x.text] 53) ⟨tb, toff + i, none⟩ (by show tb < _; omega)).trans htc
          have hbW : Below wr.heap.size wr W := by rw [hW]; exact (Below.refl _ wr).alloc (Nat.le_refl _) _
          have hbelW := hbel.trans (hbW.mono hsz)
          have hrowW := own_below hrow hbW
          have hxb : W.heap[wr.heap.size]? = some (.cells #[.int .i64 (x.frm : Nat), .int .i64 (x.til : Nat), str x.text] 53) := by rw [hW]; exact heap_alloc_new wr _
          by_cases ht0 : t = []
          · have b0 : (t == ([] : List UInt8)) = true := by rw [ht0]; rfl
            have Ht0 := Lib.hid ht0
            clear ht0
            go_wp2_with fail
            rw [← hW]
            refine ⟨⟨i + 1, at_, no, co, So, out, rfl, rfl, by go_num, by omega, Hno.out, hrowW, hbelW, ?_, ?_, ?_, by omega⟩, by simp [intOf]; omega⟩
            · cases hlsd : ls.drop (i + 1) with
              | nil => rw [hlsd] at o3; exact Nat.le_trans o1 (Nat.le_trans o2 o3)
              | cons y l' => rw [hlsd] at o3; exact ⟨by have := o3.1; omega, o3.2.1, o3.2.2⟩
            · show _ = R
              rw [← hE'.out, putL, if_pos Ht0.out]
            · show _ = _
              rw [hzt.out, Ht0.out]; rfl
          · have b0 : (t == ([] : List UInt8)) = false := by simpa using ht0
            have Ht0 := Lib.hid ht0
            have hcp := containsPut_any t W
            clear ht0
            by_cases hbt : (t.any fun c => badPut c.toNat) = true
            · rw [hbt] at hcp
              have Hcp := Lib.hid hcp
              have hbb : bad = true := by
                rw [Hbad.out, List.any_eq_true]
                exact ⟨t, by rw [Ht.out]; exact List.getElem_mem hil, hbt⟩
              have Hbb := Lib.hid hbb
              clear hcp hbt hbb
              go_wp2_with fail
              rw [← hW]
              refine Hcp.out.mono ?_
              rintro e w3 ⟨rfl, hb3⟩
              go_wp2_with fail
              go_ret2
              rw [E3.out, Hbb.out]
              exact ⟨none, 0, rfl, World.ownsRow_nil _ _ _ _, hb1.trans ((hbelW.trans (hb3.mono hbelW.size)).mono hsz1)⟩
            · have hbf : (t.any fun c => badPut c.toNat) = false := by simpa using hbt
              rw [hbf] at hcp hzt
              have Hcp := Lib.hid hcp
              clear hcp hbt hbf
              go_wp2_with fail
              rw [← hW]
              refine Hcp.out.mono ?_
              rintro e w3 ⟨rfl, hb3⟩
              have hbel3 := hbelW.trans (hb3.mono hbelW.size)
              have hrow3 := own_below hrowW hb3
              have hxb3 := (hb3.block wr.heap.size (by rw [hW]; simp)).trans hxb
              have z0 : w3.cell? ⟨wr.heap.size, 0, none⟩ = some (.int .i64 (x.frm : Nat)) := by rw [Go.Joins.cell_of_block hxb3]; rfl
              have z1 : w3.cell? ⟨wr.heap.size, 1, none⟩ = some (.int .i64 (x.til : Nat)) := by rw [Go.Joins.cell_of_block hxb3]; rfl
              obtain ⟨xb, hxbE⟩ : ∃ xb, xb = wr.heap.size := ⟨_, rfl⟩
              have hxlt : xb < w3.heap.size := by rw [hxbE]; exact Nat.lt_of_lt_of_le (by rw [hW]; simp) hb3.size
              rw [← hxbE] at z0 z1 ⊢
              have HxbE := Lib.hid hxbE
              clear hxbE
              have htW : W.cell? ⟨tb, toff + i, none⟩ = some (str t) := by rw [hW]; exact htcW
              have htc3 := (hb3.cell (p := ⟨tb, toff + i, none⟩) (by show tb < _; rw [hW]; simp; omega)).trans htW
              clear htW htcW htc x0 x1 x2
              have hbP3 : By w3 w.heap.size A n l := hbP.belowN hbel3 hsz1
              have hmid : By w3 w.heap.size (cutA A c at_ 1) (x.frm - at_) ((l.take x.frm).drop at_) := by
                have h1 := (hbP3.cut (k := at_) (by omega) hc).upto (k := x.frm - at_) (by omega)
                rw [← List.drop_take] at h1
                exact h1
              have hmn : no ≤ at_ + sumL ts := by omega
              have h63 : no + (x.frm - at_) ≤ maxLen := by unfold maxLen; omega
              have h47 : (no + (x.frm - at_)) * 1 ≤ 140737488355328 := by omega
              have hbase3 : w1.heap.size ≤ w3.heap.size := hbel3.size
              have hS3 : w3.drew.cell? ⟨xb, 0, none⟩ = some (.int .i64 (x.frm : Nat)) ∧ w3.drew.cell? ⟨tb, toff + i, none⟩ = some (str t) := ⟨z0, htc3⟩
              have hone := oneCell_byteCells ((l.take x.frm).drop at_)
              have hxo : (Value.slice So no co).ownBlock ≠ some xb := by
                intro e
                have := (hrow.lt _ e)
                have := HxbE.out
                omega
              go_wp2_with fail
              refine wp_region_held (S := fun W' => W'.cell? ⟨xb, 0, none⟩ = some (.int .i64 (x.frm : Nat)) ∧ W'.cell? ⟨tb, toff + i, none⟩ = some (str t)) (by kernel_rfl) ?_
              change wpAnyH _ _ _ _ _ _ _ _ (World.drew w3)
              refine wpAnyH_take (i := 0) (v := ?_) rfl (by kernel_rfl) (by kernel_rfl) (by kernel_rfl) (fun _ _ _ h => h) (Or.inl ⟨by kernel_rfl, ?_⟩) hS3 ?_
              rotate_left 1
              · rintro W' ⟨q0, q1⟩; go_simp; try exact rfl
              refine wpAnyH_take (i := 1) (v := ?_) rfl (by kernel_rfl) (by kernel_rfl) (by kernel_rfl) (fun _ _ _ h => h) (Or.inl ⟨by kernel_rfl, ?_⟩) hS3 ?_
              rotate_left 1
              · rintro W' ⟨q0, q1⟩; go_simp; try exact rfl
              refine wpAnyH_take (i := 2) (v := ?_) rfl (by kernel_rfl) (by kernel_rfl) (by kernel_rfl) (fun _ _ _ h => h) (Or.inl ⟨by kernel_rfl, ?_⟩) hS3 ?_
              rotate_left 1
              · rintro W' ⟨q0, q1⟩; go_simp; try exact rfl
              refine wpAnyH_take (i := 3) (v := ?_) rfl (by kernel_rfl) (by kernel_rfl) (by kernel_rfl) (fun _ _ _ h => h) (Or.inl ⟨by kernel_rfl, ?_⟩) hS3 ?_
              rotate_left 1
              · rintro W' ⟨q0, q1⟩; go_simp; try exact rfl
              refine wpAnyH_take (i := 4) (v := ?_) rfl (by kernel_rfl) (by kernel_rfl) (by kernel_rfl) (fun _ _ _ h => h) (Or.inl ⟨by kernel_rfl, ?_⟩) hS3 ?_
              rotate_left 1
              · rintro W' ⟨q0, q1⟩; go_simp; try exact rfl
              refine wpAnyH_take (i := 5) (v := ?_) rfl (by kernel_rfl) (by kernel_rfl) (by kernel_rfl) (fun _ _ _ h => h) (Or.inl ⟨by kernel_rfl, ?_⟩) hS3 ?_
              rotate_left 1
              · rintro W' ⟨q0, q1⟩; go_simp; try exact rfl
              refine wpAnyH_take (i := 7) (v := ?_) rfl (by kernel_rfl) (by kernel_rfl) (by kernel_rfl) (fun _ _ _ h => h) (Or.inl ⟨by kernel_rfl, ?_⟩) hS3 ?_
              rotate_left 1
              · rintro W' ⟨q0, q1⟩; go_simp; try exact rfl
              refine wpAnyH_take (i := 8) (v := ?_) rfl (by kernel_rfl) (by kernel_rfl) (by kernel_rfl) (fun _ _ _ h => h) (Or.inl ⟨by kernel_rfl, ?_⟩) hS3 ?_
              rotate_left 1
              · rintro W' ⟨q0, q1⟩; go_simp; try exact rfl
              refine wpAnyH_take (i := 9) (v := ?_) rfl (by kernel_rfl) (by kernel_rfl) (by kernel_rfl) (fun _ _ _ h => h) (Or.inl ⟨by kernel_rfl, ?_⟩) hS3 ?_
              rotate_left 1
              · rintro W' ⟨q0, q1⟩; go_simp; try exact rfl
              refine wpAnyH_take (i := 10) (v := ?_) rfl (by kernel_rfl) (by kernel_rfl) (by kernel_rfl) (fun _ _ _ h => h) (Or.inl ⟨by kernel_rfl, ?_⟩) hS3 ?_
              rotate_left 1
              · rintro W' ⟨q0, q1⟩; go_simp; try exact rfl
              refine wpAnyH_all (rs := [6]) (by kernel_rfl) (by simp) ?_
              intro k hk
              simp only [List.mem_singleton] at hk
              subst hk
              go_simp
              refine wpOp_app rfl rfl _ _ 22 rfl w1.heap.size 5 i0 _ 1 1 Tryz.underlying22 Hi0.out hz0 hz1 hz2 rfl (by decide) So no co (Lib.byteCells out) (by rfl) hrow3 _ (cutA A c at_ 1) (x.frm - at_) (c - at_) (Lib.byteCells ((l.take x.frm).drop at_)) (by rfl) hmid hone h63 h47 hbase3 ?_
              intro S4 c4 w4 hown4 hb4 hg4
              have hS4 : w4.cell? ⟨xb, 0, none⟩ = some (.int .i64 (x.frm : Nat)) ∧ w4.cell? ⟨tb, toff + i, none⟩ = some (str t) :=
                ⟨(World.cell?_of_block (hg4.block xb hxlt (fun e => hxo e.symm))).trans z0, (hb4.cell (p := ⟨tb, toff + i, none⟩) (by show tb < _; omega)).trans htc3⟩
              have z14 : w4.cell? ⟨xb, 1, none⟩ = some (.int .i64 (x.til : Nat)) := (World.cell?_of_block (hg4.block xb hxlt (fun e => hxo e.symm))).trans z1
              refine ⟨hS4, ?_⟩
              have hxo4 : (Value.slice S4 (no + (x.frm - at_)) c4).ownBlock ≠ some xb := by
                intro e
                rcases hown4.2 with ⟨hv, _⟩ | ⟨g, cap, cur, hv, _, hg, _⟩
                · rw [hv] at e; cases e
                · rw [hv] at e
                  injection e with e
                  simp only at e
                  subst e
                  have h5 : w4.heap[g]? = w3.heap[g]? := hg4.block g hxlt (fun e => hxo e.symm)
                  have h6 : w3.heap[g]? = some (.cells #[.int .i64 (x.frm : Nat), .int .i64 (x.til : Nat), str x.text] 53) := by rw [HxbE.out]; exact hxb3
                  rw [h5, h6] at hg
                  injection hg with hg
                  injection hg with _ hg _
                  exact absurd hg (by decide)
              have h63b : no + (x.frm - at_) + t.length ≤ maxLen := by unfold maxLen; omega
              have h47b : no + (x.frm - at_) + t.length ≤ 140737488355328 := by omega
              refine wpAnyH_all (rs := [11]) (by kernel_rfl) (by simp) ?_
              intro k hk
              simp only [List.mem_singleton] at hk
              subst hk
              go_simp
              refine wpOp_appStr rfl rfl _ _ 22 9 rfl w1.heap.size 5 i0 Tryz.underlying22 Tryz.underlying9 Hi0.out hz0 hz1 hz2 S4 (no + (x.frm - at_)) c4 _ (by rfl) hown4 t (by rfl) h63b h47b (Nat.le_trans hbase3 hb4.size) ?_
              intro S5 c5 w5 hown5 hb5 hg5
              have hS5 : w5.cell? ⟨xb, 0, none⟩ = some (.int .i64 (x.frm : Nat)) ∧ w5.cell? ⟨tb, toff + i, none⟩ = some (str t) :=
                ⟨(World.cell?_of_block (hg5.block xb (Nat.lt_of_lt_of_le hxlt hg4.size) (fun e => hxo4 e.symm))).trans hS4.1, (hb5.cell (p := ⟨tb, toff + i, none⟩) (by show tb < _; omega)).trans hS4.2⟩
              have z15 : w5.cell? ⟨xb, 1, none⟩ = some (.int .i64 (x.til : Nat)) := (World.cell?_of_block (hg5.block xb (Nat.lt_of_lt_of_le hxlt hg4.size) (fun e => hxo4 e.symm))).trans z14
              refine ⟨hS5, ?_⟩
              refine wpAnyH_all (rs := [12]) (by kernel_rfl) (by simp) ?_
              intro k hk
              simp only [List.mem_singleton] at hk
              subst hk
              go_simp
              refine wpOp_val rfl rfl (.slice S5 (no + (x.frm - at_) + t.length) c5) (by rfl) ?_
              refine ⟨hS5, ?_⟩
              refine wpAnyH_done (by kernel_rfl) ?_ _
              have hbel5 : Below w1.heap.size w1 w5 := (hbel3.trans ((Below.drew (Below.refl _ w3)).trans hb4)).trans hb5
              rw [← byteCells_append, ← byteCells_append] at hown5
              have Hown5 := Lib.hid hown5
              clear hown5 hown4 hg4 hg5 hb4 hb5 hS4 hS5 z14 z0 z1 htc3 hS3 hmid
              go_wp2_with fail
              refine ⟨⟨i + 1, x.til, no + (x.frm - at_) + t.length, c5, S5, out ++ (l.take x.frm).drop at_ ++ t, rfl, rfl, by go_num, by omega, ?_, Hown5.out, hbel5, o3, ?_, hzt, by omega⟩, by simp [intOf]; omega⟩
              · have hlx : ((l.take x.frm).drop at_).length = x.frm - at_ := by
                  rw [List.length_drop, List.length_take, Nat.min_eq_left (by have := Hnl.out; omega)]
                rw [List.length_append, List.length_append, hlx, Hno.out]
              · show _ = R
                rw [← hE'.out, putL, if_neg Ht0.out]
        · obtain rfl : i = m := by omega
          have hE2 : out ++ l.drop at_ = R := by
            have h := hE.out
            rw [List.drop_of_length_le (by have := Hm.out; omega), List.drop_of_length_le (by have := Htn.out; have := Hlen.out; omega)] at h
            rw [← h]
            rfl
          have hb0 : bad = false := by
            rw [Hbad.out]
            have h := hz.out
            rw [List.take_of_length_le (by have := Htn.out; have := Hlen.out; omega)] at h
            exact h
          have hat : at_ ≤ n := hok.le
          have hbPr := hbP.belowN hbel hsz1
          have hcutr : By wr w.heap.size (cutA A c at_ 1) (n - at_) (l.drop at_) := hbPr.cut hat hc
          have hoR : no + (n - at_) = R.length := by rw [← hE2, List.length_append, List.length_drop, ← hno]; have := Hnl.out; omega
          have hmn : no ≤ at_ + sumL ts := by omega
          have h63 : no + (n - at_) ≤ maxLen := by unfold maxLen; omega
          have h47 : (no + (n - at_)) * 1 ≤ 140737488355328 := by omega
          have hone := oneCell_byteCells (l.drop at_)
          have HoR := Lib.hid hoR
          have HE2 := Lib.hid hE2
          have Hb0 := Lib.hid hb0
          clear hE2 hb0 hoR hno
          go_wp2_with (at_builtin; refine wpList_app rfl _ _ 22 rfl w1.heap.size 5 i0 _ 1 1 Tryz.underlying22 Hi0.out hz0 hz1 hz2 rfl (by decide) So no co (Lib.byteCells out) rfl hrow _ (cutA A c at_ 1) (n - at_) (c - at_) (Lib.byteCells (l.drop at_)) rfl hcutr hone h63 h47 hsz ?_)
          intro S5 c5 w5 hown5 hb5 hg5
          rw [← byteCells_append, HE2.out] at hown5
          have hbel5 : Below w.heap.size w w5 := hb1.trans ((hbel.trans hb5).mono hsz1)
          have Hown5 := Lib.hid hown5
          clear hown5 hg5 hb5
          by_cases h4 : 4000 < no + (n - at_)
          · go_wp2_with fail
            go_ret2
            rw [E3.out, Hb0.out, if_neg (by simp), if_pos (by rw [← HoR.out]; exact h4)]
            exact ⟨none, 0, rfl, World.ownsRow_nil _ _ _ _, hbel5⟩
          · go_wp2_with fail
            go_ret2
            rw [E3.out, Hb0.out, if_neg (by simp), if_neg (by rw [← HoR.out]; exact h4)]
            have h := Hown5.out.mono (base' := w.heap.size) hsz1
            rw [HoR.out] at h
            exact ⟨S5, c5, by rw [← HoR.out]; rfl, h, hbel5⟩
    · have hne : ((tn : Int) != (m : Int)) = true := by simp; omega
      have hR : putE l ts = ([], 4) := by rw [e3, if_pos hlen]
      rw [hR]
      clear hR e3 e1 hlen hm htn
      go_enter Tryz.func50, Tryz.ntmps50
      go_wp2_with fail
      refine Hfind.out.mono ?_
      rw [← Hm.out]
      rintro e w1 ⟨S, cS, rfl, hown1, hb1⟩
      go_wp2_with fail
      go_ret2
      exact ⟨none, 0, rfl, World.ownsRow_nil _ _ _ _, hb1⟩
  · obtain ⟨hR, rfl⟩ := he0 hfe
    rw [hR]
    have Hfind := Lib.hid hfind
    clear hR he0 he1 hfe hfind hnl htn
    go_enter Tryz.func50, Tryz.ntmps50
    go_wp2_with fail
    refine Hfind.out.mono ?_
    rintro e w1 ⟨S, cS, rfl, hown1, hb1⟩
    go_wp2_with fail
    go_ret2
    exact ⟨none, 0, rfl, World.ownsRow_nil _ _ _ _, hb1⟩
end Go.Proofs.YtlbdnohnngkapaaGreatDoor

namespace Go.Proofs.YtlbdnohnngkapaaGreatDoor
open Go.RowKit

instance : DecidableEq LinkD := fun a b =>
  if h : a.frm = b.frm ∧ a.til = b.til ∧ a.text = b.text then isTrue (by obtain ⟨a1, a2, a3⟩ := a; obtain ⟨b1, b2, b3⟩ := b; obtain ⟨rfl, rfl, rfl⟩ := h; rfl)
  else isFalse (fun e => h (by subst e; exact ⟨rfl, rfl, rfl⟩))
theorem linkD_beq (a b : LinkD) : (a == b) = ((((a.frm : Nat) : Int) == ((b.frm : Nat) : Int)) && ((((a.til : Nat) : Int) == ((b.til : Nat) : Int)) && (a.text == b.text))) := by
  rw [Bool.eq_iff_iff]
  simp only [beq_iff_eq, Bool.and_eq_true]
  constructor
  · rintro rfl; exact ⟨rfl, rfl, rfl⟩
  · rintro ⟨h1, h2, h3⟩
    obtain ⟨a1, a2, a3⟩ := a
    obtain ⟨b1, b2, b3⟩ := b
    simp only at h1 h2 h3
    obtain rfl : a1 = b1 := by omega
    obtain rfl : a2 = b2 := by omega
    subst h3
    rfl
theorem neq_link (W : World) (a b : LinkD) : (binOp .neq 53 (.agg #[.int .i64 (a.frm : Nat), .int .i64 (a.til : Nat), str a.text]) (.agg #[.int .i64 (b.frm : Nat), .int .i64 (b.til : Nat), str b.text])).run Tryz.prog W = .ok (.bool (!(a == b))) W := by
  rw [linkD_beq, run_neq_struct, run_equalIn_agg _ _ _ _ _ (by kernel_rfl) (by kernel_rfl)]
  have hs : (Op.equalIn 9999 9 (str a.text) (str b.text)).run Tryz.prog W = .ok (a.text == b.text) W := by
    rw [str_eq, str_eq, run_equalIn_string W 9998 9 _ _ Tryz.underlying9]
    simp
  by_cases h1 : ((a.frm : Nat) : Int) = (b.frm : Nat)
  · by_cases h2 : ((a.til : Nat) : Int) = (b.til : Nat)
    · by_cases h3 : a.text = b.text
      · rw [h3] at hs
        go_simp
      · go_simp
    · go_simp
  · go_simp
end Go.Proofs.YtlbdnohnngkapaaGreatDoor

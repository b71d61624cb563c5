import Derived.Test.YtdhmmepcnladcaaDoorBaseM
namespace Go.Proofs.YtdhmmepcnladcaaDoor

/-- A blank or an end of a line. -/
def blankN (x : Nat) : Bool := x == 32 || x == 9 || x == 13 || x == 10
/-- The first place of a byte; -1: none. -/
def idxI (l : List UInt8) (x : Nat) : Int := Lib.indexByte l (UInt8.ofNat x)
theorem indexByte_bd (l : List UInt8) (c : UInt8) : -1 ≤ Lib.indexByte l c ∧ Lib.indexByte l c < l.length := by
  induction l with
  | nil => simp [Lib.indexByte]
  | cons a l ih =>
    simp only [Lib.indexByte, List.length_cons]
    split
    · omega
    · split <;> omega
theorem idxI_bd (l : List UInt8) (x : Nat) : -1 ≤ idxI l x ∧ idxI l x < l.length := indexByte_bd l _

/-- base.Read's first loop. -/
def scanB (vals : List Nat) (pad : Nat) : List UInt8 → Option (List Nat × Nat)
  | [] => some (vals, pad)
  | c :: r =>
    if blankN c.toNat then scanB vals pad r
    else if c.toNat == 61 then scanB (vals ++ [0]) (pad + 1) r
    else if decide (idxI letters c.toNat < 0) || decide (0 < pad) then none
    else scanB (vals ++ [(idxI letters c.toNat).toNat]) pad r
def num4 (a b c d : Nat) : Nat := a * 262144 + b * 4096 + c * 64 + d
def three (v : Nat) : List UInt8 := [UInt8.ofNat (v / 65536), UInt8.ofNat (v / 256), UInt8.ofNat v]
/-- base.Read's second loop. -/
def bytes3 : List Nat → List UInt8
  | a :: b :: c :: d :: r => three (num4 a b c d) ++ bytes3 r
  | _ => []
def cutPad (out : List UInt8) (pad : Nat) : List UInt8 × Nat :=
  if (out.drop (out.length - pad)).any (fun c => c != 0) then ([], 1)
  else if 4000 < out.length - pad then ([], 2) else (out.take (out.length - pad), 0)
def readFin : Option (List Nat × Nat) → List UInt8 × Nat
  | none => ([], 1)
  | some (vals, pad) => if vals.length % 4 != 0 || decide (2 < pad) then ([], 1) else cutPad (bytes3 vals) pad
/-- base.Read. -/
def readB (s : List UInt8) : List UInt8 × Nat := if 8000 < s.length then ([], 2) else readFin (scanB [] 0 s)

theorem readB_len (s : List UInt8) : (readB s).1.length ≤ 4000 := by
  unfold readB
  split
  · simp
  · cases h : scanB [] 0 s with
    | none => simp [readFin]
    | some p =>
      obtain ⟨vals, pad⟩ := p
      simp only [readFin]
      split
      · simp
      · unfold cutPad
        split
        · simp
        · split
          · simp
          · simp only [List.length_take]; omega
def nthN (l : List Nat) (k : Nat) : Nat := l.getD k 0
theorem drop_nth (s : List UInt8) (i : Nat) (h : i < s.length) : ∃ c : UInt8, c.toNat = nth s i ∧ s.drop i = c :: s.drop (i + 1) :=
  ⟨s[i], by rw [nth_of s i h], List.drop_eq_getElem_cons h⟩
theorem scan_blank {vals : List Nat} {pad i : Nat} {s : List UInt8} (h : i < s.length) (hb : blankN (nth s i) = true) : scanB vals pad (s.drop i) = scanB vals pad (s.drop (i + 1)) := by
  obtain ⟨c, hc, hd⟩ := drop_nth s i h
  rw [hd]; simp only [scanB, hc, hb, if_true]
theorem scan_eq {vals : List Nat} {pad i : Nat} {s : List UInt8} (h : i < s.length) (hb : blankN (nth s i) = false) (he : nth s i = 61) : scanB vals pad (s.drop i) = scanB (vals ++ [0]) (pad + 1) (s.drop (i + 1)) := by
  obtain ⟨c, hc, hd⟩ := drop_nth s i h
  rw [hd]; simp only [scanB, hc, hb, he]; simp [blankN]
theorem scan_bad {vals : List Nat} {pad i : Nat} {s : List UInt8} (h : i < s.length) (hb : blankN (nth s i) = false) (he : nth s i ≠ 61) (hx : idxI letters (nth s i) < 0 ∨ 0 < pad) : scanB vals pad (s.drop i) = none := by
  obtain ⟨c, hc, hd⟩ := drop_nth s i h
  rw [hd]; simp only [scanB, hc, hb]; simp [he]; intro h1; omega
theorem scan_val {vals : List Nat} {pad i : Nat} {s : List UInt8} (h : i < s.length) (hb : blankN (nth s i) = false) (he : nth s i ≠ 61) (hx : 0 ≤ idxI letters (nth s i)) (hp : pad = 0) : scanB vals pad (s.drop i) = scanB (vals ++ [(idxI letters (nth s i)).toNat]) pad (s.drop (i + 1)) := by
  obtain ⟨c, hc, hd⟩ := drop_nth s i h
  rw [hd]; simp only [scanB, hc, hb]; subst hp; simp [he]; intro h1; omega
theorem blank_cases (x : Nat) : (blankN x = true ∧ ((x : Int) == 32) = true) ∨ (blankN x = true ∧ ((x : Int) == 32) = false ∧ ((x : Int) == 9) = true) ∨
    (blankN x = true ∧ ((x : Int) == 32) = false ∧ ((x : Int) == 9) = false ∧ ((x : Int) == 13) = true) ∨
    (blankN x = true ∧ ((x : Int) == 32) = false ∧ ((x : Int) == 9) = false ∧ ((x : Int) == 13) = false ∧ ((x : Int) == 10) = true) ∨
    (blankN x = false ∧ ((x : Int) == 32) = false ∧ ((x : Int) == 9) = false ∧ ((x : Int) == 13) = false ∧ ((x : Int) == 10) = false) := by
  simp only [blankN, beq_iff_eq, beq_eq_false_iff_ne, Bool.or_eq_true, Bool.or_eq_false_iff]
  omega
theorem bytes3_len : ∀ (k : Nat) (l : List Nat), l.length = 4 * k → (bytes3 l).length = 3 * k := by
  intro k
  induction k with
  | zero => intro l h; have : l = [] := List.eq_nil_of_length_eq_zero (by omega); subst this; rfl
  | succ k ih =>
    intro l h
    match l, h with
    | a :: b :: c :: d :: r, h =>
      simp only [bytes3, List.length_append, three, List.length_cons, List.length_nil]
      rw [ih r (by simp at h; omega)]
      omega
theorem bytes3_step (l : List Nat) (j : Nat) (h : 4 * j + 4 ≤ l.length) : bytes3 (l.drop (4 * j)) = three (num4 (nthN l (4 * j)) (nthN l (4 * j + 1)) (nthN l (4 * j + 2)) (nthN l (4 * j + 3))) ++ bytes3 (l.drop (4 * (j + 1))) := by
  have e : l.drop (4 * j) = l[4 * j] :: l[4 * j + 1] :: l[4 * j + 2] :: l[4 * j + 3] :: l.drop (4 * (j + 1)) := by
    rw [List.drop_eq_getElem_cons (by omega), List.drop_eq_getElem_cons (by omega), List.drop_eq_getElem_cons (by omega), List.drop_eq_getElem_cons (by omega)]
    rfl
  rw [e]
  simp only [bytes3, nthN, List.getD]
  simp [show 4 * j < l.length by omega, show 4 * j + 1 < l.length by omega, show 4 * j + 2 < l.length by omega, show 4 * j + 3 < l.length by omega]
theorem three_cells (v : Nat) (h : v < 16777216) : Lib.byteCells (three v) = [Value.int .u8 ((v : Int) / 65536), Value.int .u8 ((v : Int) / 256 % 256), Value.int .u8 ((v : Int) % 256)] := by
  have e1 : ((UInt8.ofNat (v / 65536)).toNat : Int) = (v : Int) / 65536 := by rw [UInt8.toNat_ofNat']; omega
  have e2 : ((UInt8.ofNat (v / 256)).toNat : Int) = (v : Int) / 256 % 256 := by rw [UInt8.toNat_ofNat']; omega
  have e3 : ((UInt8.ofNat v).toNat : Int) = (v : Int) % 256 := by rw [UInt8.toNat_ofNat']; omega
  simp only [Lib.byteCells, three, List.map_cons, List.map_nil, e1, e2, e3]
theorem cutPad_bad (out : List UInt8) (pad q k : Nat) (hq : q + pad = out.length) (hk : k < pad) (h : nth (out.drop q) k ≠ 0) : cutPad out pad = ([], 1) := by
  have hq' : out.length - pad = q := by omega
  have hl : k < (out.drop q).length := by simp; omega
  rw [nth_of _ k hl] at h
  unfold cutPad
  rw [hq', if_pos]
  rw [List.any_eq_true]
  refine ⟨(out.drop q)[k], List.getElem_mem hl, ?_⟩
  rw [bne_iff_ne]
  rintro h0
  rw [h0] at h
  exact h rfl
theorem cutPad_ok (out : List UInt8) (pad q : Nat) (hq : q + pad = out.length) (h : ∀ k, k < pad → nth (out.drop q) k = 0) : cutPad out pad = if 4000 < q then ([], 2) else (out.take q, 0) := by
  have hq' : out.length - pad = q := by omega
  unfold cutPad
  rw [hq', if_neg]
  rw [List.any_eq_true]
  rintro ⟨x, hx, hx0⟩
  obtain ⟨k, hk, rfl⟩ := List.mem_iff_getElem.1 hx
  have hk' : k < pad := by simp at hk; omega
  have h1 := h k hk'
  rw [nth_of _ k hk] at h1
  rw [bne_iff_ne] at hx0
  exact hx0 (UInt8.toNat_inj.1 h1)
theorem nthN_lt (l : List Nat) (k b : Nat) (hb : 0 < b) (h : ∀ x ∈ l, x < b) : nthN l k < b := by
  unfold nthN
  rcases Nat.lt_or_ge k l.length with hk | hk
  · rw [List.getD_eq_getElem?_getD, List.getElem?_eq_getElem hk]; exact h _ (List.getElem_mem hk)
  · simp [List.getD, hk]; exact hb
theorem ints_opn {w : World} {B n : Nat} {A : Option Addr} {l : List Nat} (h : Sl w B 1 A n (intCells l)) (hn : 0 < n) : ∃ b off, A = some ⟨b, off, none⟩ ∧ b < B ∧ ∀ k, k < n → w.cell? ⟨b, off + k, none⟩ = some (.int .i64 (nthN l k : Nat)) := by
  obtain ⟨b, off, hA, hb, hc⟩ := And.right h hn
  have hl : l.length = n := by have := h.len; rwa [intCells_len] at this
  exact ⟨b, off, hA, hb, fun k hk => hc k _ (intCells_at l k (by omega))⟩
end Go.Proofs.YtdhmmepcnladcaaDoor

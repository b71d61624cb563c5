import Derived.WalkKit
import Derived.WalkSpells
import Derived.WalkLawsBesides
import Derived.Lib.Hide
import Derived.Deep.QuietTactic
import Derived.BigQuiet
import Derived.Deep.AppendLies
import Derived.Deep.Draws
import Derived.Maps.AppendAt
import Derived.Lib.AppendStr
import Derived.Lib.UnsafeStr
import Derived.Lib.Bytealg
namespace Go.Proofs.YtdhmmepcnladcaaDoor
open Go.RowKit

/-! ### A string as its list of bytes -/

/-- A string value, said by its list of bytes. -/
def str (l : List UInt8) : Value := .string ⟨l.toArray⟩

/-- Byte k of a list, as a number; 0 behind its end. (A plain def: the walk's simp leaves it as it stands.) -/
def nth (l : List UInt8) (k : Nat) : Nat := (l.getD k 0).toNat
theorem nth_lt (l : List UInt8) (k : Nat) : nth l k < 256 := (l.getD k 0).toNat_lt
theorem nth_of (l : List UInt8) (k : Nat) (h : k < l.length) : nth l k = (l[k]).toNat := by simp [nth, List.getD, h]
theorem nth_ge (l : List UInt8) (k : Nat) (h : l.length ≤ k) : nth l k = 0 := by simp [nth, List.getD, h]
theorem nth_cons_zero (a : UInt8) (l : List UInt8) : nth (a :: l) 0 = a.toNat := rfl
theorem nth_cons_succ (a : UInt8) (l : List UInt8) (k : Nat) : nth (a :: l) (k + 1) = nth l k := rfl
theorem nth_drop (l : List UInt8) (i k : Nat) : nth (l.drop i) k = nth l (i + k) := by simp [nth, List.getD]

theorem str_eq (l : List UInt8) : str l = .string ⟨l.toArray⟩ := rfl
theorem str_of (s : ByteArray) : Value.string s = str s.data.toList := rfl
theorem str_inj {a b : List UInt8} (h : str a = str b) : a = b := by
  unfold str at h; injection h with h; injection h with h; simpa using h

attribute [local simp] ByteArray.toList_mk

section
variable {P : Program} (w : World)
theorem run_len_str (t ty : TypeId) (l : List UInt8) (h : P.underlying t = some .string) :
    (Builtin.len_ #[t] ty #[str l]).run P w = .ok (.int .i64 l.length) w := by
  rw [str_eq, run_len_string w t ty _ h]; rfl
theorem run_index_str (t : TypeId) (l : List UInt8) (k : IntKind) (i : Int) (h : P.underlying t = some .string) (h0 : 0 ≤ i) (h1 : i < l.length) :
    (Instr.index t (str l) (.int k i)).run P w = .ok (.int .u8 (nth l i.toNat)) w := by
  have h2 : i.toNat < l.length := by omega
  rw [str_eq, run_index_string w t _ k i h, dif_pos ⟨h0, by simpa [ByteArray.size] using h1⟩]
  congr 3
  show (l.toArray[i.toNat]).toNat = _
  rw [nth_of l _ h2]
  simp
theorem run_index_str_if (t : TypeId) (l : List UInt8) (k : IntKind) (i : Int) (h : P.underlying t = some .string) :
    (Instr.index t (str l) (.int k i)).run P w = if 0 ≤ i ∧ i < l.length then .ok (.int .u8 (nth l i.toNat)) w else (boundsPanic k i l.length .index).run P w := by
  by_cases hc : 0 ≤ i ∧ i < (l.length : Int)
  · rw [if_pos hc, run_index_str w t l k i h hc.1 hc.2]
  · rw [if_neg hc, str_eq, run_index_string w t _ k i h, dif_neg (by simpa [ByteArray.size] using hc)]
    simp [ByteArray.size]
theorem run_slice_str_lh (t : TypeId) (l : List UInt8) (k k' : IntKind) (i j : Int) (h : P.underlying t = some .string) (h0 : 0 ≤ i) (h1 : i ≤ j) (h2 : j ≤ l.length) :
    (Instr.slice t (str l) (some (.int k i)) (some (.int k' j)) none).run P w = .ok (str ((l.take j.toNat).drop i.toNat)) w := by
  rw [str_eq, run_slice_string w t _ k k' i j h h0 h1 (by simpa [ByteArray.size] using h2), ByteArray.extract_mk]
  simp [str, List.drop_take]
theorem run_slice_str_l (t : TypeId) (l : List UInt8) (k : IntKind) (i : Int) (h : P.underlying t = some .string) (h0 : 0 ≤ i) (h1 : i ≤ l.length) :
    (Instr.slice t (str l) (some (.int k i)) none none).run P w = .ok (str (l.drop i.toNat)) w := by
  rw [str_eq, run_slice_string_from_if w t _ k i h, if_pos ⟨h0, by simpa [ByteArray.size] using h1⟩, ByteArray.extract_mk, List.take_of_length_le (by simp [ByteArray.size])]
  rfl
theorem run_slice_str_h (t : TypeId) (l : List UInt8) (k : IntKind) (j : Int) (h : P.underlying t = some .string) (h0 : 0 ≤ j) (h1 : j ≤ l.length) :
    (Instr.slice t (str l) none (some (.int k j)) none).run P w = .ok (str (l.take j.toNat)) w := by
  rw [str_eq, run_slice_string_to_if w t _ k j h, if_pos ⟨h0, by simpa [ByteArray.size] using h1⟩, ByteArray.extract_mk]
  simp [str]
theorem run_add_str (t : TypeId) (a b : List UInt8) (h : a.length + b.length ≤ 9223372036854775807) :
    (binOp .add t (str a) (str b)).run P w = .ok (str (a ++ b)) w := by
  rw [str_eq, str_eq, binOp_string_add, run_string_add_sum w _ _ (by simpa [ByteArray.size] using h), ByteArray.mk_append_mk]
  rfl
end
theorem eqGuard_at_str {op : BinOp} {t : TypeId} {x y : Operand} (l : List UInt8) (v : Value) : eqGuard op t x y (str l) v = pure () := by cases op <;> rfl
theorem binOp_eql_str (t : TypeId) (a b : List UInt8) : binOp .eql t (str a) (str b) = pure (.bool (a == b)) := by
  rw [str_eq, str_eq, binOp_string_eql]; simp
theorem binOp_neq_str (t : TypeId) (a b : List UInt8) : binOp .neq t (str a) (str b) = pure (.bool (!(a == b))) := by
  rw [str_eq, str_eq, binOp_string_neq]; simp
theorem run_store_str (P : Program) (w : World) (a : Addr) (m : Mode) (l : List UInt8) : (store a (str l) m).run P w = stored P w a (str l) m := run_store P w a _ m rfl
theorem oneCell'_str (l : List UInt8) : (str l).oneCell' = true := rfl
theorem cells_str (l : List UInt8) : (str l).cells = #[str l] := rfl

/-- (The walk lays 'Value.cells' open before its rules are tried: this one serves behind that.) -/
theorem cells_str2 (l : List UInt8) (f : Array Value → Array Value) (g : Value → Array Value) : Value.cells.match_1 (fun _ => Array Value) (str l) f g = g (str l) := rfl
attribute [go_sem high] cells_str2
theorem lit_str (l : List UInt8) : Value.string ⟨l.toArray⟩ = str l := rfl
theorem run_slice_str_all {P : Program} (w : World) (t : TypeId) (l : List UInt8) (h : P.underlying t = some .string) :
    (Instr.slice t (str l) none none none).run P w = .ok (str l) w := by
  rw [str_eq, run_slice_string_all w t _ h, ByteArray.extract_mk]
  simp [ByteArray.size]
theorem run_slice_str_l_if {P : Program} (w : World) (t : TypeId) (l : List UInt8) (k : IntKind) (i : Int) (h : P.underlying t = some .string) :
    (Instr.slice t (str l) (some (.int k i)) none none).run P w = if 0 ≤ i ∧ i ≤ l.length then .ok (str (l.drop i.toNat)) w else ((boundsPanic k i l.length .sliceB : Sem Nat).run P w).andThen fun a w' => .ok (.string ((ByteArray.mk l.toArray).extract a l.length)) w' := by
  by_cases hc : 0 ≤ i ∧ i ≤ (l.length : Int)
  · rw [if_pos hc, run_slice_str_l w t l k i h hc.1 hc.2]
  · rw [if_neg hc, str_eq, run_slice_string_from_if w t _ k i h, if_neg (by simpa [ByteArray.size] using hc)]
    simp [ByteArray.size]
theorem run_slice_str_h_if {P : Program} (w : World) (t : TypeId) (l : List UInt8) (k : IntKind) (j : Int) (h : P.underlying t = some .string) :
    (Instr.slice t (str l) none (some (.int k j)) none).run P w = if 0 ≤ j ∧ j ≤ l.length then .ok (str (l.take j.toNat)) w else ((boundsPanic k j l.length .sliceAlen : Sem Nat).run P w).andThen fun a w' => .ok (.string ((ByteArray.mk l.toArray).extract 0 a)) w' := by
  by_cases hc : 0 ≤ j ∧ j ≤ (l.length : Int)
  · rw [if_pos hc, run_slice_str_h w t l k j h hc.1 hc.2]
  · rw [if_neg hc, str_eq, run_slice_string_to_if w t _ k j h, if_neg (by simpa [ByteArray.size] using hc)]
    simp [ByteArray.size]
theorem run_add_str_if {P : Program} (w : World) (t : TypeId) (a b : List UInt8) :
    (binOp .add t (str a) (str b)).run P w = if a.length + b.length ≤ 9223372036854775807 then .ok (str (a ++ b)) w else .halt (.unsupported (.resourceLimit "string concatenation: a sum of the lengths that is no int")) w := by
  by_cases hc : a.length + b.length ≤ 9223372036854775807
  · rw [if_pos hc, run_add_str w t a b hc]
  · rw [if_neg hc, str_eq, str_eq, binOp_string_add, run_string_add_if, if_pos (by simp [ByteArray.size]; omega)]
section
variable {P : Program} (w : World) (t ty : TypeId) (l a b : List UInt8)
theorem run_len_lit (h : P.underlying t = some .string) : (Builtin.len_ #[t] ty #[.string ⟨l.toArray⟩]).run P w = .ok (.int .i64 l.length) w := run_len_str w t ty l h
theorem run_index_lit (k : IntKind) (i : Int) (h : P.underlying t = some .string) :
    (Instr.index t (.string ⟨l.toArray⟩) (.int k i)).run P w = if 0 ≤ i ∧ i < l.length then .ok (.int .u8 (nth l i.toNat)) w else (boundsPanic k i l.length .index).run P w := run_index_str_if w t l k i h
theorem run_add_str_lit : (binOp .add t (str a) (.string ⟨b.toArray⟩)).run P w = if a.length + b.length ≤ 9223372036854775807 then .ok (str (a ++ b)) w else .halt (.unsupported (.resourceLimit "string concatenation: a sum of the lengths that is no int")) w := run_add_str_if w t a b
theorem run_add_lit_str : (binOp .add t (.string ⟨a.toArray⟩) (str b)).run P w = if a.length + b.length ≤ 9223372036854775807 then .ok (str (a ++ b)) w else .halt (.unsupported (.resourceLimit "string concatenation: a sum of the lengths that is no int")) w := run_add_str_if w t a b
theorem binOp_eql_str_lit : binOp .eql t (str a) (.string ⟨b.toArray⟩) = pure (.bool (a == b)) := binOp_eql_str t a b
theorem binOp_eql_lit_str : binOp .eql t (.string ⟨a.toArray⟩) (str b) = pure (.bool (a == b)) := binOp_eql_str t a b
theorem binOp_neq_str_lit : binOp .neq t (str a) (.string ⟨b.toArray⟩) = pure (.bool (!(a == b))) := binOp_neq_str t a b
theorem binOp_neq_lit_str : binOp .neq t (.string ⟨a.toArray⟩) (str b) = pure (.bool (!(a == b))) := binOp_neq_str t a b
end
attribute [go_sem high] run_len_lit run_index_lit run_add_str_lit run_add_lit_str binOp_eql_str_lit binOp_eql_lit_str binOp_neq_str_lit binOp_neq_lit_str
attribute [go_sem high] run_len_str run_index_str_if run_slice_str_lh run_slice_str_l_if run_slice_str_h_if run_slice_str_all run_add_str_if eqGuard_at_str binOp_eql_str binOp_neq_str run_store_str oneCell'_str cells_str

theorem belN {B : Nat} {a w : World} (h : Below B a w) (n : Nat) : Below B a (w.drewN n) := ⟨h.os, h.tape, h.output, h.size, h.block⟩

/-! ### A slice that reads as a list of cells, nil let in -/

/-- The slice value '.slice A n c' holds the cells xs ('size' cells an element) and lies below block B. -/
def Sl (w : World) (B size : Nat) (A : Option Addr) (n : Nat) (xs : List Value) : Prop :=
  xs.length = n * size ∧ (0 < n → ∃ b off, A = some ⟨b, off, none⟩ ∧ b < B ∧ ∀ j u, xs[j]? = some u → w.cell? ⟨b, off + j, none⟩ = some u)

/-- The address behind a cut 's[k:]'. -/
def cutA (A : Option Addr) (c k size : Nat) : Option Addr := if c = k then A else A.map (·.add (k * size))

section
variable {w w' : World} {B B' size n : Nat} {A : Option Addr} {xs : List Value}
theorem Sl.nil_ (w : World) (B size : Nat) (A : Option Addr) : Sl w B size A 0 [] := ⟨by simp, fun h => absurd h (by omega)⟩
theorem Sl.len (h : Sl w B 1 A n xs) : xs.length = n := by have := h.1; omega
theorem Sl.at_ {k : Nat} (h : Sl w B 1 A n xs) (hk : k < n) : ∃ b off u, A = some ⟨b, off, none⟩ ∧ b < B ∧ xs[k]? = some u ∧ w.cell? ⟨b, off + k, none⟩ = some u := by
  obtain ⟨b, off, e, hb, hc⟩ := h.2 (by omega)
  have hl : k < xs.length := by have := h.1; omega
  exact ⟨b, off, xs[k], e, hb, List.getElem?_eq_getElem hl, hc k _ (List.getElem?_eq_getElem hl)⟩
theorem Sl.keep (h : Sl w B size A n xs) (hk : ∀ p : Addr, p.block < B → w'.cell? p = w.cell? p) : Sl w' B size A n xs :=
  ⟨h.1, fun hn => by
    obtain ⟨b, off, e, hb, hc⟩ := h.2 hn
    exact ⟨b, off, e, hb, fun j u hu => (hk _ hb).trans (hc j u hu)⟩⟩
theorem Sl.more (h : Sl w B size A n xs) (hB : B ≤ B') : Sl w B' size A n xs :=
  ⟨h.1, fun hn => by
    obtain ⟨b, off, e, hb, hc⟩ := h.2 hn
    exact ⟨b, off, e, by omega, hc⟩⟩
theorem Sl.below (h : Sl w B size A n xs) (hb : Below B w w') : Sl w' B size A n xs := h.keep fun _ hp => hb.cell hp
theorem Sl.belowN (h : Sl w B size A n xs) {C : Nat} (hb : Below C w w') (hC : B ≤ C) : Sl w' B size A n xs := h.below (hb.mono hC)
theorem Sl.drew (h : Sl w B size A n xs) : Sl w.drew B size A n xs := h
theorem Sl.drewN (h : Sl w B size A n xs) (k : Nat) : Sl (w.drewN k) B size A n xs := h
theorem Sl.alloc (h : Sl w B size A n xs) (hB : B ≤ w.heap.size) (o : Obj) : Sl (w.alloc o) B size A n xs := h.keep fun p hp => World.cell?_alloc_lt w o p (by omega)
theorem Sl.setCell (h : Sl w B size A n xs) {p : Addr} (hB : B ≤ p.block) (u : Value) : Sl (w.setCell p u) B size A n xs :=
  h.keep fun q hq => World.cell?_setCell_other w p q u (fun e => by subst e; omega)
theorem Sl.grown (h : Sl w B size A n xs) {row : Option Nat} (hg : w.grownBy w' row) (hB : B ≤ w.heap.size) (hr : ∀ g, row = some g → B ≤ g) : Sl w' B size A n xs :=
  h.keep fun p hp => World.cell?_of_block (hg.block p.block (by omega) (fun e => by have := hr _ e.symm; omega))
theorem Sl.cut (h : Sl w B size A n xs) {k c : Nat} (hk : k ≤ n) (hc : n ≤ c) : Sl w B size (cutA A c k size) (n - k) (xs.drop (k * size)) := by
  refine ⟨by rw [List.length_drop, h.1, Nat.sub_mul], fun hn => ?_⟩
  obtain ⟨b, off, rfl, hb, hcell⟩ := h.2 (by omega)
  unfold cutA
  rw [if_neg (by omega)]
  refine ⟨b, off + k * size, by rw [Option.map_some, Addr.add_lit], hb, fun j u hu => ?_⟩
  rw [Nat.add_assoc]
  exact hcell _ u (by rw [← hu, List.getElem?_drop])
theorem Sl.upto (h : Sl w B size A n xs) {k : Nat} (hk : k ≤ n) : Sl w B size A k (xs.take (k * size)) := by
  refine ⟨?_, fun hn => ?_⟩
  · rw [List.length_take, h.1]; exact Nat.min_eq_left (Nat.mul_le_mul_right _ hk)
  · obtain ⟨b, off, rfl, hb, hcell⟩ := h.2 (by omega)
    refine ⟨b, off, rfl, hb, fun j u hu => hcell j u ?_⟩
    rw [List.getElem?_take] at hu
    split at hu
    · exact hu
    · cases hu
theorem Sl.of_own {base : Nat} {e : TypeId} {c : Nat} (h : w.ownsRow base e size (.slice A n c) n xs) : Sl w w.heap.size size A n xs := by
  refine ⟨h.1, fun hn => ?_⟩
  rcases h.2 with ⟨_, h0⟩ | ⟨g, cap, cur, hv, _, hh, _⟩
  · omega
  · have hA : A = some ⟨g, 0, none⟩ := by injection hv
    subst hA
    refine ⟨g, 0, rfl, ?_, fun j u hu => ?_⟩
    · rcases Nat.lt_or_ge g w.heap.size with hlt | hge
      · exact hlt
      · rw [Array.getElem?_eq_none hge] at hh; cases hh
    · have := h.cells (g := g) rfl j u hu
      rwa [Addr.add_lit] at this
/-- A row of cells in one block. -/
theorem Sl.of_block {g off : Nat} {cs : Array Value} {t : TypeId} {fr : Nat × Nat} (hg : w.heap[g]? = some (.cells cs t fr)) (hl : xs.length = n * size) (hx : ∀ j u, xs[j]? = some u → cs[off + j]? = some u) : Sl w w.heap.size size (some ⟨g, off, none⟩) n xs := by
  refine ⟨hl, fun _ => ⟨g, off, rfl, ?_, fun j u hu => ?_⟩⟩
  · rcases Nat.lt_or_ge g w.heap.size with hlt | hge
    · exact hlt
    · rw [Array.getElem?_eq_none hge] at hg; cases hg
  · simp [World.cell?, hg, hx j u hu]
end

/-- One new cell; a new row. -/
theorem Sl.one (w : World) (t : TypeId) (v : Value) : Sl (w.alloc (.cells #[v] t)) (w.heap.size + 1) 1 (some ⟨w.heap.size, 0, none⟩) 1 [v] := by
  have h := Sl.of_block (w := w.alloc (.cells #[v] t)) (g := w.heap.size) (off := 0) (size := 1) (n := 1) (xs := [v]) (heap_alloc_new w _) rfl (fun j u hu => by
    match j, hu with
    | 0, hu => simpa using hu)
  simpa using h
theorem Sl.row (w : World) (t : TypeId) (size n : Nat) (l : List Value) (h : l.length = n * size) : Sl (w.alloc (.cells l.toArray t)) (w.heap.size + 1) size (some ⟨w.heap.size, 0, none⟩) n l := by
  have h := Sl.of_block (w := w.alloc (.cells l.toArray t)) (g := w.heap.size) (off := 0) (size := size) (n := n) (xs := l) (heap_alloc_new w _) h (fun j u hu => by
    rw [Nat.zero_add]; simpa using hu)
  simpa using h

/-- The length in a slot that holds a slice: for a loop's measure. -/
def lenOf : Value → Nat | .slice _ n _ => n | _ => 0

/-! ### Bytes -/
/-- The slice value '.slice A n c' holds the bytes l. -/
def By (w : World) (B : Nat) (A : Option Addr) (n : Nat) (l : List UInt8) : Prop := Sl w B 1 A n (Lib.byteCells l)

section
variable {w w' : World} {B B' n : Nat} {A : Option Addr} {l : List UInt8}
theorem By.len (h : By w B A n l) : l.length = n := by have := Sl.len h; simpa [Lib.byteCells] using this
theorem By.nil_ (w : World) (B : Nat) (A : Option Addr) : By w B A 0 [] := Sl.nil_ w B 1 A
theorem By.at_ {k : Nat} (h : By w B A n l) (hk : k < n) : ∃ b off, A = some ⟨b, off, none⟩ ∧ b < B ∧ w.cell? ⟨b, off + k, none⟩ = some (.int .u8 (nth l k)) := by
  obtain ⟨b, off, u, hA, hb, hu, hc⟩ := Sl.at_ h hk
  have hl : k < l.length := by rw [h.len]; exact hk
  refine ⟨b, off, hA, hb, hc.trans ?_⟩
  rw [← hu, nth_of l k hl]
  simp [Lib.byteCells, hl]
theorem By.opn (h : By w B A n l) (hn : 0 < n) : ∃ b off, A = some ⟨b, off, none⟩ ∧ b < B ∧ ∀ k, k < n → w.cell? ⟨b, off + k, none⟩ = some (.int .u8 (nth l k)) := by
  obtain ⟨b, off, hA, hb, hc⟩ := And.right h hn
  refine ⟨b, off, hA, hb, fun k hk => hc k _ ?_⟩
  have hl : k < l.length := by rw [h.len]; exact hk
  rw [nth_of l k hl]
  simp [Lib.byteCells, hl]
theorem By.keep (h : By w B A n l) (hk : ∀ p : Addr, p.block < B → w'.cell? p = w.cell? p) : By w' B A n l := Sl.keep h hk
theorem By.more (h : By w B A n l) (hB : B ≤ B') : By w B' A n l := Sl.more h hB
theorem By.below (h : By w B A n l) (hb : Below B w w') : By w' B A n l := Sl.below h hb
theorem By.belowN (h : By w B A n l) {C : Nat} (hb : Below C w w') (hC : B ≤ C) : By w' B A n l := Sl.belowN h hb hC
theorem By.alloc (h : By w B A n l) (hB : B ≤ w.heap.size) (o : Obj) : By (w.alloc o) B A n l := Sl.alloc h hB o
theorem By.cut (h : By w B A n l) {k c : Nat} (hk : k ≤ n) (hc : n ≤ c) : By w B (cutA A c k 1) (n - k) (l.drop k) := by
  have := Sl.cut h hk hc
  simpa [By, Lib.byteCells, List.map_drop] using this
theorem By.upto (h : By w B A n l) {k : Nat} (hk : k ≤ n) : By w B A k (l.take k) := by
  have := Sl.upto h hk
  simpa [By, Lib.byteCells, List.map_take] using this
theorem By.cut_lit {b off : Nat} (h : By w B (some ⟨b, off, none⟩) n l) {k c : Nat} (hk : k ≤ n) (hc : n ≤ c) : By w B (if c = k then some ⟨b, off, none⟩ else some ⟨b, off + k, none⟩) (n - k) (l.drop k) := by
  have := h.cut hk hc
  unfold cutA at this
  simpa [Addr.add_lit] using this
/-- A block that holds just these bytes (laid by a literal, or by a conversion: with a mark). -/
theorem By.block (w : World) (l : List UInt8) {g n : Nat} {e : TypeId} {fr : Nat × Nat} (hg : g = w.heap.size) (hn : n = l.length := by rfl) : By (w.alloc (.cells (Lib.byteCells l).toArray e fr)) (w.alloc (.cells (Lib.byteCells l).toArray e fr)).heap.size (some ⟨g, 0, none⟩) n l := by
  subst hg; subst hn
  exact Sl.of_block (heap_alloc_new w _) (by simp [Lib.byteCells]) (fun j u hu => by rw [Nat.zero_add]; simpa using hu)
theorem By.of_own {base : Nat} {e : TypeId} {c : Nat} (h : w.ownsRow base e 1 (.slice A n c) n (Lib.byteCells l)) : By w w.heap.size A n l := Sl.of_own h
end

/-! ### Ints -/
/-- The cells of a list of ints that are not below 0. -/
def intCells (l : List Nat) : List Value := l.map fun x : Nat => Value.int .i64 (x : Int)
theorem intCells_len (l : List Nat) : (intCells l).length = l.length := by simp [intCells]
theorem intCells_append (a b : List Nat) : intCells (a ++ b) = intCells a ++ intCells b := by simp [intCells]
theorem intCells_at (l : List Nat) (k : Nat) (h : k < l.length) : (intCells l)[k]? = some (.int .i64 ((l.getD k 0 : Nat) : Int)) := by simp [intCells, h]
theorem oneCell_intCells (l : List Nat) : ∀ u ∈ intCells l, u.oneCell' = true := by
  intro u hu; simp [intCells] at hu; obtain ⟨x, _, rfl⟩ := hu; rfl
theorem oneCell_byteCells (l : List UInt8) : ∀ u ∈ Lib.byteCells l, u.oneCell' = true := by
  intro u hu; simp [Lib.byteCells] at hu; obtain ⟨x, _, rfl⟩ := hu; rfl

/-! ### Bits of int -/
theorem ofInt_i64 (a : Nat) (ha : a < 9223372036854775808) : (BitVec.ofInt 64 (a : Int)).toNat = a := by
  rw [BitVec.ofInt_natCast, BitVec.toNat_ofNat]; exact Nat.mod_eq_of_lt (by omega)
theorem i64_and (a b : Nat) (ha : a < 9223372036854775808) (hb : b < 9223372036854775808) : bits .and .i64 (a : Int) (b : Int) = ((a &&& b : Nat) : Int) := by
  have hx : a &&& b < 2 ^ 63 := Nat.and_lt_two_pow _ (by omega)
  show IntKind.i64.wrap ((BitVec.ofInt 64 (a : Int) &&& BitVec.ofInt 64 (b : Int)).toNat : Int) = _
  rw [BitVec.toNat_and, ofInt_i64 a ha, ofInt_i64 b hb, IntKind.wrap_i64]
  omega
theorem i64_or (a b : Nat) (ha : a < 9223372036854775808) (hb : b < 9223372036854775808) : bits .or .i64 (a : Int) (b : Int) = ((a ||| b : Nat) : Int) := by
  have hx : a ||| b < 2 ^ 63 := Nat.or_lt_two_pow (by omega) (by omega)
  show IntKind.i64.wrap ((BitVec.ofInt 64 (a : Int) ||| BitVec.ofInt 64 (b : Int)).toNat : Int) = _
  rw [BitVec.toNat_or, ofInt_i64 a ha, ofInt_i64 b hb, IntKind.wrap_i64]
  omega
theorem or_low (a b k : Nat) (hb : b < 2 ^ k) : (a * 2 ^ k) ||| b = a * 2 ^ k + b := by
  rw [Nat.mul_comm, Nat.two_pow_add_eq_or_of_lt hb]
theorem or_low8 (a b : Nat) (hb : b < 256) : (a * 256) ||| b = a * 256 + b := or_low a b 8 (by omega)
theorem and_63 (a : Nat) : a &&& 63 = a % 64 := Nat.and_two_pow_sub_one_eq_mod a 6

/-! ### Operations that make memory, said by lists -/
section
variable {P : Program}

/-- '[]byte(s)'. -/
theorem run_toBytes (w : World) (src dst e : TypeId) (l : List UInt8) (hs : P.underlying src = some .string) (hd : P.underlying dst = some (.slice e)) (he : P.underlying e = some (.int .u8)) :
    ∃ A c w', (convert src dst (str l)).run P w = .ok (.slice A l.length c) w' ∧ By w' w'.heap.size A l.length l ∧ l.length ≤ c ∧ Below w.heap.size w w' ∧ w.heap.size < w'.heap.size := by
  refine ⟨_, _, _, run_bytes_of_string w src dst e ⟨l.toArray⟩ hs hd he, ?_, ?_, ?_, ?_⟩
  · refine Sl.of_block (g := w.heap.size) (heap_alloc_new w.drew _) (by simp [Lib.byteCells]) fun j u hu => ?_
    rw [Nat.zero_add]
    have hj : j < l.length := by
      rcases Nat.lt_or_ge j l.length with h | h
      · exact h
      · simp [Lib.byteCells, List.getElem?_eq_none h] at hu
    rw [bytesRow_at ⟨l.toArray⟩ _ j (by simpa using hj)]
    simp [Lib.byteCells, hj] at hu
    simpa using hu
  · exact grownCap_ge _ _ _ _
  · exact (Below.drew (Below.refl _ w)).alloc (Nat.le_refl _) _
  · simp

/-- 'string(b)'. -/
theorem run_toStr (w : World) (src dst e : TypeId) (B : Nat) (A : Option Addr) (n c : Nat) (l : List UInt8) (hb : By w B A n l) (hs : P.underlying src = some (.slice e)) (he : P.underlying e = some (.int .u8)) (hd : P.underlying dst = some .string) :
    (convert src dst (.slice A n c)).run P w = .ok (str l) w := by
  have hl := hb.len
  subst hl
  rcases Nat.eq_zero_or_pos l.length with h0 | h0
  · have hnil : l = [] := List.eq_nil_of_length_eq_zero h0
    subst hnil
    cases A with
    | none => rw [run_convert_bytes_nil w src e hs he _ _ dst hd]; rfl
    | some a => exact run_convert_bytes_back w src dst e a c [] hs he hd (fun j hj => absurd hj (by simp))
  · obtain ⟨b, off, rfl, _, hc⟩ := hb.2 h0
    refine run_convert_bytes_back w src dst e ⟨b, off, none⟩ c l hs he hd (fun j hj => ?_)
    rw [Addr.add_lit]
    exact hc j _ (by simp [Lib.byteCells, hj])
theorem elem_of {t e : TypeId} (ht : P.underlying t = some (.slice e)) : P.elem t = e := by
  simp [Program.elem, ht]
/-- 's[k:]'. -/
theorem run_cut (w : World) (t e : TypeId) (size : Nat) (ht : P.underlying t = some (.slice e)) (hs : (sizeOf e).run P w = .ok size w) (A : Option Addr) (n c : Nat) (ki : IntKind) (k : Int) (h0 : 0 ≤ k) (h1 : k ≤ n) :
    (Instr.slice t (.slice A n c) (some (.int ki k)) none none).run P w = .ok (.slice (cutA A c k.toNat size) (n - k.toNat) (c - k.toNat)) w := by
  have he := elem_of ht
  rw [run_slice_l w t A n c (by rw [he]; exact ht) ki k h0 h1, he, hs]
  rfl
/-- 's[:k]'. -/
theorem run_upto (w : World) (t e : TypeId) (size : Nat) (ht : P.underlying t = some (.slice e)) (hs : (sizeOf e).run P w = .ok size w) (A : Option Addr) (n c : Nat) (ki : IntKind) (k : Int) (h0 : 0 ≤ k) (h1 : k ≤ n) (hc : n ≤ c) :
    (Instr.slice t (.slice A n c) none (some (.int ki k)) none).run P w = .ok (.slice (cutA A c 0 size) k.toNat c) w := by
  have he := elem_of ht
  rw [run_slice_h w t A n c (by rw [he]; exact ht) ki k h0 (by omega), he, hs]
  rfl
/-- 's[i:j]'. -/
theorem run_mid (w : World) (t e : TypeId) (size : Nat) (ht : P.underlying t = some (.slice e)) (hs : (sizeOf e).run P w = .ok size w) (A : Option Addr) (n c : Nat) (ki kj : IntKind) (i j : Int) (h0 : 0 ≤ i) (h1 : i ≤ j) (h2 : j ≤ n) (hc : n ≤ c) :
    (Instr.slice t (.slice A n c) (some (.int ki i)) (some (.int kj j)) none).run P w = .ok (.slice (cutA A c i.toNat size) (j.toNat - i.toNat) (c - i.toNat)) w := by
  have he := elem_of ht
  rw [run_slice_lh w t A n c (by rw [he]; exact ht) ki kj i j h0 h1 (by omega), he, hs]
  rfl

/-- 'append(s, x...)' onto a slice of the call's own: whatever is appended, nil and empty too. -/
theorem run_app (w : World) (base : Nat) (t ty e : TypeId) (i : TypeInfo) (z : Value) (size bytes : Nat) (ht : P.underlying t = some (.slice e)) (hi : P.info? e = some i) (hz : i.zero = some z)
    (hsize : i.size = size) (hby : i.bytes = bytes) (hzs : z.cells.size = size) (hsz : 0 < size)
    (S : Option Addr) (n cs : Nat) (xs : List Value) (hown : w.ownsRow base e size (.slice S n cs) n xs)
    (B : Nat) (A : Option Addr) (m c : Nat) (news : List Value) (hr : Sl w B size A m news) (h1 : ∀ u ∈ news, u.oneCell' = true)
    (h63 : n + m ≤ maxLen) (hbytes : (n + m) * bytes ≤ 140737488355328) (hbase : base ≤ w.heap.size) :
    ∃ S' c' w', (Builtin.append_ #[t, t] ty #[.slice S n cs, .slice A m c]).run P w = .ok (.slice S' (n + m) c') w' ∧ w'.ownsRow base e size (.slice S' (n + m) c') (n + m) (xs ++ news) ∧
      w.grownBy w' (Value.ownBlock (.slice S n cs)) ∧ (Value.ownBlock (.slice S' (n + m) c') = Value.ownBlock (.slice S n cs) ∨ Value.ownBlock (.slice S' (n + m) c') = some w.heap.size) := by
  have form : ∀ {v : Value} {w' : World} {k : Nat} {ys : List Value}, w'.ownsRow base e size v k ys → ∃ S' c', v = .slice S' k c' := by
    intro v w' k ys h
    rcases h.2 with ⟨hv, h0⟩ | ⟨g, cap, cur, hv, _⟩
    · exact ⟨none, 0, by rw [hv, h0]⟩
    · exact ⟨_, _, hv⟩
  rcases A with _ | ad
  · have hm : m = 0 := by
      rcases Nat.eq_zero_or_pos m with h0 | h0
      · exact h0
      · obtain ⟨_, _, h, _⟩ := hr.2 h0
        cases h
    subst hm
    have hn : news = [] := List.eq_nil_of_length_eq_zero (by simpa using hr.1)
    subst hn
    refine ⟨S, cs, w, ?_, by simpa using hown, World.grownBy.refl w _, .inl rfl⟩
    rcases hown.2 with ⟨hv, h0⟩ | ⟨g, cap, cur, hv, _, _, hnc, _⟩
    · injection hv with hS hn0 hcs
      subst hS; subst hn0; subst hcs
      simp [Builtin.append_, run_underlying ht, sizeOf, typeInfo, hi, Builtin.lenOf, Builtin.firstCells]
    · injection hv with hS hn0 hcs
      subst hS; subst hcs
      simp [Builtin.append_, run_underlying ht, sizeOf, typeInfo, hi, Builtin.lenOf, Builtin.firstCells, hnc, storeCells]
  · have hcells : ∀ j u, news[j]? = some u → w.cell? (ad.add j) = some u := by
      intro j u hu
      rcases Nat.eq_zero_or_pos m with h0 | h0
      · subst h0
        have hn : news = [] := List.eq_nil_of_length_eq_zero (by simpa using hr.1)
        subst hn
        simp at hu
      · obtain ⟨b, off, h, _, hc⟩ := hr.2 h0
        injection h with h
        subst h
        rw [Addr.add_lit]
        exact hc j u hu
    obtain ⟨v', w', hrun, h2, h3, _, h5⟩ := run_append_own_at (P := P) w base t ty e i z size bytes ht hi hz hsize hby hzs hsz _ n xs hown ad m c news hr.1 hcells h1 h63 hbytes hbase
    obtain ⟨S', c', rfl⟩ := form h2
    exact ⟨S', c', w', hrun, h2, h3, h5⟩

theorem wpList_app {w : World} {ops : Array Oper} {rest : List Oper} {o : Oper} {a : Act} {Q : Exit → Act → World → Prop} (hgd : o.guard = none) (s x : Operand) (t : TypeId)
    (ho : o.op = .call { callee := .builtin .append, args := #[s, x], argTypes := #[t, t] })
    (base : Nat) (e : TypeId) (i : TypeInfo) (z : Value) (size bytes : Nat) (ht : P.underlying t = some (.slice e)) (hi : P.info? e = some i) (hz : i.zero = some z)
    (hsize : i.size = size) (hby : i.bytes = bytes) (hzs : z.cells.size = size) (hsz : 0 < size)
    (S : Option Addr) (n cs : Nat) (xs : List Value) (hs : a.eval s = .slice S n cs) (hown : w.ownsRow base e size (.slice S n cs) n xs)
    (B : Nat) (A : Option Addr) (m c : Nat) (news : List Value) (hx : a.eval x = .slice A m c) (hr : Sl w B size A m news) (h1 : ∀ u ∈ news, u.oneCell' = true)
    (h63 : n + m ≤ maxLen) (hbytes : (n + m) * bytes ≤ 140737488355328) (hbase : base ≤ w.heap.size)
    (h : ∀ S' c' w', w'.ownsRow base e size (.slice S' (n + m) c') (n + m) (xs ++ news) → Below base w w' → w.grownBy w' (Value.ownBlock (.slice S n cs)) → wpList P ops Q rest (a.put o.dst (.slice S' (n + m) c')) w') : wpList P ops Q (o :: rest) a w := by
  refine wpList_plain hgd fun K hK => ?_
  obtain ⟨S', c', w', hrun, h2, h3, h4⟩ := run_app (P := P) w base t o.type e i z size bytes ht hi hz hsize hby hzs hsz S n cs xs hown B A m c news hr h1 h63 hbytes hbase
  unfold Oper.wp execOp
  simp only [ho, resolve, invoke, builtin, Sem.run_bind, Sem.run_pure, Result.andThen_ok, List.map_toArray, List.map_cons, List.map_nil, hs, hx, hrun]
  exact hK _ _ (h S' c' w' h2 ((Below.refl base w).grown h3 hbase (fun k hk => (hown.lt k hk).1)) h3)

/-- A slice expression whose run is known. -/
theorem wpList_slice {w w' : World} {v : Value} {ops : Array Oper} {rest : List Oper} {o : Oper} {a : Act} {Q : Exit → Act → World → Prop} (hgd : o.guard = none) (t : TypeId) (x : Operand) (lo hi mx : Option Operand)
    (ho : o.op = .slice t x lo hi mx) (hrun : (Instr.sliceAt t (a.eval x) (lo.map a.eval) (hi.map a.eval) (mx.map a.eval)).run P w = .ok v w') (hk : wpList P ops Q rest (a.put o.dst v) w') : wpList P ops Q (o :: rest) a w := by
  refine wpList_plain hgd fun K hK => ?_
  unfold Oper.wp execOp
  simp only [ho, Sem.run_bind, hrun, Result.andThen_ok, Sem.run_pure]
  exact hK _ _ hk
end
end Go.Proofs.YtdhmmepcnladcaaDoor

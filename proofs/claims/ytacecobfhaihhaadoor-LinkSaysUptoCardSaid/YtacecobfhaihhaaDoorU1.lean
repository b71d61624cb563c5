import Derived.WalkKit
import Derived.WalkSpells
import Derived.WalkLawsBesides
import Derived.Lib.Hide
import Derived.Deep.QuietTactic
import Derived.BigQuiet
import Derived.Deep.AppendLies
import Derived.Deep.Draws
import Derived.Maps.AppendAt
import Derived.Lib.AppendStr
import Derived.Lib.UnsafeStr
import Derived.Lib.Bytealg
import Derived.Test.YtacecobfhaihhaaDoorRows
import Derived.ProofKit
import Derived.OpenShut
import Derived.ShutString
import Derived.ChangeOld
import Derived.Below
import Derived.Test.YtacecobfhaihhaaDoorShelf
import Derived.Lib.Builder
import Derived.Lib.Walk
import Derived.Laws.Externs
import Derived.Lib.IndexBytes
import Derived.Lib.IndexMore
import Derived.Lib.Replace
import Derived.Lib.IndexLaws
import Derived.Lib.Strings
import Derived.Lib.SmallJoins
namespace Go.Proofs.YtacecobfhaihhaaDoor
open Go.RowKit

/-! ### A string as its list of bytes -/

/-- A string value, said by its list of bytes. -/
def str (l : List UInt8) : Value := .string ⟨l.toArray⟩

/-- Byte k of a list, as a number; 0 behind its end. (A plain def: the walk's simp leaves it as it stands.) -/
def nth (l : List UInt8) (k : Nat) : Nat := (l.getD k 0).toNat
theorem nth_lt (l : List UInt8) (k : Nat) : nth l k < 256 := (l.getD k 0).toNat_lt
theorem nth_of (l : List UInt8) (k : Nat) (h : k < l.length) : nth l k = (l[k]).toNat := by simp [nth, List.getD, h]
theorem nth_ge (l : List UInt8) (k : Nat) (h : l.length ≤ k) : nth l k = 0 := by simp [nth, List.getD, h]
theorem nth_cons_zero (a : UInt8) (l : List UInt8) : nth (a :: l) 0 = a.toNat := rfl
theorem nth_cons_succ (a : UInt8) (l : List UInt8) (k : Nat) : nth (a :: l) (k + 1) = nth l k := rfl
theorem nth_drop (l : List UInt8) (i k : Nat) : nth (l.drop i) k = nth l (i + k) := by simp [nth, List.getD]

theorem str_eq (l : List UInt8) : str l = .string ⟨l.toArray⟩ := rfl
theorem str_of (s : ByteArray) : Value.string s = str s.data.toList := rfl
theorem str_inj {a b : List UInt8} (h : str a = str b) : a = b := by
  unfold str at h; injection h with h; injection h with h; simpa using h

attribute [local simp] ByteArray.toList_mk

section
variable {P : Program} (w : World)
theorem run_len_str (t ty : TypeId) (l : List UInt8) (h : P.underlying t = some .string) :
    (Builtin.len_ #[t] ty #[str l]).run P w = .ok (.int .i64 l.length) w := by
  rw [str_eq, run_len_string w t ty _ h]; rfl
theorem run_index_str (t : TypeId) (l : List UInt8) (k : IntKind) (i : Int) (h : P.underlying t = some .string) (h0 : 0 ≤ i) (h1 : i < l.length) :
    (Instr.index t (str l) (.int k i)).run P w = .ok (.int .u8 (nth l i.toNat)) w := by
  have h2 : i.toNat < l.length := by omega
  rw [str_eq, run_index_string w t _ k i h, dif_pos ⟨h0, by simpa [ByteArray.size] using h1⟩]
  congr 3
  show (l.toArray[i.toNat]).toNat = _
  rw [nth_of l _ h2]
  simp
theorem run_index_str_if (t : TypeId) (l : List UInt8) (k : IntKind) (i : Int) (h : P.underlying t = some .string) :
    (Instr.index t (str l) (.int k i)).run P w = if 0 ≤ i ∧ i < l.length then .ok (.int .u8 (nth l i.toNat)) w else (boundsPanic k i l.length .index).run P w := by
  by_cases hc : 0 ≤ i ∧ i < (l.length : Int)
  · rw [if_pos hc, run_index_str w t l k i h hc.1 hc.2]
  · rw [if_neg hc, str_eq, run_index_string w t _ k i h, dif_neg (by simpa [ByteArray.size] using hc)]
    simp [ByteArray.size]
theorem run_slice_str_lh (t : TypeId) (l : List UInt8) (k k' : IntKind) (i j : Int) (h : P.underlying t = some .string) (h0 : 0 ≤ i) (h1 : i ≤ j) (h2 : j ≤ l.length) :
    (Instr.slice t (str l) (some (.int k i)) (some (.int k' j)) none).run P w = .ok (str ((l.take j.toNat).drop i.toNat)) w := by
  rw [str_eq, run_slice_string w t _ k k' i j h h0 h1 (by simpa [ByteArray.size] using h2), ByteArray.extract_mk]
  simp [str, List.drop_take]
theorem run_slice_str_l (t : TypeId) (l : List UInt8) (k : IntKind) (i : Int) (h : P.underlying t = some .string) (h0 : 0 ≤ i) (h1 : i ≤ l.length) :
    (Instr.slice t (str l) (some (.int k i)) none none).run P w = .ok (str (l.drop i.toNat)) w := by
  rw [str_eq, run_slice_string_from_if w t _ k i h, if_pos ⟨h0, by simpa [ByteArray.size] using h1⟩, ByteArray.extract_mk, List.take_of_length_le (by simp [ByteArray.size])]
  rfl
theorem run_slice_str_h (t : TypeId) (l : List UInt8) (k : IntKind) (j : Int) (h : P.underlying t = some .string) (h0 : 0 ≤ j) (h1 : j ≤ l.length) :
    (Instr.slice t (str l) none (some (.int k j)) none).run P w = .ok (str (l.take j.toNat)) w := by
  rw [str_eq, run_slice_string_to_if w t _ k j h, if_pos ⟨h0, by simpa [ByteArray.size] using h1⟩, ByteArray.extract_mk]
  simp [str]
theorem run_add_str (t : TypeId) (a b : List UInt8) (h : a.length + b.length ≤ 9223372036854775807) :
    (binOp .add t (str a) (str b)).run P w = .ok (str (a ++ b)) w := by
  rw [str_eq, str_eq, binOp_string_add, run_string_add_sum w _ _ (by simpa [ByteArray.size] using h), ByteArray.mk_append_mk]
  rfl
end
theorem eqGuard_at_str {op : BinOp} {t : TypeId} {x y : Operand} (l : List UInt8) (v : Value) : eqGuard op t x y (str l) v = pure () := by cases op <;> rfl
theorem binOp_eql_str (t : TypeId) (a b : List UInt8) : binOp .eql t (str a) (str b) = pure (.bool (a == b)) := by
  rw [str_eq, str_eq, binOp_string_eql]; simp
theorem binOp_neq_str (t : TypeId) (a b : List UInt8) : binOp .neq t (str a) (str b) = pure (.bool (!(a == b))) := by
  rw [str_eq, str_eq, binOp_string_neq]; simp
theorem run_store_str (P : Program) (w : World) (a : Addr) (m : Mode) (l : List UInt8) : (store a (str l) m).run P w = stored P w a (str l) m := run_store P w a _ m rfl
theorem oneCell'_str (l : List UInt8) : (str l).oneCell' = true := rfl
theorem cells_str (l : List UInt8) : (str l).cells = #[str l] := rfl

/-- (The walk lays 'Value.cells' open before its rules are tried: this one serves behind that.) -/
theorem cells_str2 (l : List UInt8) (f : Array Value → Array Value) (g : Value → Array Value) : Value.cells.match_1 (fun _ => Array Value) (str l) f g = g (str l) := rfl
attribute [go_sem high] cells_str2
theorem lit_str (l : List UInt8) : Value.string ⟨l.toArray⟩ = str l := rfl
theorem run_slice_str_all {P : Program} (w : World) (t : TypeId) (l : List UInt8) (h : P.underlying t = some .string) :
    (Instr.slice t (str l) none none none).run P w = .ok (str l) w := by
  rw [str_eq, run_slice_string_all w t _ h, ByteArray.extract_mk]
  simp [ByteArray.size]
theorem run_slice_str_l_if {P : Program} (w : World) (t : TypeId) (l : List UInt8) (k : IntKind) (i : Int) (h : P.underlying t = some .string) :
    (Instr.slice t (str l) (some (.int k i)) none none).run P w = if 0 ≤ i ∧ i ≤ l.length then .ok (str (l.drop i.toNat)) w else ((boundsPanic k i l.length .sliceB : Sem Nat).run P w).andThen fun a w' => .ok (.string ((ByteArray.mk l.toArray).extract a l.length)) w' := by
  by_cases hc : 0 ≤ i ∧ i ≤ (l.length : Int)
  · rw [if_pos hc, run_slice_str_l w t l k i h hc.1 hc.2]
  · rw [if_neg hc, str_eq, run_slice_string_from_if w t _ k i h, if_neg (by simpa [ByteArray.size] using hc)]
    simp [ByteArray.size]
theorem run_slice_str_h_if {P : Program} (w : World) (t : TypeId) (l : List UInt8) (k : IntKind) (j : Int) (h : P.underlying t = some .string) :
    (Instr.slice t (str l) none (some (.int k j)) none).run P w = if 0 ≤ j ∧ j ≤ l.length then .ok (str (l.take j.toNat)) w else ((boundsPanic k j l.length .sliceAlen : Sem Nat).run P w).andThen fun a w' => .ok (.string ((ByteArray.mk l.toArray).extract 0 a)) w' := by
  by_cases hc : 0 ≤ j ∧ j ≤ (l.length : Int)
  · rw [if_pos hc, run_slice_str_h w t l k j h hc.1 hc.2]
  · rw [if_neg hc, str_eq, run_slice_string_to_if w t _ k j h, if_neg (by simpa [ByteArray.size] using hc)]
    simp [ByteArray.size]
theorem run_add_str_if {P : Program} (w : World) (t : TypeId) (a b : List UInt8) :
    (binOp .add t (str a) (str b)).run P w = if a.length + b.length ≤ 9223372036854775807 then .ok (str (a ++ b)) w else .halt (.unsupported (.resourceLimit "string concatenation: a sum of the lengths that is no int")) w := by
  by_cases hc : a.length + b.length ≤ 9223372036854775807
  · rw [if_pos hc, run_add_str w t a b hc]
  · rw [if_neg hc, str_eq, str_eq, binOp_string_add, run_string_add_if, if_pos (by simp [ByteArray.size]; omega)]
section
variable {P : Program} (w : World) (t ty : TypeId) (l a b : List UInt8)
theorem run_len_lit (h : P.underlying t = some .string) : (Builtin.len_ #[t] ty #[.string ⟨l.toArray⟩]).run P w = .ok (.int .i64 l.length) w := run_len_str w t ty l h
theorem run_index_lit (k : IntKind) (i : Int) (h : P.underlying t = some .string) :
    (Instr.index t (.string ⟨l.toArray⟩) (.int k i)).run P w = if 0 ≤ i ∧ i < l.length then .ok (.int .u8 (nth l i.toNat)) w else (boundsPanic k i l.length .index).run P w := run_index_str_if w t l k i h
theorem run_add_str_lit : (binOp .add t (str a) (.string ⟨b.toArray⟩)).run P w = if a.length + b.length ≤ 9223372036854775807 then .ok (str (a ++ b)) w else .halt (.unsupported (.resourceLimit "string concatenation: a sum of the lengths that is no int")) w := run_add_str_if w t a b
theorem run_add_lit_str : (binOp .add t (.string ⟨a.toArray⟩) (str b)).run P w = if a.length + b.length ≤ 9223372036854775807 then .ok (str (a ++ b)) w else .halt (.unsupported (.resourceLimit "string concatenation: a sum of the lengths that is no int")) w := run_add_str_if w t a b
theorem binOp_eql_str_lit : binOp .eql t (str a) (.string ⟨b.toArray⟩) = pure (.bool (a == b)) := binOp_eql_str t a b
theorem binOp_eql_lit_str : binOp .eql t (.string ⟨a.toArray⟩) (str b) = pure (.bool (a == b)) := binOp_eql_str t a b
theorem binOp_neq_str_lit : binOp .neq t (str a) (.string ⟨b.toArray⟩) = pure (.bool (!(a == b))) := binOp_neq_str t a b
theorem binOp_neq_lit_str : binOp .neq t (.string ⟨a.toArray⟩) (str b) = pure (.bool (!(a == b))) := binOp_neq_str t a b
end
attribute [go_sem high] run_len_lit run_index_lit run_add_str_lit run_add_lit_str binOp_eql_str_lit binOp_eql_lit_str binOp_neq_str_lit binOp_neq_lit_str
attribute [go_sem high] run_len_str run_index_str_if run_slice_str_lh run_slice_str_l_if run_slice_str_h_if run_slice_str_all run_add_str_if eqGuard_at_str binOp_eql_str binOp_neq_str run_store_str oneCell'_str cells_str

theorem belN {B : Nat} {a w : World} (h : Below B a w) (n : Nat) : Below B a (w.drewN n) := ⟨h.os, h.tape, h.output, h.size, h.block⟩

/-! ### A slice that reads as a list of cells, nil let in -/

/-- The slice value '.slice A n c' holds the cells xs ('size' cells an element) and lies below block B. -/
def Sl (w : World) (B size : Nat) (A : Option Addr) (n : Nat) (xs : List Value) : Prop :=
  xs.length = n * size ∧ (0 < n → ∃ b off, A = some ⟨b, off, none⟩ ∧ b < B ∧ ∀ j u, xs[j]? = some u → w.cell? ⟨b, off + j, none⟩ = some u)

/-- The address behind a cut 's[k:]'. -/
def cutA (A : Option Addr) (c k size : Nat) : Option Addr := if c = k then A else A.map (·.add (k * size))

section
variable {w w' : World} {B B' size n : Nat} {A : Option Addr} {xs : List Value}
theorem Sl.nil_ (w : World) (B size : Nat) (A : Option Addr) : Sl w B size A 0 [] := ⟨by simp, fun h => absurd h (by omega)⟩
theorem Sl.len (h : Sl w B 1 A n xs) : xs.length = n := by have := h.1; omega
theorem Sl.at_ {k : Nat} (h : Sl w B 1 A n xs) (hk : k < n) : ∃ b off u, A = some ⟨b, off, none⟩ ∧ b < B ∧ xs[k]? = some u ∧ w.cell? ⟨b, off + k, none⟩ = some u := by
  obtain ⟨b, off, e, hb, hc⟩ := h.2 (by omega)
  have hl : k < xs.length := by have := h.1; omega
  exact ⟨b, off, xs[k], e, hb, List.getElem?_eq_getElem hl, hc k _ (List.getElem?_eq_getElem hl)⟩
theorem Sl.keep (h : Sl w B size A n xs) (hk : ∀ p : Addr, p.block < B → w'.cell? p = w.cell? p) : Sl w' B size A n xs :=
  ⟨h.1, fun hn => by
    obtain ⟨b, off, e, hb, hc⟩ := h.2 hn
    exact ⟨b, off, e, hb, fun j u hu => (hk _ hb).trans (hc j u hu)⟩⟩
theorem Sl.more (h : Sl w B size A n xs) (hB : B ≤ B') : Sl w B' size A n xs :=
  ⟨h.1, fun hn => by
    obtain ⟨b, off, e, hb, hc⟩ := h.2 hn
    exact ⟨b, off, e, by omega, hc⟩⟩
theorem Sl.below (h : Sl w B size A n xs) (hb : Below B w w') : Sl w' B size A n xs := h.keep fun _ hp => hb.cell hp
theorem Sl.belowN (h : Sl w B size A n xs) {C : Nat} (hb : Below C w w') (hC : B ≤ C) : Sl w' B size A n xs := h.below (hb.mono hC)
theorem Sl.drew (h : Sl w B size A n xs) : Sl w.drew B size A n xs := h
theorem Sl.drewN (h : Sl w B size A n xs) (k : Nat) : Sl (w.drewN k) B size A n xs := h
theorem Sl.alloc (h : Sl w B size A n xs) (hB : B ≤ w.heap.size) (o : Obj) : Sl (w.alloc o) B size A n xs := h.keep fun p hp => World.cell?_alloc_lt w o p (by omega)
theorem Sl.setCell (h : Sl w B size A n xs) {p : Addr} (hB : B ≤ p.block) (u : Value) : Sl (w.setCell p u) B size A n xs :=
  h.keep fun q hq => World.cell?_setCell_other w p q u (fun e => by subst e; omega)
theorem Sl.grown (h : Sl w B size A n xs) {row : Option Nat} (hg : w.grownBy w' row) (hB : B ≤ w.heap.size) (hr : ∀ g, row = some g → B ≤ g) : Sl w' B size A n xs :=
  h.keep fun p hp => World.cell?_of_block (hg.block p.block (by omega) (fun e => by have := hr _ e.symm; omega))
theorem Sl.cut (h : Sl w B size A n xs) {k c : Nat} (hk : k ≤ n) (hc : n ≤ c) : Sl w B size (cutA A c k size) (n - k) (xs.drop (k * size)) := by
  refine ⟨by rw [List.length_drop, h.1, Nat.sub_mul], fun hn => ?_⟩
  obtain ⟨b, off, rfl, hb, hcell⟩ := h.2 (by omega)
  unfold cutA
  rw [if_neg (by omega)]
  refine ⟨b, off + k * size, by rw [Option.map_some, Addr.add_lit], hb, fun j u hu => ?_⟩
  rw [Nat.add_assoc]
  exact hcell _ u (by rw [← hu, List.getElem?_drop])
theorem Sl.upto (h : Sl w B size A n xs) {k : Nat} (hk : k ≤ n) : Sl w B size A k (xs.take (k * size)) := by
  refine ⟨?_, fun hn => ?_⟩
  · rw [List.length_take, h.1]; exact Nat.min_eq_left (Nat.mul_le_mul_right _ hk)
  · obtain ⟨b, off, rfl, hb, hcell⟩ := h.2 (by omega)
    refine ⟨b, off, rfl, hb, fun j u hu => hcell j u ?_⟩
    rw [List.getElem?_take] at hu
    split at hu
    · exact hu
    · cases hu
theorem Sl.of_own {base : Nat} {e : TypeId} {c : Nat} (h : w.ownsRow base e size (.slice A n c) n xs) : Sl w w.heap.size size A n xs := by
  refine ⟨h.1, fun hn => ?_⟩
  rcases h.2 with ⟨_, h0⟩ | ⟨g, cap, cur, hv, _, hh, _⟩
  · omega
  · have hA : A = some ⟨g, 0, none⟩ := by injection hv
    subst hA
    refine ⟨g, 0, rfl, ?_, fun j u hu => ?_⟩
    · rcases Nat.lt_or_ge g w.heap.size with hlt | hge
      · exact hlt
      · rw [Array.getElem?_eq_none hge] at hh; cases hh
    · have := h.cells (g := g) rfl j u hu
      rwa [Addr.add_lit] at this
/-- A row of cells in one block. -/
theorem Sl.of_block {g off : Nat} {cs : Array Value} {t : TypeId} {fr : Nat × Nat} (hg : w.heap[g]? = some (.cells cs t fr)) (hl : xs.length = n * size) (hx : ∀ j u, xs[j]? = some u → cs[off + j]? = some u) : Sl w w.heap.size size (some ⟨g, off, none⟩) n xs := by
  refine ⟨hl, fun _ => ⟨g, off, rfl, ?_, fun j u hu => ?_⟩⟩
  · rcases Nat.lt_or_ge g w.heap.size with hlt | hge
    · exact hlt
    · rw [Array.getElem?_eq_none hge] at hg; cases hg
  · simp [World.cell?, hg, hx j u hu]
end

/-- One new cell; a new row. -/
theorem Sl.one (w : World) (t : TypeId) (v : Value) : Sl (w.alloc (.cells #[v] t)) (w.heap.size + 1) 1 (some ⟨w.heap.size, 0, none⟩) 1 [v] := by
  have h := Sl.of_block (w := w.alloc (.cells #[v] t)) (g := w.heap.size) (off := 0) (size := 1) (n := 1) (xs := [v]) (heap_alloc_new w _) rfl (fun j u hu => by
    match j, hu with
    | 0, hu => simpa using hu)
  simpa using h
theorem Sl.row (w : World) (t : TypeId) (size n : Nat) (l : List Value) (h : l.length = n * size) : Sl (w.alloc (.cells l.toArray t)) (w.heap.size + 1) size (some ⟨w.heap.size, 0, none⟩) n l := by
  have h := Sl.of_block (w := w.alloc (.cells l.toArray t)) (g := w.heap.size) (off := 0) (size := size) (n := n) (xs := l) (heap_alloc_new w _) h (fun j u hu => by
    rw [Nat.zero_add]; simpa using hu)
  simpa using h

/-- The length in a slot that holds a slice: for a loop's measure. -/
def lenOf : Value → Nat | .slice _ n _ => n | _ => 0

/-! ### Bytes -/
/-- The slice value '.slice A n c' holds the bytes l. -/
def By (w : World) (B : Nat) (A : Option Addr) (n : Nat) (l : List UInt8) : Prop := Sl w B 1 A n (Lib.byteCells l)

section
variable {w w' : World} {B B' n : Nat} {A : Option Addr} {l : List UInt8}
theorem By.len (h : By w B A n l) : l.length = n := by have := Sl.len h; simpa [Lib.byteCells] using this
theorem By.nil_ (w : World) (B : Nat) (A : Option Addr) : By w B A 0 [] := Sl.nil_ w B 1 A
theorem By.at_ {k : Nat} (h : By w B A n l) (hk : k < n) : ∃ b off, A = some ⟨b, off, none⟩ ∧ b < B ∧ w.cell? ⟨b, off + k, none⟩ = some (.int .u8 (nth l k)) := by
  obtain ⟨b, off, u, hA, hb, hu, hc⟩ := Sl.at_ h hk
  have hl : k < l.length := by rw [h.len]; exact hk
  refine ⟨b, off, hA, hb, hc.trans ?_⟩
  rw [← hu, nth_of l k hl]
  simp [Lib.byteCells, hl]
theorem By.opn (h : By w B A n l) (hn : 0 < n) : ∃ b off, A = some ⟨b, off, none⟩ ∧ b < B ∧ ∀ k, k < n → w.cell? ⟨b, off + k, none⟩ = some (.int .u8 (nth l k)) := by
  obtain ⟨b, off, hA, hb, hc⟩ := And.right h hn
  refine ⟨b, off, hA, hb, fun k hk => hc k _ ?_⟩
  have hl : k < l.length := by rw [h.len]; exact hk
  rw [nth_of l k hl]
  simp [Lib.byteCells, hl]
theorem By.keep (h : By w B A n l) (hk : ∀ p : Addr, p.block < B → w'.cell? p = w.cell? p) : By w' B A n l := Sl.keep h hk
theorem By.more (h : By w B A n l) (hB : B ≤ B') : By w B' A n l := Sl.more h hB
theorem By.below (h : By w B A n l) (hb : Below B w w') : By w' B A n l := Sl.below h hb
theorem By.belowN (h : By w B A n l) {C : Nat} (hb : Below C w w') (hC : B ≤ C) : By w' B A n l := Sl.belowN h hb hC
theorem By.alloc (h : By w B A n l) (hB : B ≤ w.heap.size) (o : Obj) : By (w.alloc o) B A n l := Sl.alloc h hB o
theorem By.cut (h : By w B A n l) {k c : Nat} (hk : k ≤ n) (hc : n ≤ c) : By w B (cutA A c k 1) (n - k) (l.drop k) := by
  have := Sl.cut h hk hc
  simpa [By, Lib.byteCells, List.map_drop] using this
theorem By.upto (h : By w B A n l) {k : Nat} (hk : k ≤ n) : By w B A k (l.take k) := by
  have := Sl.upto h hk
  simpa [By, Lib.byteCells, List.map_take] using this
theorem By.cut_lit {b off : Nat} (h : By w B (some ⟨b, off, none⟩) n l) {k c : Nat} (hk : k ≤ n) (hc : n ≤ c) : By w B (if c = k then some ⟨b, off, none⟩ else some ⟨b, off + k, none⟩) (n - k) (l.drop k) := by
  have := h.cut hk hc
  unfold cutA at this
  simpa [Addr.add_lit] using this
/-- A block that holds just these bytes (laid by a literal, or by a conversion: with a mark). -/
theorem By.block (w : World) (l : List UInt8) {g n : Nat} {e : TypeId} {fr : Nat × Nat} (hg : g = w.heap.size) (hn : n = l.length := by rfl) : By (w.alloc (.cells (Lib.byteCells l).toArray e fr)) (w.alloc (.cells (Lib.byteCells l).toArray e fr)).heap.size (some ⟨g, 0, none⟩) n l := by
  subst hg; subst hn
  exact Sl.of_block (heap_alloc_new w _) (by simp [Lib.byteCells]) (fun j u hu => by rw [Nat.zero_add]; simpa using hu)
theorem By.of_own {base : Nat} {e : TypeId} {c : Nat} (h : w.ownsRow base e 1 (.slice A n c) n (Lib.byteCells l)) : By w w.heap.size A n l := Sl.of_own h
end

/-! ### Ints -/
/-- The cells of a list of ints that are not below 0. -/
def intCells (l : List Nat) : List Value := l.map fun x : Nat => Value.int .i64 (x : Int)
theorem intCells_len (l : List Nat) : (intCells l).length = l.length := by simp [intCells]
theorem intCells_append (a b : List Nat) : intCells (a ++ b) = intCells a ++ intCells b := by simp [intCells]
theorem intCells_at (l : List Nat) (k : Nat) (h : k < l.length) : (intCells l)[k]? = some (.int .i64 ((l.getD k 0 : Nat) : Int)) := by simp [intCells, h]
theorem oneCell_intCells (l : List Nat) : ∀ u ∈ intCells l, u.oneCell' = true := by
  intro u hu; simp [intCells] at hu; obtain ⟨x, _, rfl⟩ := hu; rfl
theorem oneCell_byteCells (l : List UInt8) : ∀ u ∈ Lib.byteCells l, u.oneCell' = true := by
  intro u hu; simp [Lib.byteCells] at hu; obtain ⟨x, _, rfl⟩ := hu; rfl

/-! ### Bits of int -/
theorem ofInt_i64 (a : Nat) (ha : a < 9223372036854775808) : (BitVec.ofInt 64 (a : Int)).toNat = a := by
  rw [BitVec.ofInt_natCast, BitVec.toNat_ofNat]; exact Nat.mod_eq_of_lt (by omega)
theorem i64_and (a b : Nat) (ha : a < 9223372036854775808) (hb : b < 9223372036854775808) : bits .and .i64 (a : Int) (b : Int) = ((a &&& b : Nat) : Int) := by
  have hx : a &&& b < 2 ^ 63 := Nat.and_lt_two_pow _ (by omega)
  show IntKind.i64.wrap ((BitVec.ofInt 64 (a : Int) &&& BitVec.ofInt 64 (b : Int)).toNat : Int) = _
  rw [BitVec.toNat_and, ofInt_i64 a ha, ofInt_i64 b hb, IntKind.wrap_i64]
  omega
theorem i64_or (a b : Nat) (ha : a < 9223372036854775808) (hb : b < 9223372036854775808) : bits .or .i64 (a : Int) (b : Int) = ((a ||| b : Nat) : Int) := by
  have hx : a ||| b < 2 ^ 63 := Nat.or_lt_two_pow (by omega) (by omega)
  show IntKind.i64.wrap ((BitVec.ofInt 64 (a : Int) ||| BitVec.ofInt 64 (b : Int)).toNat : Int) = _
  rw [BitVec.toNat_or, ofInt_i64 a ha, ofInt_i64 b hb, IntKind.wrap_i64]
  omega
theorem or_low (a b k : Nat) (hb : b < 2 ^ k) : (a * 2 ^ k) ||| b = a * 2 ^ k + b := by
  rw [Nat.mul_comm, Nat.two_pow_add_eq_or_of_lt hb]
theorem or_low8 (a b : Nat) (hb : b < 256) : (a * 256) ||| b = a * 256 + b := or_low a b 8 (by omega)
theorem and_63 (a : Nat) : a &&& 63 = a % 64 := Nat.and_two_pow_sub_one_eq_mod a 6

/-! ### Operations that make memory, said by lists -/
section
variable {P : Program}

/-- '[]byte(s)'. -/
theorem run_toBytes (w : World) (src dst e : TypeId) (l : List UInt8) (hs : P.underlying src = some .string) (hd : P.underlying dst = some (.slice e)) (he : P.underlying e = some (.int .u8)) :
    ∃ A c w', (convert src dst (str l)).run P w = .ok (.slice A l.length c) w' ∧ By w' w'.heap.size A l.length l ∧ l.length ≤ c ∧ Below w.heap.size w w' ∧ w.heap.size < w'.heap.size := by
  refine ⟨_, _, _, run_bytes_of_string w src dst e ⟨l.toArray⟩ hs hd he, ?_, ?_, ?_, ?_⟩
  · refine Sl.of_block (g := w.heap.size) (heap_alloc_new w.drew _) (by simp [Lib.byteCells]) fun j u hu => ?_
    rw [Nat.zero_add]
    have hj : j < l.length := by
      rcases Nat.lt_or_ge j l.length with h | h
      · exact h
      · simp [Lib.byteCells, List.getElem?_eq_none h] at hu
    rw [bytesRow_at ⟨l.toArray⟩ _ j (by simpa using hj)]
    simp [Lib.byteCells, hj] at hu
    simpa using hu
  · exact grownCap_ge _ _ _ _
  · exact (Below.drew (Below.refl _ w)).alloc (Nat.le_refl _) _
  · simp

/-- 'string(b)'. -/
theorem run_toStr (w : World) (src dst e : TypeId) (B : Nat) (A : Option Addr) (n c : Nat) (l : List UInt8) (hb : By w B A n l) (hs : P.underlying src = some (.slice e)) (he : P.underlying e = some (.int .u8)) (hd : P.underlying dst = some .string) :
    (convert src dst (.slice A n c)).run P w = .ok (str l) w := by
  have hl := hb.len
  subst hl
  rcases Nat.eq_zero_or_pos l.length with h0 | h0
  · have hnil : l = [] := List.eq_nil_of_length_eq_zero h0
    subst hnil
    cases A with
    | none => rw [run_convert_bytes_nil w src e hs he _ _ dst hd]; rfl
    | some a => exact run_convert_bytes_back w src dst e a c [] hs he hd (fun j hj => absurd hj (by simp))
  · obtain ⟨b, off, rfl, _, hc⟩ := hb.2 h0
    refine run_convert_bytes_back w src dst e ⟨b, off, none⟩ c l hs he hd (fun j hj => ?_)
    rw [Addr.add_lit]
    exact hc j _ (by simp [Lib.byteCells, hj])
theorem elem_of {t e : TypeId} (ht : P.underlying t = some (.slice e)) : P.elem t = e := by
  simp [Program.elem, ht]
/-- 's[k:]'. -/
theorem run_cut (w : World) (t e : TypeId) (size : Nat) (ht : P.underlying t = some (.slice e)) (hs : (sizeOf e).run P w = .ok size w) (A : Option Addr) (n c : Nat) (ki : IntKind) (k : Int) (h0 : 0 ≤ k) (h1 : k ≤ n) :
    (Instr.slice t (.slice A n c) (some (.int ki k)) none none).run P w = .ok (.slice (cutA A c k.toNat size) (n - k.toNat) (c - k.toNat)) w := by
  have he := elem_of ht
  rw [run_slice_l w t A n c (by rw [he]; exact ht) ki k h0 h1, he, hs]
  rfl
/-- 's[:k]'. -/
theorem run_upto (w : World) (t e : TypeId) (size : Nat) (ht : P.underlying t = some (.slice e)) (hs : (sizeOf e).run P w = .ok size w) (A : Option Addr) (n c : Nat) (ki : IntKind) (k : Int) (h0 : 0 ≤ k) (h1 : k ≤ n) (hc : n ≤ c) :
    (Instr.slice t (.slice A n c) none (some (.int ki k)) none).run P w = .ok (.slice (cutA A c 0 size) k.toNat c) w := by
  have he := elem_of ht
  rw [run_slice_h w t A n c (by rw [he]; exact ht) ki k h0 (by omega), he, hs]
  rfl
/-- 's[i:j]'. -/
theorem run_mid (w : World) (t e : TypeId) (size : Nat) (ht : P.underlying t = some (.slice e)) (hs : (sizeOf e).run P w = .ok size w) (A : Option Addr) (n c : Nat) (ki kj : IntKind) (i j : Int) (h0 : 0 ≤ i) (h1 : i ≤ j) (h2 : j ≤ n) (hc : n ≤ c) :
    (Instr.slice t (.slice A n c) (some (.int ki i)) (some (.int kj j)) none).run P w = .ok (.slice (cutA A c i.toNat size) (j.toNat - i.toNat) (c - i.toNat)) w := by
  have he := elem_of ht
  rw [run_slice_lh w t A n c (by rw [he]; exact ht) ki kj i j h0 h1 (by omega), he, hs]
  rfl

/-- 'append(s, x...)' onto a slice of the call's own: whatever is appended, nil and empty too. -/
theorem run_app (w : World) (base : Nat) (t ty e : TypeId) (i : TypeInfo) (z : Value) (size bytes : Nat) (ht : P.underlying t = some (.slice e)) (hi : P.info? e = some i) (hz : i.zero = some z)
    (hsize : i.size = size) (hby : i.bytes = bytes) (hzs : z.cells.size = size) (hsz : 0 < size)
    (S : Option Addr) (n cs : Nat) (xs : List Value) (hown : w.ownsRow base e size (.slice S n cs) n xs)
    (B : Nat) (A : Option Addr) (m c : Nat) (news : List Value) (hr : Sl w B size A m news) (h1 : ∀ u ∈ news, u.oneCell' = true)
    (h63 : n + m ≤ maxLen) (hbytes : (n + m) * bytes ≤ 140737488355328) (hbase : base ≤ w.heap.size) :
    ∃ S' c' w', (Builtin.append_ #[t, t] ty #[.slice S n cs, .slice A m c]).run P w = .ok (.slice S' (n + m) c') w' ∧ w'.ownsRow base e size (.slice S' (n + m) c') (n + m) (xs ++ news) ∧
      w.grownBy w' (Value.ownBlock (.slice S n cs)) ∧ (Value.ownBlock (.slice S' (n + m) c') = Value.ownBlock (.slice S n cs) ∨ Value.ownBlock (.slice S' (n + m) c') = some w.heap.size) := by
  have form : ∀ {v : Value} {w' : World} {k : Nat} {ys : List Value}, w'.ownsRow base e size v k ys → ∃ S' c', v = .slice S' k c' := by
    intro v w' k ys h
    rcases h.2 with ⟨hv, h0⟩ | ⟨g, cap, cur, hv, _⟩
    · exact ⟨none, 0, by rw [hv, h0]⟩
    · exact ⟨_, _, hv⟩
  rcases A with _ | ad
  · have hm : m = 0 := by
      rcases Nat.eq_zero_or_pos m with h0 | h0
      · exact h0
      · obtain ⟨_, _, h, _⟩ := hr.2 h0
        cases h
    subst hm
    have hn : news = [] := List.eq_nil_of_length_eq_zero (by simpa using hr.1)
    subst hn
    refine ⟨S, cs, w, ?_, by simpa using hown, World.grownBy.refl w _, .inl rfl⟩
    rcases hown.2 with ⟨hv, h0⟩ | ⟨g, cap, cur, hv, _, _, hnc, _⟩
    · injection hv with hS hn0 hcs
      subst hS; subst hn0; subst hcs
      simp [Builtin.append_, run_underlying ht, sizeOf, typeInfo, hi, Builtin.lenOf, Builtin.firstCells]
    · injection hv with hS hn0 hcs
      subst hS; subst hcs
      simp [Builtin.append_, run_underlying ht, sizeOf, typeInfo, hi, Builtin.lenOf, Builtin.firstCells, hnc, storeCells]
  · have hcells : ∀ j u, news[j]? = some u → w.cell? (ad.add j) = some u := by
      intro j u hu
      rcases Nat.eq_zero_or_pos m with h0 | h0
      · subst h0
        have hn : news = [] := List.eq_nil_of_length_eq_zero (by simpa using hr.1)
        subst hn
        simp at hu
      · obtain ⟨b, off, h, _, hc⟩ := hr.2 h0
        injection h with h
        subst h
        rw [Addr.add_lit]
        exact hc j u hu
    obtain ⟨v', w', hrun, h2, h3, _, h5⟩ := run_append_own_at (P := P) w base t ty e i z size bytes ht hi hz hsize hby hzs hsz _ n xs hown ad m c news hr.1 hcells h1 h63 hbytes hbase
    obtain ⟨S', c', rfl⟩ := form h2
    exact ⟨S', c', w', hrun, h2, h3, h5⟩

theorem wpList_app {w : World} {ops : Array Oper} {rest : List Oper} {o : Oper} {a : Act} {Q : Exit → Act → World → Prop} (hgd : o.guard = none) (s x : Operand) (t : TypeId)
    (ho : o.op = .call { callee := .builtin .append, args := #[s, x], argTypes := #[t, t] })
    (base : Nat) (e : TypeId) (i : TypeInfo) (z : Value) (size bytes : Nat) (ht : P.underlying t = some (.slice e)) (hi : P.info? e = some i) (hz : i.zero = some z)
    (hsize : i.size = size) (hby : i.bytes = bytes) (hzs : z.cells.size = size) (hsz : 0 < size)
    (S : Option Addr) (n cs : Nat) (xs : List Value) (hs : a.eval s = .slice S n cs) (hown : w.ownsRow base e size (.slice S n cs) n xs)
    (B : Nat) (A : Option Addr) (m c : Nat) (news : List Value) (hx : a.eval x = .slice A m c) (hr : Sl w B size A m news) (h1 : ∀ u ∈ news, u.oneCell' = true)
    (h63 : n + m ≤ maxLen) (hbytes : (n + m) * bytes ≤ 140737488355328) (hbase : base ≤ w.heap.size)
    (h : ∀ S' c' w', w'.ownsRow base e size (.slice S' (n + m) c') (n + m) (xs ++ news) → Below base w w' → w.grownBy w' (Value.ownBlock (.slice S n cs)) → wpList P ops Q rest (a.put o.dst (.slice S' (n + m) c')) w') : wpList P ops Q (o :: rest) a w := by
  refine wpList_plain hgd fun K hK => ?_
  obtain ⟨S', c', w', hrun, h2, h3, h4⟩ := run_app (P := P) w base t o.type e i z size bytes ht hi hz hsize hby hzs hsz S n cs xs hown B A m c news hr h1 h63 hbytes hbase
  unfold Oper.wp execOp
  simp only [ho, resolve, invoke, builtin, Sem.run_bind, Sem.run_pure, Result.andThen_ok, List.map_toArray, List.map_cons, List.map_nil, hs, hx, hrun]
  exact hK _ _ (h S' c' w' h2 ((Below.refl base w).grown h3 hbase (fun k hk => (hown.lt k hk).1)) h3)

/-- A slice expression whose run is known. -/
theorem wpList_slice {w w' : World} {v : Value} {ops : Array Oper} {rest : List Oper} {o : Oper} {a : Act} {Q : Exit → Act → World → Prop} (hgd : o.guard = none) (t : TypeId) (x : Operand) (lo hi mx : Option Operand)
    (ho : o.op = .slice t x lo hi mx) (hrun : (Instr.sliceAt t (a.eval x) (lo.map a.eval) (hi.map a.eval) (mx.map a.eval)).run P w = .ok v w') (hk : wpList P ops Q rest (a.put o.dst v) w') : wpList P ops Q (o :: rest) a w := by
  refine wpList_plain hgd fun K hK => ?_
  unfold Oper.wp execOp
  simp only [ho, Sem.run_bind, hrun, Result.andThen_ok, Sem.run_pure]
  exact hK _ _ hk
end
end Go.Proofs.YtacecobfhaihhaaDoor

namespace Go.Proofs.YtacecobfhaihhaaDoor
open Go.ChangeShapes Go.WideShapes Go.ChangeAt Go.RowKit
open Go.ChangeMaps (open_string shut_string)

theorem own : ownKnob Tryd.prog.godebug = none := by kernel_rfl
theorem laidOut : laidOutB Tryd.prog = true := by kernel_rfl

theorem bd64 {n : Int} (h : (Lit.int .i64 n).wf = true) : -9223372036854775808 ≤ n ∧ n ≤ 9223372036854775807 := bounds_i64 h

/-- What the walk is told of a slice of integers that came in. -/
def IsRow (k : IntKind) (w : World) (a : Option Addr) (len cap : Nat) (zs : List Int) : Prop :=
  (a = none ∧ len = 0 ∧ cap = 0 ∧ zs = []) ∨
  ∃ x, a = some x ∧ len ≤ cap ∧ cap ≤ maxLen ∧ zs.length = cap ∧ (∀ i, i < zs.length → w.cell? (x.add i) = some (.int k (zs.getD i 0))) ∧ ∀ n ∈ zs, (Lit.int k n).wf = true

theorem cell_lt {w : World} {a : Addr} {v : Value} (h : w.cell? a = some v) : a.block < w.heap.size := by
  rcases Nat.lt_or_ge a.block w.heap.size with h' | h'
  · exact h'
  · simp [World.cell?, Array.getElem?_eq_none h'] at h

/-- A slice of bytes that came in, as a list of bytes. -/
theorem IsRow.toBy {w : World} {a : Option Addr} {len cap : Nat} {zs : List Int} (h : IsRow .u8 w a len cap zs) : ∃ l, By w w.heap.size a len l ∧ len ≤ cap ∧ cap ≤ maxLen := by
  rcases h with ⟨rfl, rfl, rfl, rfl⟩ | ⟨x, rfl, hl, hm, hz, hcell, hwf⟩
  · exact ⟨[], By.nil_ _ _ _, Nat.le_refl _, Nat.zero_le _⟩
  · refine ⟨(zs.take len).map fun z => UInt8.ofNat z.toNat, ⟨by simp [Lib.byteCells]; omega, fun h0 => ?_⟩, hl, hm⟩
    obtain ⟨b, off, rfl, hc⟩ := ints_at hcell (by omega)
    refine ⟨b, off, rfl, ?_, fun j u hu => ?_⟩
    · exact cell_lt (hc 0 (by omega))
    · have hj : j < len := by
        rcases Nat.lt_or_ge j len with h' | h'
        · exact h'
        · rw [List.getElem?_eq_none (by simp [Lib.byteCells]; omega)] at hu; cases hu
      have hjz : j < zs.length := by omega
      rw [hc j hjz]
      have hmem : zs[j] ∈ zs := List.getElem_mem hjz
      have hb := bounds_u8 (hwf _ hmem)
      have e : ((UInt8.ofNat zs[j].toNat).toNat : Int) = zs[j] := by rw [UInt8.toNat_ofNat']; omega
      have e2 : (Lib.byteCells ((zs.take len).map fun z => UInt8.ofNat z.toNat))[j]? = some (.int .u8 ((UInt8.ofNat zs[j].toNat).toNat : Int)) := by
        simp [Lib.byteCells, hj, hjz]
      rw [e2] at hu
      rw [← hu, e]
      simp [List.getD, hjz]
end Go.Proofs.YtacecobfhaihhaaDoor

namespace Go.Proofs.YtacecobfhaihhaaDoor
open Go.RowKit

/-- A builder of the call's own, in block b, that holds the bytes l. -/
def Bld (b : Nat) (l : List UInt8) (w : World) : Prop := Lib.IsBuilder 92 5 b b (Lib.byteCells l) w

theorem byteCells_append (a b : List UInt8) : Lib.byteCells (a ++ b) = Lib.byteCells a ++ Lib.byteCells b := by simp [Lib.byteCells]
theorem byteCells_len (l : List UInt8) : (Lib.byteCells l).length = l.length := by simp [Lib.byteCells]
theorem strCells_str (l : List UInt8) : Lib.strCells ⟨l.toArray⟩ = Lib.byteCells l := rfl

theorem Bld.fresh (w : World) : Bld w.heap.size [] (w.alloc (.cells #[.pointer none, .slice none 0 0] 92)) := Lib.fresh_isBuilder _ _ w
theorem BuilderAt.lt {T e : TypeId} {B b : Nat} {p : Value} {bs : List Value} {w : World} (h : Lib.BuilderAt T e B b p bs w) : b < w.heap.size := Lib.BuilderAt.lt h
theorem BuilderAt.below {T e : TypeId} {B b : Nat} {p : Value} {bs : List Value} {w w' : World} (h : Lib.BuilderAt T e B b p bs w) (hb : Below w.heap.size w w') : Lib.BuilderAt T e B b p bs w' := by
  have hlt := Lib.BuilderAt.lt h
  obtain ⟨hB, v, hbk, hown, hne⟩ := h
  exact ⟨hB, v, (hb.block b hlt).trans hbk, hown.kept (row := none) ⟨hb.os, hb.tape, hb.output, hb.size, fun k hk _ => hb.block k hk⟩ (by cases h : v.ownBlock <;> simp), hne⟩
theorem Bld.lt {b : Nat} {l : List UInt8} {w : World} (h : Bld b l w) : b < w.heap.size := by rcases h with h | h <;> exact Lib.BuilderAt.lt h
theorem Bld.below {b : Nat} {l : List UInt8} {w w' : World} (h : Bld b l w) (hb : Below w.heap.size w w') : Bld b l w' := by
  rcases h with h | h
  · exact .inl (BuilderAt.below h hb)
  · exact .inr (BuilderAt.below h hb)
theorem Bld.len_le {b : Nat} {l : List UInt8} {w : World} (h : Bld b l w) : l.length ≤ maxLen := by
  have key : ∀ p, Lib.BuilderAt 92 5 b b p (Lib.byteCells l) w → l.length ≤ maxLen := by
    rintro p ⟨_, v, _, hown, _⟩
    have hl : (Lib.byteCells l).length = l.length := by simp [Lib.byteCells]
    rcases hown.2 with ⟨_, h0⟩ | ⟨g, cap, cur, _, _, _, hnc, hcm, _⟩
    · omega
    · omega
  rcases h with h | h <;> exact key _ h

theorem infoByte : (Tryd.prog.info? 5).map (fun i => (i.zero, i.size, i.bytes)) = some (some (.int .u8 0), 1, 1) := by kernel_rfl
theorem sizeBuilder : (Tryd.prog.info? 92).map (fun i => i.size) = some 2 := by kernel_rfl
theorem liesBuilder : liesAt Tryd.prog Tryd.prog.depth 92 (2 / Tryd.prog.cellsOf 92) 0 92 1 = true := by kernel_rfl

set_option maxHeartbeats 1000000 in
set_option maxRecDepth 100000 in
theorem copyCheck_used (b : Nat) (w : World) (h0 : w.cell? ⟨b, 0, none⟩ = some (.pointer (some ⟨b, 0, none⟩))) :
    Calls Tryd.prog 116 #[.pointer (some ⟨b, 0, none⟩)] w fun e w' => e = .returned (.tuple #[]) ∧ w' = w := by
  obtain ⟨j, hj, _⟩ := Option.map_eq_some_iff.1 sizeBuilder
  go_enter Tryd.func116, Tryd.ntmps116
  go_wp2
  rw [Lib.run_neq_ptr_same w _ Tryd.underlying90 hj]
  go_wp2
  go_end0
  exact ⟨rfl, rfl⟩

set_option maxHeartbeats 1000000 in
set_option maxRecDepth 100000 in
theorem copyCheck_fresh (b : Nat) (w : World) (h0 : w.cell? ⟨b, 0, none⟩ = some (.pointer none)) (hsh : w.shape? b = some (92, 2)) (hfz : w.frozen? ⟨b, 0, none⟩ = false) :
    Calls Tryd.prog 116 #[.pointer (some ⟨b, 0, none⟩)] w fun e w' => e = .returned (.tuple #[]) ∧ w' = w.setCell ⟨b, 0, none⟩ (.pointer (some ⟨b, 0, none⟩)) := by
  obtain ⟨j, hj, hjs⟩ := Option.map_eq_some_iff.1 sizeBuilder
  go_enter Tryd.func116, Tryd.ntmps116
  go_wp2
  rw [Lib.run_to_unsafe w ⟨b, 0, none⟩ Tryd.underlying90 Tryd.underlying137 hj (by rw [hjs]; decide) hsh (Nat.zero_lt_succ 1)]
  simp only [Result.andThen]
  rw [Oper.upon_value]
  go_wp2
  rw [run_callFunc_extern Tryd.func131 (by kernel_rfl) (by kernel_rfl) (by kernel_rfl) (e := Extern.AbiNoEscape.same) (by kernel_rfl)]
  rw [Lib.run_noEscape]
  simp only [Result.andThen]
  rw [Oper.upon_value]
  go_wp2
  rw [Lib.run_from_unsafe w ⟨b, 0, none⟩ Tryd.underlying137 Tryd.underlying90 hj hsh liesBuilder]
  simp only [Result.andThen]
  rw [Oper.upon_value]
  go_wp2
  go_end0
  exact ⟨rfl, rfl⟩

theorem copyCheck_any (B b : Nat) (bs : List Value) (w : World) (h : Lib.IsBuilder 92 5 B b bs w) :
    Calls Tryd.prog 116 #[.pointer (some ⟨b, 0, none⟩)] w fun e w' => e = .returned (.tuple #[]) ∧ (Lib.BuilderAt 92 5 B b (.pointer (some ⟨b, 0, none⟩)) bs w' ∧ Below B w w') := by
  rcases h with h | h
  · refine (copyCheck_fresh b w h.cell0 h.shape h.frozen0).mono ?_
    rintro e w' ⟨rfl, rfl⟩
    exact ⟨rfl, h.used _, (Below.refl B w).setCell (p := ⟨b, 0, none⟩) h.1 _⟩
  · refine (copyCheck_used b w h.cell0).mono ?_
    rintro e w' ⟨rfl, rfl⟩
    exact ⟨rfl, h, Below.refl B _⟩

set_option maxHeartbeats 2000000 in
set_option maxRecDepth 100000 in
theorem WriteByte_any (b : Nat) (l : List UInt8) (x : Int) (w : World) (h : Bld b l w) (h0 : 0 ≤ x) (h1 : x < 256) (hlen : l.length + 1 ≤ 140737488355328) :
    Calls Tryd.prog 126 #[.pointer (some ⟨b, 0, none⟩), .int .u8 x] w fun e w' => e = .returned .nilIface ∧ Bld b (l ++ [UInt8.ofNat x.toNat]) w' ∧ Below b w w' := by
  obtain ⟨i0, hi, hz0, hz1, hz2⟩ := info_parts infoByte
  have hbw := h.lt
  go_enter Tryd.func126, Tryd.ntmps126
  go_wp2_with (go_at_call 116; refine (copyCheck_any b b _ _ h).mono ?_)
  rintro e w1 ⟨rfl, h1', hb1⟩
  obtain ⟨hB, v, hbk, hown, hne⟩ := h1'
  have c0 : w1.cell? ⟨b, 0, none⟩ = some (.pointer (some ⟨b, 0, none⟩)) := by rw [Lib.cell_of_heap hbk]; rfl
  have c1 : w1.cell? ⟨b, 1, none⟩ = some v := by rw [Lib.cell_of_heap hbk]; rfl
  go_wp2_with (at_builtin; refine wpList_append_own _ rfl _ _ 22 rfl b 5 i0 (.int .u8 0) 1 1 Tryd.underlying22 hi hz0 hz1 hz2 rfl (by decide) _ _ _ rfl (hown.alloc _) ⟨w1.heap.size, 0, none⟩ 1 1 [.int .u8 x] rfl rfl ?c1 ?c2 ?c3 ?c4 ?c5 ?_)
  case c1 =>
    intro j u hj
    match j, hj with
    | 0, hj => simp at hj; subst hj; simp [Addr.add]
  case c2 => intro u hu; simp at hu; subst hu; rfl
  case c3 => have := byteCells_len l; unfold maxLen; omega
  case c4 => have := byteCells_len l; omega
  case c5 => have := hb1.size; simp; omega
  intro v' w2 hown' hgrow _
  have hlt : b < w1.heap.size := by
    rcases Nat.lt_or_ge b w1.heap.size with h' | h'
    · exact h'
    · simp [Array.getElem?_eq_none h'] at hbk
  have hb2 : w2.heap[b]? = some (.cells #[.pointer (some ⟨b, 0, none⟩), v] 92 (0, 0)) := by
    rw [hgrow.block b (by simp; omega) (fun e => hne e.symm), Lib.alloc_old w1 _ b hlt]
    exact hbk
  have d0 : w2.cell? ⟨b, 0, none⟩ = some (.pointer (some ⟨b, 0, none⟩)) := by rw [Lib.cell_of_heap hb2]; rfl
  have d1 : w2.cell? ⟨b, 1, none⟩ = some v := by rw [Lib.cell_of_heap hb2]; rfl
  have f1 : w2.frozen? ⟨b, 1, none⟩ = false := Lib.frozen_of_heap hb2 1
  obtain ⟨g, cap, rfl⟩ : ∃ g cap, v' = .slice (some ⟨g, 0, none⟩) ((Lib.byteCells l).length + 1) cap := by
    rcases hown'.2 with ⟨_, h0⟩ | ⟨g, cap, cur, hv, _⟩
    · omega
    · exact ⟨g, cap, hv⟩
  go_wp2
  go_ret
  have hx : Lib.byteCells (l ++ [UInt8.ofNat x.toNat]) = Lib.byteCells l ++ [.int .u8 x] := by
    have : ((UInt8.ofNat x.toNat).toNat : Int) = x := by
      rw [UInt8.toNat_ofNat']; have : x.toNat % 2 ^ 8 = x.toNat := Nat.mod_eq_of_lt (by omega)
      omega
    rw [byteCells_append]
    show _ ++ [Value.int .u8 ((UInt8.ofNat x.toNat).toNat : Int)] = _
    rw [this]
  refine ⟨rfl, ?_, ?_⟩
  · unfold Bld
    rw [hx]
    exact .inr (Lib.BuilderAt.put (T := 92) (e := 5) hB hb2 (bs' := Lib.byteCells l ++ [.int .u8 x]) (by simpa using hown') (by decide))
  · exact ((hb1.alloc (by have := hb1.size; omega) _).grown hgrow (by have := hb1.size; simp; omega) (fun k hk => (hown.lt k hk).1)).setCell (p := ⟨b, 1, none⟩) hB _

set_option maxHeartbeats 2000000 in
set_option maxRecDepth 100000 in
theorem WriteString_any (b : Nat) (l s : List UInt8) (w : World) (h : Bld b l w) (hlen : l.length + s.length ≤ 140737488355328) :
    Calls Tryd.prog 84 #[.pointer (some ⟨b, 0, none⟩), str s] w fun e w' => e = .returned (.tuple #[.int .i64 s.length, .nilIface]) ∧ Bld b (l ++ s) w' ∧ Below b w w' := by
  obtain ⟨i0, hi, hz0, hz1, hz2⟩ := info_parts infoByte
  have hbw := h.lt
  rw [str_eq]
  go_enter Tryd.func84, Tryd.ntmps84
  go_wp2_with (go_at_call 116; refine (copyCheck_any b b _ _ h).mono ?_)
  rintro e w1 ⟨rfl, h1, hb1⟩
  obtain ⟨hB, v, hbk, hown, hne⟩ := h1
  have c0 : w1.cell? ⟨b, 0, none⟩ = some (.pointer (some ⟨b, 0, none⟩)) := by rw [Lib.cell_of_heap hbk]; rfl
  have c1 : w1.cell? ⟨b, 1, none⟩ = some v := by rw [Lib.cell_of_heap hbk]; rfl
  go_wp2_with (at_builtin; refine Lib.wpList_append_own_string _ rfl _ _ 22 9 rfl b 5 i0 Tryd.underlying22 Tryd.underlying9 hi hz0 hz1 hz2 _ _ _ rfl hown ⟨s.toArray⟩ rfl ?c3 ?c4 ?c5 ?_)
  case c3 => have := byteCells_len l; simp [ByteArray.size]; unfold maxLen; omega
  case c4 => have := byteCells_len l; simp [ByteArray.size]; omega
  case c5 => have := hb1.size; omega
  intro v' w2 hown' hgrow _
  have hlt : b < w1.heap.size := by
    rcases Nat.lt_or_ge b w1.heap.size with h' | h'
    · exact h'
    · simp [Array.getElem?_eq_none h'] at hbk
  have hb2 : w2.heap[b]? = some (.cells #[.pointer (some ⟨b, 0, none⟩), v] 92 (0, 0)) := by
    rw [hgrow.block b hlt (fun e => hne e.symm)]
    exact hbk
  have d0 : w2.cell? ⟨b, 0, none⟩ = some (.pointer (some ⟨b, 0, none⟩)) := by rw [Lib.cell_of_heap hb2]; rfl
  have d1 : w2.cell? ⟨b, 1, none⟩ = some v := by rw [Lib.cell_of_heap hb2]; rfl
  have f1 : w2.frozen? ⟨b, 1, none⟩ = false := Lib.frozen_of_heap hb2 1
  obtain ⟨ao, n', cap, rfl⟩ : ∃ ao n' cap, v' = .slice ao n' cap := by
    rcases hown'.2 with ⟨hv, _⟩ | ⟨g, cap, cur, hv, _⟩
    · exact ⟨_, _, _, hv⟩
    · exact ⟨_, _, _, hv⟩
  go_wp2
  go_ret2
  refine ⟨by simp, ?_, ?_⟩
  · unfold Bld
    rw [byteCells_append]
    exact .inr (Lib.BuilderAt.put (T := 92) (e := 5) hB hb2 (bs' := Lib.byteCells l ++ Lib.byteCells s) (by simpa [ByteArray.size, strCells_str, byteCells_len] using hown') (by decide))
  · exact (hb1.grown hgrow (by have := hb1.size; omega) (fun k hk => (hown.lt k hk).1)).setCell (p := ⟨b, 1, none⟩) hB _

theorem String_any (b : Nat) (l : List UInt8) (w : World) (h : Bld b l w) :
    Calls Tryd.prog 85 #[.pointer (some ⟨b, 0, none⟩)] w fun e w' => e = .returned (str l) ∧ Below b w w' :=
  (Go.Proofs.Tryd.Builder_String_any b b l w h (Nat.le_of_lt h.lt)).mono fun _ _ h => h

end Go.Proofs.YtacecobfhaihhaaDoor

namespace Go.Proofs.YtacecobfhaihhaaDoor
open Go.RowKit

theorem own_below {w w' : World} {base : Nat} {e : TypeId} {size : Nat} {v : Value} {n : Nat} {xs : List Value} (h : w.ownsRow base e size v n xs) (hb : Below w.heap.size w w') : w'.ownsRow base e size v n xs :=
  h.kept (row := none) ⟨hb.os, hb.tape, hb.output, hb.size, fun k hk _ => hb.block k hk⟩ (by cases h : v.ownBlock <;> simp)

theorem own_cap {w : World} {base : Nat} {e : TypeId} {size : Nat} {S : Option Addr} {n c : Nat} {xs : List Value} (h : w.ownsRow base e size (.slice S n c) n xs) : n ≤ c := by
  rcases h.2 with ⟨hv, h0⟩ | ⟨g', cap', cur', hv', _, _, hnc', _⟩
  · omega
  · injection hv' with _ _ hcc; omega
theorem one_u8 (x : Int) : ∀ u ∈ [Value.int .u8 x], u.oneCell' = true := by intro u hu; simp at hu; subst hu; rfl
theorem two_u8 (x y : Int) : ∀ u ∈ [Value.int .u8 x, Value.int .u8 y], u.oneCell' = true := by intro u hu; simp at hu; rcases hu with rfl | rfl <;> rfl
theorem news_one (w : World) (t : TypeId) (v : Value) : ∀ j u, [v][j]? = some u → (w.alloc (.cells #[v] t)).cell? ((⟨w.heap.size, 0, none⟩ : Addr).add j) = some u := by
  intro j u hj
  match j, hj with
  | 0, hj => simp at hj; subst hj; simp [Addr.add]
theorem wrap_u8N (z : Nat) (h : z < 256) : IntKind.u8.wrap (z : Int) = (z : Int) := by
  rw [IntKind.wrap_u8]; omega
theorem byte_cell (x : Nat) (h : x < 256) : Lib.byteCells [UInt8.ofNat x] = [.int .u8 (x : Int)] := by
  have : (UInt8.ofNat x).toNat = x := by rw [UInt8.toNat_ofNat']; omega
  simp [Lib.byteCells]
  omega

/-! ### The library's texts, by lists of bytes -/
theorem cut_one_yes {l : List UInt8} {c : UInt8} {k : Nat} (h : Lib.indexByte l c = (k : Int)) : Lib.cut l [c] = (l.take k, l.drop (k + 1), true) := by
  unfold Lib.cut
  rw [Lib.index_one, h, if_pos (by omega)]
  simp
theorem cut_one_no {l : List UInt8} {c : UInt8} (h : Lib.indexByte l c < 0) : Lib.cut l [c] = (l, [], false) := by
  unfold Lib.cut
  rw [Lib.index_one, if_neg (by omega)]

set_option maxHeartbeats 400000 in
theorem sliteCut_one (l : List UInt8) (c : UInt8) (w : World) (hl : l.length ≤ maxLen) :
    Calls Tryd.prog 91 #[str l, .string ⟨#[c]⟩] w fun e w' => e = .returned (.tuple #[str (Lib.cut l [c]).1, str (Lib.cut l [c]).2.1, .bool (Lib.cut l [c]).2.2]) ∧ ∃ q, w' = w.drewN q := by
  unfold maxLen at hl
  have hge := Lib.indexByte_ge l c
  by_cases h0 : 0 ≤ Lib.indexByte l c
  · obtain ⟨k, hk⟩ := Int.eq_ofNat_of_zero_le h0
    have hlt : k < l.length := by
      have := (Lib.indexByte_some hk).1
      rcases Nat.lt_or_ge k l.length with h | h
      · exact h
      · rw [List.getElem?_eq_none h] at this; cases this
    have hidx := fun W => Go.Proofs.Tryd.stringslite_Index_one ⟨l.toArray⟩ c W
    rw [show (⟨l.toArray⟩ : ByteArray).data.toList = l from rfl, hk] at hidx
    rw [cut_one_yes hk]
    have Hidx := Lib.hid hidx
    clear hidx hk h0 hge
    go_enter Tryd.func91, Tryd.ntmps91
    go_wp2_with fail
    refine (Hidx.out _).mono ?_
    rintro e w1 ⟨rfl, rfl⟩
    go_wp2_with fail
    have i1 : IntKind.i64.wrap ((k : Int) + 1) = (k : Int) + 1 := IntWalk.i64_in _ (by omega)
    have i2 : 0 ≤ (k : Int) + 1 := by omega
    have i3 : ((k : Int) + 1).toNat = k + 1 := by omega
    have i4 : (k : Int) + 1 ≤ l.length := by omega
    have i5 : (k : Int) ≤ l.length := by omega
    go_quiet (fail)
    clear i1 i2 i3 i4 i5
    go_wp2_with fail
    go_ret3
    exact ⟨rfl, _, rfl⟩
  · have hidx := fun W => Go.Proofs.Tryd.stringslite_Index_one ⟨l.toArray⟩ c W
    rw [show (⟨l.toArray⟩ : ByteArray).data.toList = l from rfl, show Lib.indexByte l c = -1 by omega] at hidx
    rw [cut_one_no (by omega)]
    have Hidx := Lib.hid hidx
    clear hidx hge h0
    go_enter Tryd.func91, Tryd.ntmps91
    go_wp2_with fail
    refine (Hidx.out _).mono ?_
    rintro e w1 ⟨rfl, rfl⟩
    go_wp2_with fail
    go_ret3
    exact ⟨rfl, 0, rfl⟩
set_option maxHeartbeats 400000 in
theorem Cut_one (l : List UInt8) (c : UInt8) (w : World) (hl : l.length ≤ maxLen) :
    Calls Tryd.prog 51 #[str l, .string ⟨#[c]⟩] w fun e w' => e = .returned (.tuple #[str (Lib.cut l [c]).1, str (Lib.cut l [c]).2.1, .bool (Lib.cut l [c]).2.2]) ∧ ∃ q, w' = w.drewN q := by
  have h := sliteCut_one l c w hl
  generalize Lib.cut l [c] = x at h ⊢
  obtain ⟨a, b, d⟩ := x
  go_enter Tryd.func51, Tryd.ntmps51
  go_wp2_with fail
  refine h.mono ?_
  rintro e w1 ⟨rfl, q, rfl⟩
  go_wp2_with fail
  go_ret3
  exact ⟨rfl, q, rfl⟩
theorem HasPrefix_any (l p : List UInt8) (w : World) : Calls Tryd.prog 30 #[str l, .string ⟨p.toArray⟩] w fun e w' => e = .returned (.bool (Lib.hasPrefix l p)) ∧ w = w' := by
  refine (Go.Proofs.Tryd.strings_HasPrefix ⟨l.toArray⟩ ⟨p.toArray⟩ w).mono ?_
  rintro e w1 ⟨rfl, rfl⟩
  exact ⟨rfl, rfl⟩
end Go.Proofs.YtacecobfhaihhaaDoor

namespace Go.Proofs.YtacecobfhaihhaaDoor

/-! ### What package link computes, said by what is still to be read -/
/-- Up to a byte for which p says yes; and from it on. -/
def stopT (p : Nat → Bool) (l : List UInt8) : List UInt8 := l.takeWhile (fun b => !p b.toNat)
def stopD (p : Nat → Bool) (l : List UInt8) : List UInt8 := l.dropWhile (fun b => !p b.toNat)
def isSp (x : Nat) : Bool := x == 32 || x == 9 || x == 13 || x == 10 || x == 12
def isLet (x : Nat) : Bool := decide (97 ≤ x ||| 32) && decide (x ||| 32 ≤ 122)
def pNotSp (x : Nat) : Bool := !isSp x
def pName (x : Nat) : Bool := isSp x || x == 47 || x == 62
def pAttr (x : Nat) : Bool := !isSp x && x != 47
def pEq (x : Nat) : Bool := isSp x || x == 47 || x == 62 || x == 61
def pVal (x : Nat) : Bool := isSp x || x == 62
def pIs (q x : Nat) : Bool := x == q
def lowB (b : UInt8) : UInt8 := if 65 ≤ b ∧ b ≤ 90 then b + 32 else b
def lowL (l : List UInt8) : List UInt8 := l.map lowB
def leadsB (l : List UInt8) : Bool := l == [104, 114, 101, 102] || l == [115, 114, 99]
def unamp (l : List UInt8) : List UInt8 := Lib.replaceAll l [38, 97, 109, 112, 59] [38]
def pastL (t r : List UInt8) : List UInt8 := if Lib.index r t < 0 then [] else r.drop ((Lib.index r t).toNat + t.length)
structure LinkD where
  frm : Nat
  til : Nat
  text : List UInt8
/-- A value: what is left where it begins, where it ends, where one goes on. -/
def valueR (r : List UInt8) : List UInt8 × List UInt8 × List UInt8 :=
  match stopD pNotSp r with
  | [] => ([], [], [])
  | c :: r2 => if c = 34 ∨ c = 39 then (r2, stopD (pIs c.toNat) r2, (stopD (pIs c.toNat) r2).drop 1) else (c :: r2, stopD pVal (c :: r2), stopD pVal (c :: r2))
def addLink (n : Nat) (name : List UInt8) (seen : List (List UInt8)) (v : List UInt8 × List UInt8 × List UInt8) (ls : List LinkD) : List LinkD :=
  if leadsB name && !seen.contains name then ls ++ [⟨n - v.1.length, n - v.2.1.length, unamp (v.1.take (v.1.length - v.2.1.length))⟩] else ls
def attrsL (n : Nat) : Nat → List UInt8 → List (List UInt8) → List LinkD → Option (List UInt8 × List LinkD)
  | 0, _, _, _ => none
  | f + 1, r, seen, ls =>
    match stopD pAttr r with
    | [] => none
    | c :: r2 =>
      if c = 62 then some (r2, ls)
      else if (stopD pNotSp (stopD pEq r2)).head? = some 61 then
        attrsL n f (valueR (stopD pNotSp (stopD pEq r2)).tail).2.2 (lowL (c :: stopT pEq r2) :: seen) (addLink n (lowL (c :: stopT pEq r2)) seen (valueR (stopD pNotSp (stopD pEq r2)).tail) ls)
      else attrsL n f (stopD pEq r2) (lowL (c :: stopT pEq r2) :: seen) ls
def tagL (n : Nat) (r : List UInt8) (shut : Bool) (out : List LinkD) : List UInt8 × List LinkD :=
  match attrsL n ((stopD pName r).length + 1) (stopD pName r) [] [] with
  | none => ([], out)
  | some (r', ls) => (r', if shut then out else out ++ ls)
/-- One round of Find, at a < or the end. -/
def stepL (n : Nat) (r : List UInt8) (out : List LinkD) : List UInt8 × List LinkD :=
  if Lib.hasPrefix r [60, 33, 45, 45] then (pastL [45, 45, 62] (r.drop 4), out)
  else if Lib.hasPrefix r [60, 33] || Lib.hasPrefix r [60, 63] then (pastL [62] r, out)
  else if decide (1 < r.length) && isLet (nth r 1) then tagL n (r.drop 1) false out
  else if decide (2 < r.length) && nth r 1 == 47 && isLet (nth r 2) then tagL n (r.drop 2) true out
  else (r.drop 1, out)
def findL (n : Nat) : Nat → List UInt8 → List LinkD → Option (List LinkD)
  | 0, _, out => some out
  | f + 1, r, out =>
    if r = [] then some out
    else if 60 < (stepL n (stopD (pIs 60) r) out).2.length then none
    else findL n f (stepL n (stopD (pIs 60) r) out).1 (stepL n (stopD (pIs 60) r) out).2
/-- link.Find of few enough bytes. -/
def findB (b : List UInt8) : Option (List LinkD) := findL b.length b.length b []

/-! ### Laws of what is left -/
theorem stop_app (p : Nat → Bool) (l : List UInt8) : stopT p l ++ stopD p l = l := List.takeWhile_append_dropWhile
theorem stopD_len (p : Nat → Bool) (l : List UInt8) : (stopD p l).length ≤ l.length := (List.dropWhile_suffix _).length_le
theorem stopD_suffix (p : Nat → Bool) (l : List UInt8) : stopD p l <:+ l := List.dropWhile_suffix _
theorem stopT_len (p : Nat → Bool) (l : List UInt8) : (stopT p l).length + (stopD p l).length = l.length := by
  have := congrArg List.length (stop_app p l); simpa using this
theorem stopT_not (p : Nat → Bool) (l : List UInt8) : ∀ b ∈ stopT p l, p b.toNat = false := by
  induction l with
  | nil => intro b hb; simp [stopT] at hb
  | cons a l ih =>
    intro b hb
    unfold stopT at hb
    rw [List.takeWhile_cons] at hb
    split at hb
    · rename_i h
      simp only [List.mem_cons] at hb
      rcases hb with rfl | hb
      · simpa using h
      · exact ih b hb
    · simp at hb
theorem stopD_head (p : Nat → Bool) (l : List UInt8) (c : UInt8) (r : List UInt8) (h : stopD p l = c :: r) : p c.toNat = true := by
  have := List.head?_dropWhile_not (fun b : UInt8 => !p b.toNat) l
  unfold stopD at h
  rw [h] at this
  simpa using this
/-- What stops in x ++ y, where p says no all over x, stops in y. -/
theorem stopD_pre (p : Nat → Bool) : ∀ (x y : List UInt8), (∀ b ∈ x, p b.toNat = false) → stopD p (x ++ y) = stopD p y ∧ stopT p (x ++ y) = x ++ stopT p y
  | [], _, _ => ⟨rfl, rfl⟩
  | a :: x, y, h => by
    have ha := h a (by simp)
    have := stopD_pre p x y (fun b hb => h b (by simp [hb]))
    unfold stopD stopT at this ⊢
    rw [List.cons_append, List.dropWhile_cons, List.takeWhile_cons]
    simp [ha, this]
theorem stopD_at (p : Nat → Bool) (c : UInt8) (y : List UInt8) (h : p c.toNat = true) : stopD p (c :: y) = c :: y ∧ stopT p (c :: y) = [] := by
  simp [stopD, stopT, h]
end Go.Proofs.YtacecobfhaihhaaDoor

namespace Go.Proofs.YtacecobfhaihhaaDoor
open Go.RowKit

theorem isSp_eq : ∀ x : Fin 256, isSp x.val = decide (0 ≤ Lib.indexByte [32, 9, 13, 10, 12] (UInt8.ofNat x.val)) := by decide +kernel
theorem IndexByte_any (l : List UInt8) (x : Nat) (w : World) :
    Calls Tryd.prog 38 #[.string ⟨l.toArray⟩, .int .u8 (x : Int)] w fun e w' => e = .returned (.int .i64 (Lib.indexByte l (UInt8.ofNat x))) ∧ w = w' := by
  refine (Go.Proofs.Tryd.strings_IndexByte ⟨l.toArray⟩ (x : Int) w).mono ?_
  rintro e w' ⟨rfl, rfl⟩
  exact ⟨rfl, rfl⟩
theorem space_any (x : Nat) (hx : x < 256) (w : World) : Calls Tryd.prog 70 #[.int .u8 (x : Int)] w fun e w' => e = .returned (.bool (isSp x)) ∧ w = w' := by
  have h := isSp_eq ⟨x, hx⟩
  simp only at h
  have hi := IndexByte_any [32, 9, 13, 10, 12] x w
  generalize Lib.indexByte [32, 9, 13, 10, 12] (UInt8.ofNat x) = i at h hi
  rw [h]
  have Hi := Lib.hid hi
  clear h hi
  go_enter Tryd.func70, Tryd.ntmps70
  go_wp2_with fail
  refine Hi.out.mono ?_
  rintro e w1 ⟨rfl, rfl⟩
  go_wp2_with fail
  go_ret
  exact ⟨rfl, rfl⟩
theorem or32 : ∀ x : Fin 256, bits .or .u8 ((x.val : Nat) : Int) 32 = ((x.val ||| 32 : Nat) : Int) := by decide +kernel
theorem letter_any (x : Nat) (hx : x < 256) (w : World) : Calls Tryd.prog 32 #[.int .u8 (x : Int)] w fun e w' => e = .returned (.bool (isLet x)) ∧ w = w' := by
  have h := or32 ⟨x, hx⟩
  simp only at h
  unfold isLet
  generalize x ||| 32 = y at h ⊢
  by_cases h1 : 97 ≤ y
  · have d1 : decide (97 ≤ y) = true := by simpa using h1
    rw [d1]
    go_enter Tryd.func32, Tryd.ntmps32
    go_wp2_with fail
    go_ret
    exact ⟨by simp; omega, rfl⟩
  · have d1 : decide (97 ≤ y) = false := by simpa using h1
    rw [d1]
    go_enter Tryd.func32, Tryd.ntmps32
    go_wp2_with fail
    go_ret
    exact ⟨by simp, rfl⟩
theorem leads_any (l : List UInt8) (w : World) : Calls Tryd.prog 76 #[str l] w fun e w' => e = .returned (.bool (leadsB l)) ∧ w = w' := by
  unfold leadsB
  by_cases h1 : l = [104, 114, 101, 102]
  · subst h1
    go_enter Tryd.func76, Tryd.ntmps76
    go_wp2_with fail
    go_ret
    exact ⟨rfl, rfl⟩
  · have e : (l == [104, 114, 101, 102]) = false := by simpa using h1
    rw [e, Bool.false_or]
    go_enter Tryd.func76, Tryd.ntmps76
    go_wp2_with fail
    go_ret
    exact ⟨rfl, rfl⟩
end Go.Proofs.YtacecobfhaihhaaDoor

namespace Go.Proofs.YtacecobfhaihhaaDoor
open Go.RowKit

theorem grown_set (w : World) (b i : Nat) (v : Value) : w.grownBy (w.setCell ⟨b, i, none⟩ v) (some b) :=
  ⟨rfl, rfl, rfl, by simp, fun k _ hne => Below.heap_setCell w ⟨b, i, none⟩ v k (fun e => hne (by rw [e]))⟩

/-- A row of bytes of the call's own, that may be written. -/
def OwnB (w : World) (g : Nat) (l : List UInt8) : Prop := ∃ (cs : Array Value) (fr : Nat × Nat), w.heap[g]? = some (.cells cs 5 fr) ∧ l.length ≤ cs.size ∧ cs.toList.take l.length = Lib.byteCells l ∧ ∀ o, o < l.length → ¬ (fr.1 ≤ o ∧ o < fr.2)
theorem OwnB.by_ {w : World} {g : Nat} {l : List UInt8} (h : OwnB w g l) : By w w.heap.size (some ⟨g, 0, none⟩) l.length l := by
  obtain ⟨cs, fr, h1, h2, h3, _⟩ := h
  refine Sl.of_block h1 (by simp [Lib.byteCells]) fun j u hu => ?_
  rw [Nat.zero_add]
  rw [← h3, List.getElem?_take] at hu
  split at hu
  · simpa using hu
  · cases hu
theorem OwnB.fz {w : World} {g : Nat} {l : List UInt8} (h : OwnB w g l) (o : Nat) (ho : o < l.length) : w.frozen? ⟨g, o, none⟩ = false := by
  obtain ⟨cs, fr, h1, _, _, h4⟩ := h
  have := h4 o ho
  unfold World.frozen?
  rw [h1]
  simp
  omega
theorem OwnB.set {w : World} {g : Nat} {l : List UInt8} (h : OwnB w g l) (k : Nat) (x : UInt8) : OwnB (w.setCell ⟨g, k, none⟩ (.int .u8 (x.toNat : Int))) g (l.set k x) := by
  obtain ⟨cs, fr, h1, h2, h3, h4⟩ := h
  refine ⟨_, fr, Go.Joins.block_setCell h1 _, by simpa using h2, ?_, by simpa using h4⟩
  rw [List.length_set, Array.toList_setIfInBounds, List.take_set, h3]
  simp [Lib.byteCells, List.map_set]
theorem OwnB.below {w w' : World} {g : Nat} {l : List UInt8} (h : OwnB w g l) (hb : Below (g + 1) w w') : OwnB w' g l := by
  obtain ⟨cs, fr, h1, h2⟩ := h
  exact ⟨cs, fr, (hb.block g (by omega)).trans h1, h2⟩
theorem run_toOwn {P : Program} (w : World) (src dst e : TypeId) (l : List UInt8) (hs : P.underlying src = some .string) (hd : P.underlying dst = some (.slice e)) (he : P.underlying e = some (.int .u8)) (hee : e = 5) :
    ∃ c w', (convert src dst (str l)).run P w = .ok (.slice (some ⟨w.heap.size, 0, none⟩) l.length c) w' ∧ OwnB w' w.heap.size l ∧ l.length ≤ c ∧ Below w.heap.size w w' ∧ w'.heap.size = w.heap.size + 1 := by
  subst hee
  refine ⟨_, _, run_bytes_of_string w src dst _ ⟨l.toArray⟩ hs hd he, ⟨_, _, heap_alloc_new w.drew _, ?_, ?_, ?_⟩, grownCap_ge _ _ _ _, (Below.drew (Below.refl _ w)).alloc (Nat.le_refl _) _, by simp⟩
  · simp [bytesRow]
  · simp [bytesRow, Lib.byteCells]
  · intro o ho
    simp [bytesRow]
    omega
theorem low_at (l : List UInt8) (k : Nat) (h : k < l.length) : (l.take k).map lowB ++ l.drop k = ((l.take k).map lowB ++ l.drop k) ∧ ((l.take (k + 1)).map lowB ++ l.drop (k + 1) = ((l.take k).map lowB ++ l.drop k).set k (lowB l[k])) := by
  refine ⟨rfl, ?_⟩
  have hk : ((l.take k).map lowB).length = k := by simp; omega
  rw [List.set_append_right _ _ (by omega), hk, Nat.sub_self, List.drop_eq_getElem_cons h, List.set_cons_zero, List.take_add_one, List.getElem?_eq_getElem h, List.map_append, List.append_assoc]
  rfl
theorem wrap_lo : ∀ x : Fin 256, 65 ≤ x.val → x.val ≤ 90 → IntKind.u8.wrap (IntKind.u8.wrap ((x.val : Nat) : Int) + 97) - 65 = ((x.val + 32 : Nat) : Int) := by decide +kernel
def LowRel (w : World) (n : Nat) (l : List UInt8) (iv : Value) (wr : World) : Prop :=
  ∃ k : Nat, k ≤ n ∧ iv = .int .i64 k ∧ Below w.heap.size w wr ∧ OwnB wr w.heap.size ((l.take k).map lowB ++ l.drop k)
set_option maxRecDepth 100000 in
set_option maxHeartbeats 1000000 in
theorem lower_any (l : List UInt8) (w : World) (hl : l.length ≤ maxLen) : Calls Tryd.prog 73 #[str l] w fun e w' => e = .returned (str (lowL l)) ∧ Below w.heap.size w w' := by
  unfold maxLen at hl
  obtain ⟨c, w1, hconv, hown, hc, hb1, hsz⟩ := run_toOwn (P := Tryd.prog) w 9 22 5 l Tryd.underlying9 Tryd.underlying22 Tryd.underlying5 rfl
  obtain ⟨n, hn⟩ : ∃ n, n = l.length := ⟨_, rfl⟩
  rw [← hn] at hconv hl hc
  have Hn := Lib.hid hn
  have Hown := Lib.hid hown
  have Hsz := Lib.hid hsz
  clear hn hown hsz
  go_enter Tryd.func73, Tryd.ntmps73
  go_wp2_with fail
  go_loopw [4, 5, 10] (fun _ _ iv wr => LowRel w n l iv wr) (fun _ _ iv _ => n - (intOf iv).toNat)
  case atStart => exact ⟨0, by omega, rfl, hb1, by simpa using Hown.out⟩
  case round =>
    obtain ⟨k, hk, rfl, hbel, hO⟩ := hrel
    have hlen : ((l.take k).map lowB ++ l.drop k).length = n := by
      simp only [List.length_append, List.length_map, List.length_take, List.length_drop]; have := Hn.out; omega
    by_cases hkn : k < n
    · have hkl : k < l.length := by rw [← Hn.out]; exact hkn
      have hfz := hO.fz k (by rw [hlen]; exact hkn)
      have hcell : wr.cell? ⟨w.heap.size, k, none⟩ = some (.int .u8 (nth l k)) := by
        obtain ⟨b, off, hA, _, hc⟩ := hO.by_.opn (by rw [hlen]; omega)
        injection hA with hA
        injection hA with hA hB _
        subst hA
        subst hB
        have := hc k (by rw [hlen]; exact hkn)
        rw [Nat.zero_add] at this
        rw [this]
        have e : nth ((l.take k).map lowB ++ l.drop k) k = nth l k := by
          have : ((l.take k).map lowB).length = k := by simp; omega
          unfold nth
          simp only [List.getD]
          rw [List.getElem?_append_right (by omega), this, Nat.sub_self, List.getElem?_drop, Nat.add_zero]
        rw [e]
      have hx := nth_lt l k
      have hset := (low_at l k hkl).2
      have hnk : l[k].toNat = nth l k := (nth_of l k hkl).symm
      have hO2 := hO.set k (lowB l[k])
      rw [← hset] at hO2
      have HO := Lib.hid hO
      have HO2 := Lib.hid hO2
      have Hset := Lib.hid hset
      have Hnk := Lib.hid hnk
      have Hlen := Lib.hid hlen
      clear hset hnk hO hO2 hlen
      have hsame : ¬ (65 ≤ nth l k ∧ nth l k ≤ 90) → LowRel w n l (.int .i64 ((k + 1 : Nat) : Int)) wr := by
        intro h
        refine ⟨k + 1, by omega, rfl, hbel, ?_⟩
        have e : lowB l[k] = l[k] := by
          unfold lowB
          rw [if_neg]
          intro ⟨h1, h2⟩
          have h1 := UInt8.le_iff_toNat_le.1 h1
          have h2 := UInt8.le_iff_toNat_le.1 h2
          rw [Hnk.out] at h1 h2
          exact h ⟨h1, h2⟩
        rw [Hset.out, e]
        have e2 : ((l.take k).map lowB ++ l.drop k)[k]'(by rw [Hlen.out]; exact hkn) = l[k] := by
          have : ((l.take k).map lowB).length = k := by simp; omega
          rw [List.getElem_append_right (by omega)]
          simp only [List.getElem_drop]
          congr 1
          omega
        rw [← e2, List.set_getElem_self]
        exact HO.out
      by_cases h1 : 65 ≤ nth l k
      · by_cases h2 : nth l k ≤ 90
        · clear hsame
          go_wp2_with fail
          refine ⟨⟨k + 1, by omega, by go_num, hbel.setCell (Nat.le_refl _) _, ?_⟩, by simp [intOf]; omega⟩
          have e : (lowB l[k]).toNat = nth l k + 32 := by
            unfold lowB
            rw [if_pos ⟨UInt8.le_iff_toNat_le.2 (by rw [Hnk.out]; exact h1), UInt8.le_iff_toNat_le.2 (by rw [Hnk.out]; exact h2)⟩, UInt8.toNat_add, Hnk.out]
            show (nth l k + 32) % 256 = _
            omega
          have e2 : ((nth l k : Nat) : Int) + 97 - 65 = (((lowB l[k]).toNat : Nat) : Int) := by rw [e]; omega
          rw [e2]
          exact HO2.out
        · have hs := Lib.hid (hsame (by omega))
          clear hsame
          go_wp2_with fail
          exact ⟨by have := hs.out; simpa using this, by simp [intOf]; omega⟩
      · have hs := Lib.hid (hsame (by omega))
        clear hsame
        go_wp2_with fail
        exact ⟨by have := hs.out; simpa using this, by simp [intOf]; omega⟩
    · have hkn' : k = n := by omega
      have hM : (l.take k).map lowB ++ l.drop k = lowL l := by
        rw [hkn', List.take_of_length_le (by rw [← Hn.out]; omega), List.drop_of_length_le (by rw [← Hn.out]; omega), List.append_nil]; rfl
      rw [hM] at hO hlen
      have hts := run_toStr (P := Tryd.prog) wr 22 9 5 _ (some ⟨w.heap.size, 0, none⟩) n c (lowL l) (by have := hO.by_; rw [hlen] at this; exact this) Tryd.underlying22 Tryd.underlying5 Tryd.underlying9
      clear hO hM hlen hkn'
      go_wp2_with fail
      go_ret
      exact ⟨rfl, hbel⟩
end Go.Proofs.YtacecobfhaihhaaDoor

namespace Go.Proofs.YtacecobfhaihhaaDoor
open Go.RowKit

/-- The scanner, in block s: the page, where one stands, what is out. -/
def ScanIs (w : World) (s : Nat) (v : Value) (at_ : Nat) (out : Value) : Prop := w.heap[s]? = some (.cells #[v, .int .i64 (at_ : Nat), out] 53 (0, 0))
section
variable {w w' : World} {s at_ : Nat} {v out : Value}
theorem ScanIs.c0 (h : ScanIs w s v at_ out) : w.cell? ⟨s, 0, none⟩ = some v := by rw [Go.Joins.cell_of_block h]; rfl
theorem ScanIs.c1 (h : ScanIs w s v at_ out) : w.cell? ⟨s, 1, none⟩ = some (.int .i64 (at_ : Nat)) := by rw [Go.Joins.cell_of_block h]; rfl
theorem ScanIs.c2 (h : ScanIs w s v at_ out) : w.cell? ⟨s, 2, none⟩ = some out := by rw [Go.Joins.cell_of_block h]; rfl
theorem ScanIs.fz (h : ScanIs w s v at_ out) (o : Nat) : w.frozen? ⟨s, o, none⟩ = false := Go.Joins.unfrozen_of_block h o
theorem ScanIs.set1 (h : ScanIs w s v at_ out) (x : Nat) : ScanIs (w.setCell ⟨s, 1, none⟩ (.int .i64 (x : Nat))) s v x out := by
  unfold ScanIs; rw [Go.Joins.block_setCell h]; rfl
theorem ScanIs.set2 (h : ScanIs w s v at_ out) (x : Value) : ScanIs (w.setCell ⟨s, 2, none⟩ x) s v at_ x := by
  unfold ScanIs; rw [Go.Joins.block_setCell h]; rfl
theorem ScanIs.lt (h : ScanIs w s v at_ out) : s < w.heap.size := by
  rcases Nat.lt_or_ge s w.heap.size with h' | h'
  · exact h'
  · unfold ScanIs at h; rw [Array.getElem?_eq_none h'] at h; cases h
theorem ScanIs.keep (h : ScanIs w s v at_ out) (hk : w'.heap[s]? = w.heap[s]?) : ScanIs w' s v at_ out := by unfold ScanIs; rw [hk]; exact h
theorem ScanIs.below (h : ScanIs w s v at_ out) (hb : Below w.heap.size w w') : ScanIs w' s v at_ out := h.keep (hb.block s h.lt)
theorem ScanIs.drewN (h : ScanIs w s v at_ out) (n : Nat) : ScanIs (w.drewN n) s v at_ out := h
end
theorem grown_drewN {w w' : World} {r : Option Nat} (h : w.grownBy w' r) (n : Nat) : w.grownBy (w'.drewN n) r := ⟨h.os, h.tape, h.output, h.size, h.block⟩
theorem grown_below {w w' w2 : World} {r : Option Nat} (h : w.grownBy w' r) (hb : Below w'.heap.size w' w2) : w.grownBy w2 r :=
  ⟨hb.os.trans h.os, hb.tape.trans h.tape, hb.output.trans h.output, Nat.le_trans h.size hb.size, fun k hk hne => (hb.block k (Nat.lt_of_lt_of_le hk h.size)).trans (h.block k hk hne)⟩
theorem By.grown {w w' : World} {B n : Nat} {A : Option Addr} {l : List UInt8} (h : By w B A n l) {s : Nat} (hg : w.grownBy w' (some s)) (hB : B ≤ s) (hs : B ≤ w.heap.size) : By w' B A n l :=
  Sl.grown h hg hs (fun g hg => by injection hg with hg; omega)
def atOf (w : World) (s : Nat) : Nat := match w.cell? ⟨s, 1, none⟩ with | some (.int _ i) => i.toNat | _ => 0
theorem scan_at {w : World} {s at_ : Nat} {v out : Value} (h : ScanIs w s v at_ out) : atOf w s = at_ := by
  unfold atOf; rw [h.c1]; simp
theorem stopD_yes (p : Nat → Bool) (l : List UInt8) (k : Nat) (hk : k < l.length) (h : p (nth l k) = true) : stopD p (l.drop k) = l.drop k := by
  rw [List.drop_eq_getElem_cons hk]
  exact (stopD_at p _ _ (by rw [← nth_of l k hk]; exact h)).1
theorem stopD_no (p : Nat → Bool) (l : List UInt8) (k : Nat) (hk : k < l.length) (h : p (nth l k) = false) : stopD p (l.drop k) = stopD p (l.drop (k + 1)) := by
  rw [List.drop_eq_getElem_cons hk]
  exact (stopD_pre p [l[k]] _ (by simp; rw [← nth_of l k hk]; exact h)).1

/-- What a test of bytes is good for, where it turns nothing. -/
def PredQ (g : Nat) (lb : Array Value) (p : Nat → Bool) (ok : World → Prop) : Prop :=
  ∀ (W : World) (x : Nat), x < 256 → ok W → Calls Tryd.prog g (#[.int .u8 (x : Int)] ++ lb) W fun e w' => e = .returned (.bool (p x)) ∧ w' = W
def TillRel (s : Nat) (v out : Value) (n : Nat) (w : World) (p : Nat → Bool) (l : List UInt8) (R : Nat) (wr : World) : Prop :=
  ∃ at_ : Nat, at_ ≤ n ∧ ScanIs wr s v at_ out ∧ w.grownBy wr (some s) ∧ Hid ((stopD p (l.drop at_)).length = R)
/-- Where one stands behind till. -/
def TillOut (s : Nat) (v out : Value) (R : Nat) (w : World) (e : Ending) (w' : World) : Prop := e = .returned (.tuple #[]) ∧ ScanIs w' s v R out ∧ w.grownBy w' (some s)
set_option maxRecDepth 100000 in
set_option maxHeartbeats 1000000 in
theorem till_any (g : Nat) (lb : Array Value) (eg : ∀ args w, (callFunc g args).run Tryd.prog w = .ok (.enter g args) w) (p : Nat → Bool) (ok : World → Prop) (hp : PredQ g lb p ok) (s : Nat) (A : Option Addr) (n c B at_ : Nat) (out : Value) (l : List UInt8) (w : World)
    (hs : ScanIs w s (.slice A n c) at_ out) (hb : By w B A n l) (hB : B ≤ s) (hn : n ≤ 1000000) (hat : at_ ≤ n) (hok : ∀ W, w.grownBy W (some s) → ok W) :
    Calls Tryd.prog 28 #[.pointer (some ⟨s, 0, none⟩), .func (.func g) #[] lb] w (TillOut s (.slice A n c) out (n - (stopD p (l.drop at_)).length) w) := by
  have hl := hb.len
  obtain ⟨R, hR⟩ : ∃ R, R = (stopD p (l.drop at_)).length := ⟨_, rfl⟩
  have hRn : R ≤ n - at_ := by rw [hR]; have := stopD_len p (l.drop at_); simp at this; omega
  rw [← hR]
  have HR := Lib.hid hR
  have Hl := Lib.hid hl
  have Hok := Lib.hid hok
  have Hp := Lib.hid hp
  have hsl := hs.lt
  have Hs := Lib.hid hs
  clear hR hl hok hp hs
  go_enter Tryd.func28, Tryd.ntmps28
  go_wp2_with fail
  go_loopw [] (fun wr => TillRel s (.slice A n c) out n w p l R wr) (fun wr => n - atOf wr s)
  case atStart => exact ⟨at_, by omega, Hs.out, World.grownBy.refl w _, HR.out.symm⟩
  case round =>
    obtain ⟨at_, ha, hS, hg, hE⟩ := hrel
    have y0 := hS.c0
    have y1 := hS.c1
    have yf := hS.fz 1
    have HS := Lib.hid hS
    have Hat := Lib.hid (scan_at hS)
    clear hS
    by_cases han : at_ < n
    · have hby := hb.grown hg hB (by omega)
      obtain ⟨b, off, rfl, hbB, hcell⟩ := hby.at_ han
      have hx := nth_lt l at_
      have cP := fun k => Hp.out (wr.drewN k) (nth l at_) hx (Hok.out _ (grown_drewN hg k))
      have hal : at_ < l.length := by rw [Hl.out]; exact han
      clear hby
      by_cases hpx : p (nth l at_) = true
      · rw [hpx] at cP
        have HP := Lib.hid cP
        have Hpx := Lib.hid hpx
        clear cP hpx
        go_wp2_with fail
        go_quiet ((go_at_fn g; exact Calls.quiet_of_same (HP.out _)))
        go_wp2_with fail
        go_end0
        refine ⟨rfl, ?_, grown_drewN hg nq⟩
        have e : at_ = n - R := by
          have h := hE.out
          rw [stopD_yes p l at_ hal Hpx.out, List.length_drop, ← Hl.out.symm] at h
          have := Hl.out
          omega
        rw [← e]
        exact HS.out.drewN nq
      · have hpf : p (nth l at_) = false := by simpa using hpx
        rw [hpf] at cP
        have HP := Lib.hid cP
        have Hpx := Lib.hid hpf
        clear cP hpx hpf
        go_wp2_with fail
        go_quiet ((go_at_fn g; exact Calls.quiet_of_same (HP.out _)))
        have yz : (wr.drewN nq).cell? ⟨s, 1, none⟩ = some (.int .i64 (at_ : Nat)) := y1
        have yz2 : (wr.drewN nq).frozen? ⟨s, 1, none⟩ = false := yf
        go_wp2_with fail
        refine ⟨⟨at_ + 1, by omega, ?_, ?_, ?_⟩, ?_⟩
        · have := (HS.out.drewN nq).set1 (at_ + 1)
          exact this
        · have h1 := grown_drewN hg nq
          exact ⟨h1.os, h1.tape, h1.output, by simpa using h1.size, fun k hk hne => (Below.heap_setCell _ _ _ k (fun e => hne (by rw [e]))).trans (h1.block k hk hne)⟩
        · show _ = R
          rw [← stopD_no p l at_ hal Hpx.out]
          exact hE.out
        · have h2 := scan_at ((HS.out.drewN nq).set1 (at_ + 1))
          have h3 := Hat.out
          show n - atOf ((wr.drewN nq).setCell ⟨s, 1, none⟩ (.int .i64 ((at_ : Int) + 1))) s < n - atOf wr s
          rw [h3, show atOf ((wr.drewN nq).setCell ⟨s, 1, none⟩ (.int .i64 ((at_ : Int) + 1))) s = at_ + 1 from h2]
          omega
    · go_wp2_with fail
      go_quiet (fail)
      go_wp2_with fail
      go_end0
      refine ⟨rfl, ?_, grown_drewN hg nq⟩
      have e : at_ = n - R := by
        have h := hE.out
        rw [List.drop_of_length_le (by have := Hl.out; omega)] at h
        have : R = 0 := by rw [← h]; rfl
        omega
      rw [← e]
      exact HS.out.drewN nq
end Go.Proofs.YtacecobfhaihhaaDoor

namespace Go.Proofs.YtacecobfhaihhaaDoor
open Go.RowKit

theorem eqI (x k : Nat) : ((x : Int) == (k : Int)) = (x == k) := by
  rw [Bool.eq_iff_iff, beq_iff_eq, beq_iff_eq]; omega
theorem neI (x k : Nat) : ((x : Int) != (k : Int)) = !(x == k) := by
  rw [← eqI]; rfl
set_option maxRecDepth 100000 in
set_option maxHeartbeats 1000000 in
theorem find1_any (x : Nat) (_hx : x < 256) (w : World) : Calls Tryd.prog 29 #[.int .u8 (x : Int)] w fun e w' => e = .returned (.bool (pIs 60 x)) ∧ w' = w := by
  unfold pIs
  have d60 : ((x : Int) == 60) = (x == 60) := eqI x 60
  generalize (x == 60) = q60 at d60 ⊢
  cases q60
  all_goals
    go_enter Tryd.func29, Tryd.ntmps29
    go_wp2_with fail
    go_ret
    exact ⟨rfl, rfl⟩
set_option maxRecDepth 100000 in
set_option maxHeartbeats 1000000 in
theorem blanks1_any (x : Nat) (hx : x < 256) (w : World) : Calls Tryd.prog 106 #[.int .u8 (x : Int)] w fun e w' => e = .returned (.bool (pNotSp x)) ∧ w' = w := by
  have hs := space_any x hx w
  unfold pNotSp
  generalize isSp x = r at hs ⊢
  have Hs := Lib.hid hs
  clear hs
  cases r
  all_goals
    go_enter Tryd.func106, Tryd.ntmps106
    go_wp2_with fail
    refine Hs.out.mono ?_
    rintro e w1 ⟨rfl, rfl⟩
    go_wp2_with fail
    go_ret
    exact ⟨rfl, rfl⟩
set_option maxRecDepth 100000 in
set_option maxHeartbeats 1000000 in
theorem value2_any (x : Nat) (hx : x < 256) (w : World) : Calls Tryd.prog 108 #[.int .u8 (x : Int)] w fun e w' => e = .returned (.bool (pVal x)) ∧ w' = w := by
  have hs := space_any x hx w
  unfold pVal
  generalize isSp x = r at hs ⊢
  have Hs := Lib.hid hs
  clear hs
  have d62 : ((x : Int) == 62) = (x == 62) := eqI x 62
  generalize (x == 62) = q62 at d62 ⊢
  cases r <;> cases q62
  all_goals
    go_enter Tryd.func108, Tryd.ntmps108
    go_wp2_with fail
    refine Hs.out.mono ?_
    rintro e w1 ⟨rfl, rfl⟩
    go_wp2_with fail
    go_ret
    exact ⟨rfl, rfl⟩
set_option maxRecDepth 100000 in
set_option maxHeartbeats 1000000 in
theorem tag1_any (x : Nat) (hx : x < 256) (w : World) : Calls Tryd.prog 69 #[.int .u8 (x : Int)] w fun e w' => e = .returned (.bool (pName x)) ∧ w' = w := by
  have hs := space_any x hx w
  unfold pName
  generalize isSp x = r at hs ⊢
  have Hs := Lib.hid hs
  clear hs
  have d47 : ((x : Int) == 47) = (x == 47) := eqI x 47
  have d62 : ((x : Int) == 62) = (x == 62) := eqI x 62
  generalize (x == 47) = q47 at d47 ⊢
  generalize (x == 62) = q62 at d62 ⊢
  cases r <;> cases q47 <;> cases q62
  all_goals
    go_enter Tryd.func69, Tryd.ntmps69
    go_wp2_with fail
    refine Hs.out.mono ?_
    rintro e w1 ⟨rfl, rfl⟩
    go_wp2_with fail
    go_ret
    exact ⟨rfl, rfl⟩
set_option maxRecDepth 100000 in
set_option maxHeartbeats 1000000 in
theorem tag2_any (x : Nat) (hx : x < 256) (w : World) : Calls Tryd.prog 71 #[.int .u8 (x : Int)] w fun e w' => e = .returned (.bool (pAttr x)) ∧ w' = w := by
  have hs := space_any x hx w
  unfold pAttr
  generalize isSp x = r at hs ⊢
  have Hs := Lib.hid hs
  clear hs
  have d47 : ((x : Int) == 47) = (x == 47) := eqI x 47
  have n47 : ((x : Int) != 47) = !(x == 47) := neI x 47
  have e47 : (x != 47) = !(x == 47) := rfl
  rw [e47]
  clear e47
  generalize (x == 47) = q47 at d47 n47 ⊢
  cases r <;> cases q47
  all_goals
    go_enter Tryd.func71, Tryd.ntmps71
    go_wp2_with fail
    refine Hs.out.mono ?_
    rintro e w1 ⟨rfl, rfl⟩
    go_wp2_with fail
    go_ret
    exact ⟨rfl, rfl⟩
set_option maxRecDepth 100000 in
set_option maxHeartbeats 1000000 in
theorem tag3_any (x : Nat) (hx : x < 256) (w : World) : Calls Tryd.prog 72 #[.int .u8 (x : Int)] w fun e w' => e = .returned (.bool (pEq x)) ∧ w' = w := by
  have hs := space_any x hx w
  unfold pEq
  generalize isSp x = r at hs ⊢
  have Hs := Lib.hid hs
  clear hs
  have d47 : ((x : Int) == 47) = (x == 47) := eqI x 47
  have d62 : ((x : Int) == 62) = (x == 62) := eqI x 62
  have d61 : ((x : Int) == 61) = (x == 61) := eqI x 61
  generalize (x == 47) = q47 at d47 ⊢
  generalize (x == 62) = q62 at d62 ⊢
  generalize (x == 61) = q61 at d61 ⊢
  cases r <;> cases q47 <;> cases q62 <;> cases q61
  all_goals
    go_enter Tryd.func72, Tryd.ntmps72
    go_wp2_with fail
    refine Hs.out.mono ?_
    rintro e w1 ⟨rfl, rfl⟩
    go_wp2_with fail
    go_ret
    exact ⟨rfl, rfl⟩
set_option maxRecDepth 100000 in
theorem value1_any (q b x : Nat) (w : World) (hq : w.cell? ⟨b, 0, none⟩ = some (.int .u8 (q : Int))) : Calls Tryd.prog 107 #[.int .u8 (x : Int), .pointer (some ⟨b, 0, none⟩)] w fun e w' => e = .returned (.bool (pIs q x)) ∧ w' = w := by
  unfold pIs
  have d : ((x : Int) == (q : Int)) = (x == q) := eqI x q
  generalize (x == q) = r at d ⊢
  go_enter Tryd.func107, Tryd.ntmps107
  go_wp2_with fail
  go_ret
  exact ⟨rfl, rfl⟩
theorem predFind : PredQ 29 #[] (pIs 60) (fun _ => True) := fun W x hx _ => find1_any x hx W
theorem predBlank : PredQ 106 #[] pNotSp (fun _ => True) := fun W x hx _ => blanks1_any x hx W
theorem predVal : PredQ 108 #[] pVal (fun _ => True) := fun W x hx _ => value2_any x hx W
theorem predName : PredQ 69 #[] pName (fun _ => True) := fun W x hx _ => tag1_any x hx W
theorem predAttr : PredQ 71 #[] pAttr (fun _ => True) := fun W x hx _ => tag2_any x hx W
theorem predEq : PredQ 72 #[] pEq (fun _ => True) := fun W x hx _ => tag3_any x hx W
theorem predQuote (q b : Nat) : PredQ 107 #[.pointer (some ⟨b, 0, none⟩)] (pIs q) (fun W => W.cell? ⟨b, 0, none⟩ = some (.int .u8 (q : Int))) := fun W x _ h => value1_any q b x W h
end Go.Proofs.YtacecobfhaihhaaDoor

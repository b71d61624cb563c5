import Derived.OrdersHeld
import Derived.WalkKit
import Derived.WalkSpells
import Derived.WalkLawsBesides
import Derived.Lib.Hide
import Derived.Deep.QuietTactic
import Derived.BigQuiet
import Derived.Deep.AppendLies
import Derived.Deep.Draws
import Derived.Maps.AppendAt
import Derived.Lib.AppendStr
import Derived.Lib.UnsafeStr
import Derived.Lib.Bytealg
import Derived.Test.YtinfjdfhkfhgjaaGreatDoorRows
import Derived.ProofKit
import Derived.OpenShut
import Derived.ShutString
import Derived.ChangeOld
import Derived.Below
import Derived.Lib.IndexMore
import Derived.Deep.Slices
import Derived.Deep.Fields
import Derived.Lib.SmallJoins
import Derived.Test.YtinfjdfhkfhgjaaGreatDoorShelf
import Derived.Lib.Builder
import Derived.Lib.Walk
import Derived.Laws.Externs
import Derived.Test.YtinfjdfhkfhgjaaGreatDoorCards
import Derived.Test.YtinfjdfhkfhgjaaGreatDoorTie
import Derived.Deep.DeepHandedRow
import Derived.Lay
import Derived.Deep.DeepWitnessRowRef
import Derived.Lib.Replace
import Derived.Lib.IndexLaws
import Derived.Lib.IndexBytes
import Derived.Lib.Strings
import Derived.Lib.LastIndexByte
import Derived.Shelf.Strings.CaseAny
import Derived.LaidSub
import Derived.LaidMore
import Derived.MakeChecks
import Derived.Lib.LaidU8T
set_option maxRecDepth 100000
set_option maxHeartbeats 40000000
namespace Go.Proofs.YtinfjdfhkfhgjaaGreatDoor
open Go.RowKit
theorem tkH {P : Program} {ops : Array Oper} {Q : Exit → Act → World → Prop} {S : World → Prop} {md : Region.Mode} {i : Nat} {oi : Oper} {v : Value} {fuel : Nat} {listed : Array Bool} {a : Act} {w : World} (hi : ops[i]? = some oi) (hy : ∀ w, S w → (execOp a.eval oi).run P w = .ok (.value v) w) (hS : S w) (h : wpAnyH P md ops Q S fuel (listed.setIfInBounds i true) (a.put oi.dst v) w) (hs : Region.noSelect ops = true := by kernel_rfl) (hf : Region.free md ops listed i = true := by kernel_rfl) (hr : (Region.ready md ops listed).contains i = true := by kernel_rfl) (hQ : ∀ c a w, Q (.panic c) (a.put oi.dst v) w → Q (.panic c) a w := by exact fun _ _ _ h => h) (hw : Region.wanted oi (yielded ops a.tmps) = true := by kernel_rfl) : wpAnyH P md ops Q S (fuel + 1) listed a w := wpAnyH_take hi hs hf hr hQ (Or.inl ⟨hw, hy⟩) hS h
theorem tkN {P : Program} {ops : Array Oper} {Q : Exit → Act → World → Prop} {S : World → Prop} {md : Region.Mode} {i : Nat} {oi : Oper} {fuel : Nat} {listed : Array Bool} {a : Act} {w : World} (hi : ops[i]? = some oi) (hS : S w) (h : wpAnyH P md ops Q S fuel (listed.setIfInBounds i true) (a.put oi.dst undef) w) (hs : Region.noSelect ops = true := by kernel_rfl) (hf : Region.free md ops listed i = true := by kernel_rfl) (hr : (Region.ready md ops listed).contains i = true := by kernel_rfl) (hQ : ∀ c a w, Q (.panic c) (a.put oi.dst undef) w → Q (.panic c) a w := by exact fun _ _ _ h => h) (hw : Region.wanted oi (yielded ops a.tmps) = false := by kernel_rfl) : wpAnyH P md ops Q S (fuel + 1) listed a w := wpAnyH_take hi hs hf hr hQ (Or.inr ⟨hw, rfl⟩) hS h
end Go.Proofs.YtinfjdfhkfhgjaaGreatDoor
namespace Go.Proofs.YtinfjdfhkfhgjaaGreatDoor
open Go.RowKit
/-- A string value, said by its list of bytes. -/
def str (l : List UInt8) : Value := .string ⟨l.toArray⟩
/-- Byte k of a list, as a number; 0 behind its end. (A plain def: the walk's simp leaves it as it stands.) -/
def nth (l : List UInt8) (k : Nat) : Nat := (l.getD k 0).toNat
theorem nth_lt (l : List UInt8) (k : Nat) : nth l k < 256 := (l.getD k 0).toNat_lt
theorem nth_of (l : List UInt8) (k : Nat) (h : k < l.length) : nth l k = (l[k]).toNat := by simp [nth, List.getD, h]
theorem nth_ge (l : List UInt8) (k : Nat) (h : l.length ≤ k) : nth l k = 0 := by simp [nth, List.getD, h]
theorem nth_cons_zero (a : UInt8) (l : List UInt8) : nth (a :: l) 0 = a.toNat := rfl
theorem nth_cons_succ (a : UInt8) (l : List UInt8) (k : Nat) : nth (a :: l) (k + 1) = nth l k := rfl
theorem nth_drop (l : List UInt8) (i k : Nat) : nth (l.drop i) k = nth l (i + k) := by simp [nth, List.getD]
theorem str_eq (l : List UInt8) : str l = .string ⟨l.toArray⟩ := rfl
theorem str_of (s : ByteArray) : Value.string s = str s.data.toList := rfl
attribute [local simp] ByteArray.toList_mk
section
variable {P : Program} (w : World)
theorem run_len_str (t ty : TypeId) (l : List UInt8) (h : P.underlying t = some .string) :
 (Builtin.len_ #[t] ty #[str l]).run P w = .ok (.int .i64 l.length) w := by
 rw [str_eq, run_len_string w t ty _ h]; rfl
theorem run_index_str (t : TypeId) (l : List UInt8) (k : IntKind) (i : Int) (h : P.underlying t = some .string) (h0 : 0 ≤ i) (h1 : i < l.length) :
 (Instr.index t (str l) (.int k i)).run P w = .ok (.int .u8 (nth l i.toNat)) w := by
 have h2 : i.toNat < l.length := by omega
 rw [str_eq, run_index_string w t _ k i h, dif_pos ⟨h0, by simpa [ByteArray.size] using h1⟩]
 congr 3
 show (l.toArray[i.toNat]).toNat = _
 rw [nth_of l _ h2]
 simp
theorem run_index_str_if (t : TypeId) (l : List UInt8) (k : IntKind) (i : Int) (h : P.underlying t = some .string) :
 (Instr.index t (str l) (.int k i)).run P w = if 0 ≤ i ∧ i < l.length then .ok (.int .u8 (nth l i.toNat)) w else (boundsPanic k i l.length .index).run P w := by
 by_cases hc : 0 ≤ i ∧ i < (l.length : Int)
 · rw [if_pos hc, run_index_str w t l k i h hc.1 hc.2]
 · rw [if_neg hc, str_eq, run_index_string w t _ k i h, dif_neg (by simpa [ByteArray.size] using hc)]
   simp [ByteArray.size]
theorem run_slice_str_lh (t : TypeId) (l : List UInt8) (k k' : IntKind) (i j : Int) (h : P.underlying t = some .string) (h0 : 0 ≤ i) (h1 : i ≤ j) (h2 : j ≤ l.length) :
 (Instr.slice t (str l) (some (.int k i)) (some (.int k' j)) none).run P w = .ok (str ((l.take j.toNat).drop i.toNat)) w := by
 rw [str_eq, run_slice_string w t _ k k' i j h h0 h1 (by simpa [ByteArray.size] using h2), ByteArray.extract_mk]
 simp [str, List.drop_take]
theorem run_slice_str_l (t : TypeId) (l : List UInt8) (k : IntKind) (i : Int) (h : P.underlying t = some .string) (h0 : 0 ≤ i) (h1 : i ≤ l.length) :
 (Instr.slice t (str l) (some (.int k i)) none none).run P w = .ok (str (l.drop i.toNat)) w := by
 rw [str_eq, run_slice_string_from_if w t _ k i h, if_pos ⟨h0, by simpa [ByteArray.size] using h1⟩, ByteArray.extract_mk, List.take_of_length_le (by simp [ByteArray.size])]
 rfl
theorem run_slice_str_h (t : TypeId) (l : List UInt8) (k : IntKind) (j : Int) (h : P.underlying t = some .string) (h0 : 0 ≤ j) (h1 : j ≤ l.length) :
 (Instr.slice t (str l) none (some (.int k j)) none).run P w = .ok (str (l.take j.toNat)) w := by
 rw [str_eq, run_slice_string_to_if w t _ k j h, if_pos ⟨h0, by simpa [ByteArray.size] using h1⟩, ByteArray.extract_mk]
 simp [str]
theorem run_add_str (t : TypeId) (a b : List UInt8) (h : a.length + b.length ≤ 9223372036854775807) :
 (binOp .add t (str a) (str b)).run P w = .ok (str (a ++ b)) w := by
 rw [str_eq, str_eq, binOp_string_add, run_string_add_sum w _ _ (by simpa [ByteArray.size] using h), ByteArray.mk_append_mk]
 rfl
end
theorem eqGuard_at_str {op : BinOp} {t : TypeId} {x y : Operand} (l : List UInt8) (v : Value) : eqGuard op t x y (str l) v = pure () := by cases op <;> rfl
theorem binOp_eql_str (t : TypeId) (a b : List UInt8) : binOp .eql t (str a) (str b) = pure (.bool (a == b)) := by
 rw [str_eq, str_eq, binOp_string_eql]; simp
theorem binOp_neq_str (t : TypeId) (a b : List UInt8) : binOp .neq t (str a) (str b) = pure (.bool (!(a == b))) := by
 rw [str_eq, str_eq, binOp_string_neq]; simp
theorem run_store_str (P : Program) (w : World) (a : Addr) (m : Mode) (l : List UInt8) : (store a (str l) m).run P w = stored P w a (str l) m := run_store P w a _ m rfl
theorem oneCell'_str (l : List UInt8) : (str l).oneCell' = true := rfl
theorem cells_str (l : List UInt8) : (str l).cells = #[str l] := rfl
/-- (The walk lays 'Value.cells' open before its rules are tried: this one serves behind that.) -/
theorem cells_str2 (l : List UInt8) (f : Array Value → Array Value) (g : Value → Array Value) : Value.cells.match_1 (fun _ => Array Value) (str l) f g = g (str l) := rfl
attribute [go_sem high] cells_str2
theorem run_slice_str_all {P : Program} (w : World) (t : TypeId) (l : List UInt8) (h : P.underlying t = some .string) :
 (Instr.slice t (str l) none none none).run P w = .ok (str l) w := by
 rw [str_eq, run_slice_string_all w t _ h, ByteArray.extract_mk]
 simp [ByteArray.size]
theorem run_slice_str_l_if {P : Program} (w : World) (t : TypeId) (l : List UInt8) (k : IntKind) (i : Int) (h : P.underlying t = some .string) :
 (Instr.slice t (str l) (some (.int k i)) none none).run P w = if 0 ≤ i ∧ i ≤ l.length then .ok (str (l.drop i.toNat)) w else ((boundsPanic k i l.length .sliceB : Sem Nat).run P w).andThen fun a w' => .ok (.string ((ByteArray.mk l.toArray).extract a l.length)) w' := by
 by_cases hc : 0 ≤ i ∧ i ≤ (l.length : Int)
 · rw [if_pos hc, run_slice_str_l w t l k i h hc.1 hc.2]
 · rw [if_neg hc, str_eq, run_slice_string_from_if w t _ k i h, if_neg (by simpa [ByteArray.size] using hc)]
   simp [ByteArray.size]
theorem run_slice_str_h_if {P : Program} (w : World) (t : TypeId) (l : List UInt8) (k : IntKind) (j : Int) (h : P.underlying t = some .string) :
 (Instr.slice t (str l) none (some (.int k j)) none).run P w = if 0 ≤ j ∧ j ≤ l.length then .ok (str (l.take j.toNat)) w else ((boundsPanic k j l.length .sliceAlen : Sem Nat).run P w).andThen fun a w' => .ok (.string ((ByteArray.mk l.toArray).extract 0 a)) w' := by
 by_cases hc : 0 ≤ j ∧ j ≤ (l.length : Int)
 · rw [if_pos hc, run_slice_str_h w t l k j h hc.1 hc.2]
 · rw [if_neg hc, str_eq, run_slice_string_to_if w t _ k j h, if_neg (by simpa [ByteArray.size] using hc)]
   simp [ByteArray.size]
theorem run_add_str_if {P : Program} (w : World) (t : TypeId) (a b : List UInt8) :
 (binOp .add t (str a) (str b)).run P w = if a.length + b.length ≤ 9223372036854775807 then .ok (str (a ++ b)) w else .halt (.unsupported (.resourceLimit "string concatenation: a sum of the lengths that is no int")) w := by
 by_cases hc : a.length + b.length ≤ 9223372036854775807
 · rw [if_pos hc, run_add_str w t a b hc]
 · rw [if_neg hc, str_eq, str_eq, binOp_string_add, run_string_add_if, if_pos (by simp [ByteArray.size]; omega)]
section
variable {P : Program} (w : World) (t ty : TypeId) (l a b : List UInt8)
theorem run_len_lit (h : P.underlying t = some .string) : (Builtin.len_ #[t] ty #[.string ⟨l.toArray⟩]).run P w = .ok (.int .i64 l.length) w := run_len_str w t ty l h
theorem run_index_lit (k : IntKind) (i : Int) (h : P.underlying t = some .string) :
 (Instr.index t (.string ⟨l.toArray⟩) (.int k i)).run P w = if 0 ≤ i ∧ i < l.length then .ok (.int .u8 (nth l i.toNat)) w else (boundsPanic k i l.length .index).run P w := run_index_str_if w t l k i h
theorem run_add_str_lit : (binOp .add t (str a) (.string ⟨b.toArray⟩)).run P w = if a.length + b.length ≤ 9223372036854775807 then .ok (str (a ++ b)) w else .halt (.unsupported (.resourceLimit "string concatenation: a sum of the lengths that is no int")) w := run_add_str_if w t a b
theorem run_add_lit_str : (binOp .add t (.string ⟨a.toArray⟩) (str b)).run P w = if a.length + b.length ≤ 9223372036854775807 then .ok (str (a ++ b)) w else .halt (.unsupported (.resourceLimit "string concatenation: a sum of the lengths that is no int")) w := run_add_str_if w t a b
theorem binOp_eql_str_lit : binOp .eql t (str a) (.string ⟨b.toArray⟩) = pure (.bool (a == b)) := binOp_eql_str t a b
theorem binOp_eql_lit_str : binOp .eql t (.string ⟨a.toArray⟩) (str b) = pure (.bool (a == b)) := binOp_eql_str t a b
theorem binOp_neq_str_lit : binOp .neq t (str a) (.string ⟨b.toArray⟩) = pure (.bool (!(a == b))) := binOp_neq_str t a b
theorem binOp_neq_lit_str : binOp .neq t (.string ⟨a.toArray⟩) (str b) = pure (.bool (!(a == b))) := binOp_neq_str t a b
end
attribute [go_sem high] run_len_lit run_index_lit run_add_str_lit run_add_lit_str binOp_eql_str_lit binOp_eql_lit_str binOp_neq_str_lit binOp_neq_lit_str
attribute [go_sem high] run_len_str run_index_str_if run_slice_str_lh run_slice_str_l_if run_slice_str_h_if run_slice_str_all run_add_str_if eqGuard_at_str binOp_eql_str binOp_neq_str run_store_str oneCell'_str cells_str
theorem belN {B : Nat} {a w : World} (h : Below B a w) (n : Nat) : Below B a (w.drewN n) := ⟨h.os, h.tape, h.output, h.size, h.block⟩
/-- The slice value '.slice A n c' holds the cells xs ('size' cells an element) and lies below block B. -/
def Sl (w : World) (B size : Nat) (A : Option Addr) (n : Nat) (xs : List Value) : Prop :=
 xs.length = n * size ∧ (0 < n → ∃ b off, A = some ⟨b, off, none⟩ ∧ b < B ∧ ∀ j u, xs[j]? = some u → w.cell? ⟨b, off + j, none⟩ = some u)
/-- The address behind a cut 's[k:]'. -/
def cutA (A : Option Addr) (c k size : Nat) : Option Addr := if c = k then A else A.map (·.add (k * size))
section
variable {w w' : World} {B B' size n : Nat} {A : Option Addr} {xs : List Value}
theorem Sl.nil_ (w : World) (B size : Nat) (A : Option Addr) : Sl w B size A 0 [] := ⟨by simp, fun h => absurd h (by omega)⟩
theorem Sl.len (h : Sl w B 1 A n xs) : xs.length = n := by have := h.1; omega
theorem Sl.at_ {k : Nat} (h : Sl w B 1 A n xs) (hk : k < n) : ∃ b off u, A = some ⟨b, off, none⟩ ∧ b < B ∧ xs[k]? = some u ∧ w.cell? ⟨b, off + k, none⟩ = some u := by
 obtain ⟨b, off, e, hb, hc⟩ := h.2 (by omega)
 have hl : k < xs.length := by have := h.1; omega
 exact ⟨b, off, xs[k], e, hb, List.getElem?_eq_getElem hl, hc k _ (List.getElem?_eq_getElem hl)⟩
theorem Sl.keep (h : Sl w B size A n xs) (hk : ∀ p : Addr, p.block < B → w'.cell? p = w.cell? p) : Sl w' B size A n xs :=
 ⟨h.1, fun hn => by
  obtain ⟨b, off, e, hb, hc⟩ := h.2 hn
  exact ⟨b, off, e, hb, fun j u hu => (hk _ hb).trans (hc j u hu)⟩⟩
theorem Sl.more (h : Sl w B size A n xs) (hB : B ≤ B') : Sl w B' size A n xs :=
 ⟨h.1, fun hn => by
  obtain ⟨b, off, e, hb, hc⟩ := h.2 hn
  exact ⟨b, off, e, by omega, hc⟩⟩
theorem Sl.below (h : Sl w B size A n xs) (hb : Below B w w') : Sl w' B size A n xs := h.keep fun _ hp => hb.cell hp
theorem Sl.belowN (h : Sl w B size A n xs) {C : Nat} (hb : Below C w w') (hC : B ≤ C) : Sl w' B size A n xs := h.below (hb.mono hC)
theorem Sl.drew (h : Sl w B size A n xs) : Sl w.drew B size A n xs := h
theorem Sl.drewN (h : Sl w B size A n xs) (k : Nat) : Sl (w.drewN k) B size A n xs := h
theorem Sl.alloc (h : Sl w B size A n xs) (hB : B ≤ w.heap.size) (o : Obj) : Sl (w.alloc o) B size A n xs := h.keep fun p hp => World.cell?_alloc_lt w o p (by omega)
theorem Sl.setCell (h : Sl w B size A n xs) {p : Addr} (hB : B ≤ p.block) (u : Value) : Sl (w.setCell p u) B size A n xs :=
 h.keep fun q hq => World.cell?_setCell_other w p q u (fun e => by subst e; omega)
theorem Sl.grown (h : Sl w B size A n xs) {row : Option Nat} (hg : w.grownBy w' row) (hB : B ≤ w.heap.size) (hr : ∀ g, row = some g → B ≤ g) : Sl w' B size A n xs :=
 h.keep fun p hp => World.cell?_of_block (hg.block p.block (by omega) (fun e => by have := hr _ e.symm; omega))
theorem Sl.cut (h : Sl w B size A n xs) {k c : Nat} (hk : k ≤ n) (hc : n ≤ c) : Sl w B size (cutA A c k size) (n - k) (xs.drop (k * size)) := by
 refine ⟨by rw [List.length_drop, h.1, Nat.sub_mul], fun hn => ?_⟩
 obtain ⟨b, off, rfl, hb, hcell⟩ := h.2 (by omega)
 unfold cutA
 rw [if_neg (by omega)]
 refine ⟨b, off + k * size, by rw [Option.map_some, Addr.add_lit], hb, fun j u hu => ?_⟩
 rw [Nat.add_assoc]
 exact hcell _ u (by rw [← hu, List.getElem?_drop])
theorem Sl.upto (h : Sl w B size A n xs) {k : Nat} (hk : k ≤ n) : Sl w B size A k (xs.take (k * size)) := by
 refine ⟨?_, fun hn => ?_⟩
 · rw [List.length_take, h.1]; exact Nat.min_eq_left (Nat.mul_le_mul_right _ hk)
 · obtain ⟨b, off, rfl, hb, hcell⟩ := h.2 (by omega)
   refine ⟨b, off, rfl, hb, fun j u hu => hcell j u ?_⟩
   rw [List.getElem?_take] at hu
   split at hu
   · exact hu
   · cases hu
theorem Sl.of_own {base : Nat} {e : TypeId} {c : Nat} (h : w.ownsRow base e size (.slice A n c) n xs) : Sl w w.heap.size size A n xs := by
 refine ⟨h.1, fun hn => ?_⟩
 rcases h.2 with ⟨_, h0⟩ | ⟨g, cap, cur, hv, _, hh, _⟩
 · omega
 · have hA : A = some ⟨g, 0, none⟩ := by injection hv
   subst hA
   refine ⟨g, 0, rfl, ?_, fun j u hu => ?_⟩
   · rcases Nat.lt_or_ge g w.heap.size with hlt | hge
     · exact hlt
     · rw [Array.getElem?_eq_none hge] at hh; cases hh
   · have := h.cells (g := g) rfl j u hu
     rwa [Addr.add_lit] at this
/-- A row of cells in one block. -/
theorem Sl.of_block {g off : Nat} {cs : Array Value} {t : TypeId} {fr : Nat × Nat} (hg : w.heap[g]? = some (.cells cs t fr)) (hl : xs.length = n * size) (hx : ∀ j u, xs[j]? = some u → cs[off + j]? = some u) : Sl w w.heap.size size (some ⟨g, off, none⟩) n xs := by
 refine ⟨hl, fun _ => ⟨g, off, rfl, ?_, fun j u hu => ?_⟩⟩
 · rcases Nat.lt_or_ge g w.heap.size with hlt | hge
   · exact hlt
   · rw [Array.getElem?_eq_none hge] at hg; cases hg
 · simp [World.cell?, hg, hx j u hu]
end
/-- One new cell; a new row. -/
theorem Sl.one (w : World) (t : TypeId) (v : Value) : Sl (w.alloc (.cells #[v] t)) (w.heap.size + 1) 1 (some ⟨w.heap.size, 0, none⟩) 1 [v] := by
 have h := Sl.of_block (w := w.alloc (.cells #[v] t)) (g := w.heap.size) (off := 0) (size := 1) (n := 1) (xs := [v]) (heap_alloc_new w _) rfl (fun j u hu => by
  match j, hu with
  | 0, hu => simpa using hu)
 simpa using h
theorem Sl.row (w : World) (t : TypeId) (size n : Nat) (l : List Value) (h : l.length = n * size) : Sl (w.alloc (.cells l.toArray t)) (w.heap.size + 1) size (some ⟨w.heap.size, 0, none⟩) n l := by
 have h := Sl.of_block (w := w.alloc (.cells l.toArray t)) (g := w.heap.size) (off := 0) (size := size) (n := n) (xs := l) (heap_alloc_new w _) h (fun j u hu => by
  rw [Nat.zero_add]; simpa using hu)
 simpa using h
/-- The length in a slot that holds a slice: for a loop's measure. -/
def lenOf : Value → Nat | .slice _ n _ => n | _ => 0
/-- The slice value '.slice A n c' holds the bytes l. -/
def By (w : World) (B : Nat) (A : Option Addr) (n : Nat) (l : List UInt8) : Prop := Sl w B 1 A n (Lib.byteCells l)
section
variable {w w' : World} {B B' n : Nat} {A : Option Addr} {l : List UInt8}
theorem By.len (h : By w B A n l) : l.length = n := by have := Sl.len h; simpa [Lib.byteCells] using this
theorem By.nil_ (w : World) (B : Nat) (A : Option Addr) : By w B A 0 [] := Sl.nil_ w B 1 A
theorem By.at_ {k : Nat} (h : By w B A n l) (hk : k < n) : ∃ b off, A = some ⟨b, off, none⟩ ∧ b < B ∧ w.cell? ⟨b, off + k, none⟩ = some (.int .u8 (nth l k)) := by
 obtain ⟨b, off, u, hA, hb, hu, hc⟩ := Sl.at_ h hk
 have hl : k < l.length := by rw [h.len]; exact hk
 refine ⟨b, off, hA, hb, hc.trans ?_⟩
 rw [← hu, nth_of l k hl]
 simp [Lib.byteCells, hl]
theorem By.opn (h : By w B A n l) (hn : 0 < n) : ∃ b off, A = some ⟨b, off, none⟩ ∧ b < B ∧ ∀ k, k < n → w.cell? ⟨b, off + k, none⟩ = some (.int .u8 (nth l k)) := by
 obtain ⟨b, off, hA, hb, hc⟩ := And.right h hn
 refine ⟨b, off, hA, hb, fun k hk => hc k _ ?_⟩
 have hl : k < l.length := by rw [h.len]; exact hk
 rw [nth_of l k hl]
 simp [Lib.byteCells, hl]
theorem By.keep (h : By w B A n l) (hk : ∀ p : Addr, p.block < B → w'.cell? p = w.cell? p) : By w' B A n l := Sl.keep h hk
theorem By.more (h : By w B A n l) (hB : B ≤ B') : By w B' A n l := Sl.more h hB
theorem By.below (h : By w B A n l) (hb : Below B w w') : By w' B A n l := Sl.below h hb
theorem By.belowN (h : By w B A n l) {C : Nat} (hb : Below C w w') (hC : B ≤ C) : By w' B A n l := Sl.belowN h hb hC
theorem By.alloc (h : By w B A n l) (hB : B ≤ w.heap.size) (o : Obj) : By (w.alloc o) B A n l := Sl.alloc h hB o
theorem By.cut (h : By w B A n l) {k c : Nat} (hk : k ≤ n) (hc : n ≤ c) : By w B (cutA A c k 1) (n - k) (l.drop k) := by
 have := Sl.cut h hk hc
 simpa [By, Lib.byteCells, List.map_drop] using this
theorem By.upto (h : By w B A n l) {k : Nat} (hk : k ≤ n) : By w B A k (l.take k) := by
 have := Sl.upto h hk
 simpa [By, Lib.byteCells, List.map_take] using this
/-- A block that holds just these bytes (laid by a literal, or by a conversion: with a mark). -/
theorem By.block (w : World) (l : List UInt8) {g n : Nat} {e : TypeId} {fr : Nat × Nat} (hg : g = w.heap.size) (hn : n = l.length := by rfl) : By (w.alloc (.cells (Lib.byteCells l).toArray e fr)) (w.alloc (.cells (Lib.byteCells l).toArray e fr)).heap.size (some ⟨g, 0, none⟩) n l := by
 subst hg; subst hn
 exact Sl.of_block (heap_alloc_new w _) (by simp [Lib.byteCells]) (fun j u hu => by rw [Nat.zero_add]; simpa using hu)
theorem By.of_own {base : Nat} {e : TypeId} {c : Nat} (h : w.ownsRow base e 1 (.slice A n c) n (Lib.byteCells l)) : By w w.heap.size A n l := Sl.of_own h
end
/-- The cells of a list of ints that are not below 0. -/
def intCells (l : List Nat) : List Value := l.map fun x : Nat => Value.int .i64 (x : Int)
theorem intCells_len (l : List Nat) : (intCells l).length = l.length := by simp [intCells]
theorem intCells_append (a b : List Nat) : intCells (a ++ b) = intCells a ++ intCells b := by simp [intCells]
theorem intCells_at (l : List Nat) (k : Nat) (h : k < l.length) : (intCells l)[k]? = some (.int .i64 ((l.getD k 0 : Nat) : Int)) := by simp [intCells, h]
theorem ofInt_i64 (a : Nat) (ha : a < 9223372036854775808) : (BitVec.ofInt 64 (a : Int)).toNat = a := by
 rw [BitVec.ofInt_natCast, BitVec.toNat_ofNat]; exact Nat.mod_eq_of_lt (by omega)
theorem i64_and (a b : Nat) (ha : a < 9223372036854775808) (hb : b < 9223372036854775808) : bits .and .i64 (a : Int) (b : Int) = ((a &&& b : Nat) : Int) := by
 have hx : a &&& b < 2 ^ 63 := Nat.and_lt_two_pow _ (by omega)
 show IntKind.i64.wrap ((BitVec.ofInt 64 (a : Int) &&& BitVec.ofInt 64 (b : Int)).toNat : Int) = _
 rw [BitVec.toNat_and, ofInt_i64 a ha, ofInt_i64 b hb, IntKind.wrap_i64]
 omega
theorem i64_or (a b : Nat) (ha : a < 9223372036854775808) (hb : b < 9223372036854775808) : bits .or .i64 (a : Int) (b : Int) = ((a ||| b : Nat) : Int) := by
 have hx : a ||| b < 2 ^ 63 := Nat.or_lt_two_pow (by omega) (by omega)
 show IntKind.i64.wrap ((BitVec.ofInt 64 (a : Int) ||| BitVec.ofInt 64 (b : Int)).toNat : Int) = _
 rw [BitVec.toNat_or, ofInt_i64 a ha, ofInt_i64 b hb, IntKind.wrap_i64]
 omega
theorem or_low (a b k : Nat) (hb : b < 2 ^ k) : (a * 2 ^ k) ||| b = a * 2 ^ k + b := by
 rw [Nat.mul_comm, Nat.two_pow_add_eq_or_of_lt hb]
theorem or_low8 (a b : Nat) (hb : b < 256) : (a * 256) ||| b = a * 256 + b := or_low a b 8 (by omega)
theorem and_63 (a : Nat) : a &&& 63 = a % 64 := Nat.and_two_pow_sub_one_eq_mod a 6
section
variable {P : Program}
/-- '[]byte(s)'. -/
theorem run_toBytes (w : World) (src dst e : TypeId) (l : List UInt8) (hs : P.underlying src = some .string) (hd : P.underlying dst = some (.slice e)) (he : P.underlying e = some (.int .u8)) :
 ∃ A c w', (convert src dst (str l)).run P w = .ok (.slice A l.length c) w' ∧ By w' w'.heap.size A l.length l ∧ l.length ≤ c ∧ Below w.heap.size w w' ∧ w.heap.size < w'.heap.size := by
 refine ⟨_, _, _, run_bytes_of_string w src dst e ⟨l.toArray⟩ hs hd he, ?_, ?_, ?_, ?_⟩
 · refine Sl.of_block (g := w.heap.size) (heap_alloc_new w.drew _) (by simp [Lib.byteCells]) fun j u hu => ?_
   rw [Nat.zero_add]
   have hj : j < l.length := by
    rcases Nat.lt_or_ge j l.length with h | h
    · exact h
    · simp [Lib.byteCells, List.getElem?_eq_none h] at hu
   rw [bytesRow_at ⟨l.toArray⟩ _ j (by simpa using hj)]
   simp [Lib.byteCells, hj] at hu
   simpa using hu
 · exact grownCap_ge _ _ _ _
 · exact (Below.drew (Below.refl _ w)).alloc (Nat.le_refl _) _
 · simp
/-- 'string(b)'. -/
theorem run_toStr (w : World) (src dst e : TypeId) (B : Nat) (A : Option Addr) (n c : Nat) (l : List UInt8) (hb : By w B A n l) (hs : P.underlying src = some (.slice e)) (he : P.underlying e = some (.int .u8)) (hd : P.underlying dst = some .string) :
 (convert src dst (.slice A n c)).run P w = .ok (str l) w := by
 have hl := hb.len
 subst hl
 rcases Nat.eq_zero_or_pos l.length with h0 | h0
 · have hnil : l = [] := List.eq_nil_of_length_eq_zero h0
   subst hnil
   cases A with
   | none => rw [run_convert_bytes_nil w src e hs he _ _ dst hd]; rfl
   | some a => exact run_convert_bytes_back w src dst e a c [] hs he hd (fun j hj => absurd hj (by simp))
 · obtain ⟨b, off, rfl, _, hc⟩ := hb.2 h0
   refine run_convert_bytes_back w src dst e ⟨b, off, none⟩ c l hs he hd (fun j hj => ?_)
   rw [Addr.add_lit]
   exact hc j _ (by simp [Lib.byteCells, hj])
theorem elem_of {t e : TypeId} (ht : P.underlying t = some (.slice e)) : P.elem t = e := by
 simp [Program.elem, ht]
/-- 's[k:]'. -/
theorem run_cut (w : World) (t e : TypeId) (size : Nat) (ht : P.underlying t = some (.slice e)) (hs : (sizeOf e).run P w = .ok size w) (A : Option Addr) (n c : Nat) (ki : IntKind) (k : Int) (h0 : 0 ≤ k) (h1 : k ≤ n) :
 (Instr.slice t (.slice A n c) (some (.int ki k)) none none).run P w = .ok (.slice (cutA A c k.toNat size) (n - k.toNat) (c - k.toNat)) w := by
 have he := elem_of ht
 rw [run_slice_l w t A n c (by rw [he]; exact ht) ki k h0 h1, he, hs]
 rfl
/-- 's[:k]'. -/
theorem run_upto (w : World) (t e : TypeId) (size : Nat) (ht : P.underlying t = some (.slice e)) (hs : (sizeOf e).run P w = .ok size w) (A : Option Addr) (n c : Nat) (ki : IntKind) (k : Int) (h0 : 0 ≤ k) (h1 : k ≤ n) (hc : n ≤ c) :
 (Instr.slice t (.slice A n c) none (some (.int ki k)) none).run P w = .ok (.slice (cutA A c 0 size) k.toNat c) w := by
 have he := elem_of ht
 rw [run_slice_h w t A n c (by rw [he]; exact ht) ki k h0 (by omega), he, hs]
 rfl
/-- 's[i:j]'. -/
theorem run_mid (w : World) (t e : TypeId) (size : Nat) (ht : P.underlying t = some (.slice e)) (hs : (sizeOf e).run P w = .ok size w) (A : Option Addr) (n c : Nat) (ki kj : IntKind) (i j : Int) (h0 : 0 ≤ i) (h1 : i ≤ j) (h2 : j ≤ n) (hc : n ≤ c) :
 (Instr.slice t (.slice A n c) (some (.int ki i)) (some (.int kj j)) none).run P w = .ok (.slice (cutA A c i.toNat size) (j.toNat - i.toNat) (c - i.toNat)) w := by
 have he := elem_of ht
 rw [run_slice_lh w t A n c (by rw [he]; exact ht) ki kj i j h0 h1 (by omega), he, hs]
 rfl
/-- 'append(s, x...)' onto a slice of the call's own: whatever is appended, nil and empty too. -/
theorem run_app (w : World) (base : Nat) (t ty e : TypeId) (i : TypeInfo) (z : Value) (size bytes : Nat) (ht : P.underlying t = some (.slice e)) (hi : P.info? e = some i) (hz : i.zero = some z)
 (hsize : i.size = size) (hby : i.bytes = bytes) (hzs : z.cells.size = size) (hsz : 0 < size)
 (S : Option Addr) (n cs : Nat) (xs : List Value) (hown : w.ownsRow base e size (.slice S n cs) n xs)
 (B : Nat) (A : Option Addr) (m c : Nat) (news : List Value) (hr : Sl w B size A m news) (h1 : ∀ u ∈ news, u.oneCell' = true)
 (h63 : n + m ≤ maxLen) (hbytes : (n + m) * bytes ≤ 140737488355328) (hbase : base ≤ w.heap.size) :
 ∃ S' c' w', (Builtin.append_ #[t, t] ty #[.slice S n cs, .slice A m c]).run P w = .ok (.slice S' (n + m) c') w' ∧ w'.ownsRow base e size (.slice S' (n + m) c') (n + m) (xs ++ news) ∧
  w.grownBy w' (Value.ownBlock (.slice S n cs)) ∧ (Value.ownBlock (.slice S' (n + m) c') = Value.ownBlock (.slice S n cs) ∨ Value.ownBlock (.slice S' (n + m) c') = some w.heap.size) := by
 have form : ∀ {v : Value} {w' : World} {k : Nat} {ys : List Value}, w'.ownsRow base e size v k ys → ∃ S' c', v = .slice S' k c' := by
  intro v w' k ys h
  rcases h.2 with ⟨hv, h0⟩ | ⟨g, cap, cur, hv, _⟩
  · exact ⟨none, 0, by rw [hv, h0]⟩
  · exact ⟨_, _, hv⟩
 rcases A with _ | ad
 · have hm : m = 0 := by
    rcases Nat.eq_zero_or_pos m with h0 | h0
    · exact h0
    · obtain ⟨_, _, h, _⟩ := hr.2 h0
      cases h
   subst hm
   have hn : news = [] := List.eq_nil_of_length_eq_zero (by simpa using hr.1)
   subst hn
   refine ⟨S, cs, w, ?_, by simpa using hown, World.grownBy.refl w _, .inl rfl⟩
   rcases hown.2 with ⟨hv, h0⟩ | ⟨g, cap, cur, hv, _, _, hnc, _⟩
   · injection hv with hS hn0 hcs
     subst hS; subst hn0; subst hcs
     simp [Builtin.append_, run_underlying ht, sizeOf, typeInfo, hi, Builtin.lenOf, Builtin.firstCells]
   · injection hv with hS hn0 hcs
     subst hS; subst hcs
     simp [Builtin.append_, run_underlying ht, sizeOf, typeInfo, hi, Builtin.lenOf, Builtin.firstCells, hnc, storeCells]
 · have hcells : ∀ j u, news[j]? = some u → w.cell? (ad.add j) = some u := by
    intro j u hu
    rcases Nat.eq_zero_or_pos m with h0 | h0
    · subst h0
      have hn : news = [] := List.eq_nil_of_length_eq_zero (by simpa using hr.1)
      subst hn
      simp at hu
    · obtain ⟨b, off, h, _, hc⟩ := hr.2 h0
      injection h with h
      subst h
      rw [Addr.add_lit]
      exact hc j u hu
   obtain ⟨v', w', hrun, h2, h3, _, h5⟩ := run_append_own_at (P := P) w base t ty e i z size bytes ht hi hz hsize hby hzs hsz _ n xs hown ad m c news hr.1 hcells h1 h63 hbytes hbase
   obtain ⟨S', c', rfl⟩ := form h2
   exact ⟨S', c', w', hrun, h2, h3, h5⟩
theorem wpList_app {w : World} {ops : Array Oper} {rest : List Oper} {o : Oper} {a : Act} {Q : Exit → Act → World → Prop} (hgd : o.guard = none) (s x : Operand) (t : TypeId)
 (ho : o.op = .call { callee := .builtin .append, args := #[s, x], argTypes := #[t, t] })
 (base : Nat) (e : TypeId) (i : TypeInfo) (z : Value) (size bytes : Nat) (ht : P.underlying t = some (.slice e)) (hi : P.info? e = some i) (hz : i.zero = some z)
 (hsize : i.size = size) (hby : i.bytes = bytes) (hzs : z.cells.size = size) (hsz : 0 < size)
 (S : Option Addr) (n cs : Nat) (xs : List Value) (hs : a.eval s = .slice S n cs) (hown : w.ownsRow base e size (.slice S n cs) n xs)
 (B : Nat) (A : Option Addr) (m c : Nat) (news : List Value) (hx : a.eval x = .slice A m c) (hr : Sl w B size A m news) (h1 : ∀ u ∈ news, u.oneCell' = true)
 (h63 : n + m ≤ maxLen) (hbytes : (n + m) * bytes ≤ 140737488355328) (hbase : base ≤ w.heap.size)
 (h : ∀ S' c' w', w'.ownsRow base e size (.slice S' (n + m) c') (n + m) (xs ++ news) → Below base w w' → w.grownBy w' (Value.ownBlock (.slice S n cs)) → wpList P ops Q rest (a.put o.dst (.slice S' (n + m) c')) w') : wpList P ops Q (o :: rest) a w := by
 refine wpList_plain hgd fun K hK => ?_
 obtain ⟨S', c', w', hrun, h2, h3, h4⟩ := run_app (P := P) w base t o.type e i z size bytes ht hi hz hsize hby hzs hsz S n cs xs hown B A m c news hr h1 h63 hbytes hbase
 unfold Oper.wp execOp
 simp only [ho, resolve, invoke, builtin, Sem.run_bind, Sem.run_pure, Result.andThen_ok, List.map_toArray, List.map_cons, List.map_nil, hs, hx, hrun]
 exact hK _ _ (h S' c' w' h2 ((Below.refl base w).grown h3 hbase (fun k hk => (hown.lt k hk).1)) h3)
/-- A slice expression whose run is known. -/
theorem wpList_slice {w w' : World} {v : Value} {ops : Array Oper} {rest : List Oper} {o : Oper} {a : Act} {Q : Exit → Act → World → Prop} (hgd : o.guard = none) (t : TypeId) (x : Operand) (lo hi mx : Option Operand)
 (ho : o.op = .slice t x lo hi mx) (hrun : (Instr.sliceAt t (a.eval x) (lo.map a.eval) (hi.map a.eval) (mx.map a.eval)).run P w = .ok v w') (hk : wpList P ops Q rest (a.put o.dst v) w') : wpList P ops Q (o :: rest) a w := by
 refine wpList_plain hgd fun K hK => ?_
 unfold Oper.wp execOp
 simp only [ho, Sem.run_bind, hrun, Result.andThen_ok, Sem.run_pure]
 exact hK _ _ hk
end
end Go.Proofs.YtinfjdfhkfhgjaaGreatDoor
namespace Go.Proofs.YtinfjdfhkfhgjaaGreatDoor
open Go.ChangeShapes Go.WideShapes Go.ChangeAt Go.RowKit
open Go.ChangeMaps (open_string shut_string)
theorem own : ownKnob Tryz.prog.godebug = none := by kernel_rfl
theorem laidOut : laidOutB Tryz.prog = true := by kernel_rfl
/-- What the walk is told of a slice of integers that came in. -/
def IsRow (k : IntKind) (w : World) (a : Option Addr) (len cap : Nat) (zs : List Int) : Prop :=
 (a = none ∧ len = 0 ∧ cap = 0 ∧ zs = []) ∨
 ∃ x, a = some x ∧ len ≤ cap ∧ cap ≤ maxLen ∧ zs.length = cap ∧ (∀ i, i < zs.length → w.cell? (x.add i) = some (.int k (zs.getD i 0))) ∧ ∀ n ∈ zs, (Lit.int k n).wf = true
theorem cell_lt {w : World} {a : Addr} {v : Value} (h : w.cell? a = some v) : a.block < w.heap.size := by
 rcases Nat.lt_or_ge a.block w.heap.size with h' | h'
 · exact h'
 · simp [World.cell?, Array.getElem?_eq_none h'] at h
/-- A slice of bytes that came in, as a list of bytes. -/
theorem IsRow.toBy {w : World} {a : Option Addr} {len cap : Nat} {zs : List Int} (h : IsRow .u8 w a len cap zs) : ∃ l, By w w.heap.size a len l ∧ len ≤ cap ∧ cap ≤ maxLen := by
 rcases h with ⟨rfl, rfl, rfl, rfl⟩ | ⟨x, rfl, hl, hm, hz, hcell, hwf⟩
 · exact ⟨[], By.nil_ _ _ _, Nat.le_refl _, Nat.zero_le _⟩
 · refine ⟨(zs.take len).map fun z => UInt8.ofNat z.toNat, ⟨by simp [Lib.byteCells]; omega, fun h0 => ?_⟩, hl, hm⟩
   obtain ⟨b, off, rfl, hc⟩ := ints_at hcell (by omega)
   refine ⟨b, off, rfl, ?_, fun j u hu => ?_⟩
   · exact cell_lt (hc 0 (by omega))
   · have hj : j < len := by
      rcases Nat.lt_or_ge j len with h' | h'
      · exact h'
      · rw [List.getElem?_eq_none (by simp [Lib.byteCells]; omega)] at hu; cases hu
     have hjz : j < zs.length := by omega
     rw [hc j hjz]
     have hmem : zs[j] ∈ zs := List.getElem_mem hjz
     have hb := bounds_u8 (hwf _ hmem)
     have e : ((UInt8.ofNat zs[j].toNat).toNat : Int) = zs[j] := by rw [UInt8.toNat_ofNat']; omega
     have e2 : (Lib.byteCells ((zs.take len).map fun z => UInt8.ofNat z.toNat))[j]? = some (.int .u8 ((UInt8.ofNat zs[j].toNat).toNat : Int)) := by
      simp [Lib.byteCells, hj, hjz]
     rw [e2] at hu
     rw [← hu, e]
     simp [List.getD, hjz]
end Go.Proofs.YtinfjdfhkfhgjaaGreatDoor
namespace Go.Proofs.YtinfjdfhkfhgjaaGreatDoor
/-- The first place of a byte; -1: none. -/
def idxB (l : List UInt8) (x : Nat) : Int := Lib.indexByte l (UInt8.ofNat x)
/-- What parts something. -/
def tspec : List UInt8 := [40, 41, 60, 62, 64, 44, 59, 58, 92, 34, 47, 91, 93, 63, 61]
def badTok (x : Nat) : Bool := decide (x ≤ 32) || decide (126 < x) || decide (0 ≤ idxB tspec x)
/-- header.Token. -/
def tokB (l : List UInt8) : Bool := !(l == []) && decide (l.length ≤ 30) && !l.any (fun b => badTok b.toNat)
def upR (r : Nat) : Bool := decide (65 ≤ r) && decide (r ≤ 90)
/-- part.Type. -/
def typB (l : List UInt8) : Bool :=
 (Lib.cut l [47]).2.2 && tokB (Lib.cut l [47]).1 && tokB (Lib.cut l [47]).2.1 && !l.any (fun b => upR b.toNat)
/-- part.Many. -/
def manyB (l : List UInt8) : Bool := Lib.hasPrefix l [109, 117, 108, 116, 105, 112, 97, 114, 116, 47]
def badWord (x : Nat) : Bool := decide (x ≤ 32) || decide (126 < x) || x == 34 || x == 60 || x == 62
/-- part.Word. -/
def wordB (l : List UInt8) : Bool := decide (l.length ≤ 120) && !l.any (fun b => badWord b.toNat)
theorem tok_ascii (l : List UInt8) (h : tokB l = true) : ∀ b ∈ l, b.toNat < 128 := by
 intro b hb
 simp only [tokB, Bool.and_eq_true, Bool.not_eq_true'] at h
 have := List.any_eq_false.1 h.2 b hb
 simp [badTok] at this
 omega
theorem cut_backT (l : List UInt8) (c : UInt8) (h : (Lib.cut l [c]).2.2 = true) : l = (Lib.cut l [c]).1 ++ c :: (Lib.cut l [c]).2.1 := by
 have hge := Lib.indexByte_ge l c
 unfold Lib.cut at h ⊢
 rw [Lib.index_one] at h ⊢
 by_cases h0 : 0 ≤ Lib.indexByte l c
 · rw [if_pos h0]
   obtain ⟨k, hk⟩ := Int.eq_ofNat_of_zero_le h0
   rw [hk, Int.toNat_natCast]
   have h1 := (Lib.indexByte_some hk).1
   have hl : k < l.length := by
    rcases Nat.lt_or_ge k l.length with h | h
    · exact h
    · rw [List.getElem?_eq_none h] at h1; cases h1
   have h2 : l[k] = c := by rw [List.getElem?_eq_getElem hl] at h1; exact Option.some.inj h1
   show l = l.take k ++ c :: l.drop (k + 1)
   rw [← h2, ← List.drop_eq_getElem_cons hl, List.take_append_drop]
 · rw [if_neg h0] at h
   cases h
theorem typ_ascii (l : List UInt8) (h0 : (Lib.cut l [47]).2.2 = true) (h1 : tokB (Lib.cut l [47]).1 = true) (h2 : tokB (Lib.cut l [47]).2.1 = true) : ∀ b ∈ l, b.toNat < 128 := by
 intro b hb
 rw [cut_backT l 47 h0] at hb
 simp only [List.mem_append, List.mem_cons] at hb
 rcases hb with hb | rfl | hb
 · exact tok_ascii _ h1 b hb
 · decide
 · exact tok_ascii _ h2 b hb
end Go.Proofs.YtinfjdfhkfhgjaaGreatDoor
namespace Go.Proofs.YtinfjdfhkfhgjaaGreatDoor
open Go.RowKit
/-- A part, as data. -/
structure PartD where
 type : List UInt8
 cs : List UInt8
 id : List UInt8
 loc : List UInt8
 how : Int
 body : List UInt8
 parts : List PartD
def SlS (S : Nat → Prop) (w : World) (size : Nat) (A : Option Addr) (n : Nat) (xs : List Value) : Prop :=
 xs.length = n * size ∧ (0 < n → ∃ b off, A = some ⟨b, off, none⟩ ∧ S b ∧ ∀ j u, xs[j]? = some u → w.cell? ⟨b, off + j, none⟩ = some u)
theorem SlS.change {S S' : Nat → Prop} {w w' : World} {size n : Nat} {A : Option Addr} {xs : List Value} (h : SlS S w size A n xs) (hS : ∀ b, S b → S' b) (hk : ∀ p : Addr, S p.block → w'.cell? p = w.cell? p) : SlS S' w' size A n xs :=
 ⟨h.1, fun hn => by
  obtain ⟨b, off, e, hb, hc⟩ := h.2 hn
  exact ⟨b, off, e, hS b hb, fun j u hu => (hk _ hb).trans (hc j u hu)⟩⟩
mutual
/-- The seven cells of a part, and what they lead to. -/
def PartAt (S : Nat → Prop) (w : World) : PartD → List Value → Prop
 | ⟨t, cs, id, loc, how, body, parts⟩, v => ∃ A n c A2 n2 c2 rows, v = [str t, str cs, str id, str loc, .int .i64 how, .slice A n c, .slice A2 n2 c2] ∧
  (t.length ≤ maxLen ∧ cs.length ≤ maxLen ∧ id.length ≤ maxLen ∧ loc.length ≤ maxLen ∧ -9223372036854775808 ≤ how ∧ how ≤ 9223372036854775807) ∧
  SlS S w 1 A n (Lib.byteCells body) ∧ n ≤ c ∧ c ≤ maxLen ∧ SlS S w 7 A2 n2 rows.flatten ∧ n2 ≤ c2 ∧ c2 ≤ maxLen ∧ PartsAt S w parts rows
def PartsAt (S : Nat → Prop) (w : World) : List PartD → List (List Value) → Prop
 | [], rows => rows = []
 | p :: ps, rows => ∃ r rs, rows = r :: rs ∧ PartAt S w p r ∧ PartsAt S w ps rs
end
/-- A slice of parts. -/
def SlP (S : Nat → Prop) (w : World) (A : Option Addr) (n : Nat) (ps : List PartD) : Prop :=
 ∃ rows, SlS S w 7 A n rows.flatten ∧ PartsAt S w ps rows
section
variable {S S' : Nat → Prop} {w w' : World}
mutual
theorem PartAt.change (hS : ∀ b, S b → S' b) (hk : ∀ p : Addr, S p.block → w'.cell? p = w.cell? p) : ∀ (p : PartD) (v : List Value), PartAt S w p v → PartAt S' w' p v
 | ⟨t, cs, id, loc, how, body, parts⟩, v, h => by
  obtain ⟨A, n, c, A2, n2, c2, rows, h1, h2, h3, h4, h5, h6, h7, h8, h9⟩ := h
  exact ⟨A, n, c, A2, n2, c2, rows, h1, h2, h3.change hS hk, h4, h5, h6.change hS hk, h7, h8, PartsAt.change hS hk parts rows h9⟩
theorem PartsAt.change (hS : ∀ b, S b → S' b) (hk : ∀ p : Addr, S p.block → w'.cell? p = w.cell? p) : ∀ (ps : List PartD) (rows : List (List Value)), PartsAt S w ps rows → PartsAt S' w' ps rows
 | [], _, h => h
 | p :: ps, _, h => by
  obtain ⟨r, rs, h1, h2, h3⟩ := h
  exact ⟨r, rs, h1, PartAt.change hS hk p r h2, PartsAt.change hS hk ps rs h3⟩
end
theorem SlP.change {A : Option Addr} {n : Nat} {ps : List PartD} (h : SlP S w A n ps) (hS : ∀ b, S b → S' b) (hk : ∀ p : Addr, S p.block → w'.cell? p = w.cell? p) : SlP S' w' A n ps := by
 obtain ⟨rows, h1, h2⟩ := h
 exact ⟨rows, h1.change hS hk, PartsAt.change hS hk _ _ h2⟩
theorem PartAt.below {B : Nat} {p : PartD} {v : List Value} (h : PartAt (· < B) w p v) (hb : Below B w w') : PartAt (· < B) w' p v :=
 PartAt.change (fun _ h => h) (fun _ hp => hb.cell hp) p v h
theorem PartAt.belowN {B C : Nat} {p : PartD} {v : List Value} (h : PartAt (· < B) w p v) (hb : Below C w w') (hC : B ≤ C) : PartAt (· < B) w' p v := h.below (hb.mono hC)
theorem PartAt.more {B C : Nat} {p : PartD} {v : List Value} (h : PartAt (· < B) w p v) (hC : B ≤ C) : PartAt (· < C) w p v :=
 PartAt.change (fun _ h => Nat.lt_of_lt_of_le h hC) (fun _ _ => rfl) p v h
theorem SlP.below {B : Nat} {A : Option Addr} {n : Nat} {ps : List PartD} (h : SlP (· < B) w A n ps) (hb : Below B w w') : SlP (· < B) w' A n ps :=
 h.change (fun _ h => h) (fun _ hp => hb.cell hp)
theorem SlP.belowN {B C : Nat} {A : Option Addr} {n : Nat} {ps : List PartD} (h : SlP (· < B) w A n ps) (hb : Below C w w') (hC : B ≤ C) : SlP (· < B) w' A n ps := h.below (hb.mono hC)
theorem SlP.more {B C : Nat} {A : Option Addr} {n : Nat} {ps : List PartD} (h : SlP (· < B) w A n ps) (hC : B ≤ C) : SlP (· < C) w A n ps :=
 h.change (fun _ h => Nat.lt_of_lt_of_le h hC) (fun _ _ => rfl)
theorem PartsAt.len : ∀ (ps : List PartD) (rows : List (List Value)), PartsAt S w ps rows → rows.length = ps.length
 | [], _, h => by rw [show _ = [] from h]; rfl
 | p :: ps, _, h => by
  obtain ⟨r, rs, rfl, _, h3⟩ := h
  simp [PartsAt.len ps rs h3]
theorem PartAt.row {p : PartD} {v : List Value} (h : PartAt S w p v) : v.length = 7 := by
 obtain ⟨t, cs, id, loc, how, body, parts⟩ := p
 obtain ⟨A, n, c, A2, n2, c2, rows, rfl, _⟩ := h
 rfl
theorem PartsAt.rows : ∀ (ps : List PartD) (rows : List (List Value)), PartsAt S w ps rows → ∀ r ∈ rows, r.length = 7
 | [], _, h => by rw [show _ = [] from h]; simp
 | p :: ps, _, h => by
  obtain ⟨r, rs, rfl, h2, h3⟩ := h
  intro x hx
  rcases List.mem_cons.1 hx with rfl | hx
  · exact h2.row
  · exact PartsAt.rows ps rs h3 x hx
theorem PartsAt.app : ∀ (ps : List PartD) (rows : List (List Value)) (qs : List PartD) (rows' : List (List Value)), PartsAt S w ps rows → PartsAt S w qs rows' → PartsAt S w (ps ++ qs) (rows ++ rows')
 | [], _, _, _, h, h' => by rw [show _ = [] from h]; exact h'
 | p :: ps, _, qs, rows', h, h' => by
  obtain ⟨r, rs, rfl, h2, h3⟩ := h
  exact ⟨r, rs ++ rows', rfl, h2, PartsAt.app ps rs qs rows' h3 h'⟩
theorem PartsAt.get : ∀ (ps : List PartD) (rows : List (List Value)), PartsAt S w ps rows → ∀ i (h : i < ps.length), ∃ r, rows[i]? = some r ∧ PartAt S w ps[i] r
 | [], _, _ => fun i h => absurd h (by simp)
 | p :: ps, _, h => by
  obtain ⟨r, rs, rfl, h2, h3⟩ := h
  intro i hi
  match i, hi with
  | 0, _ => exact ⟨r, rfl, h2⟩
  | i + 1, hi => exact PartsAt.get ps rs h3 i (by simpa using hi)
theorem PartsAt.mk : ∀ (ps : List PartD) (rows : List (List Value)), rows.length = ps.length → (∀ i (h : i < ps.length), ∃ r, rows[i]? = some r ∧ PartAt S w ps[i] r) → PartsAt S w ps rows
 | [], rows, hl, _ => List.eq_nil_of_length_eq_zero hl
 | p :: ps, [], hl, _ => by simp at hl
 | p :: ps, r :: rs, hl, h => by
  obtain ⟨r', h1, h2⟩ := h 0 (by simp)
  simp at h1
  subst h1
  exact ⟨r, rs, rfl, h2, PartsAt.mk ps rs (by simpa using hl) fun i hi => h (i + 1) (by simpa using hi)⟩
theorem flat7_len : ∀ (rows : List (List Value)), (∀ r ∈ rows, r.length = 7) → rows.flatten.length = rows.length * 7
 | [], _ => rfl
 | r :: rs, h => by
  rw [List.flatten_cons, List.length_append, h r (by simp), flat7_len rs (fun x hx => h x (by simp [hx])), List.length_cons]
  omega
theorem flat7_at : ∀ (rows : List (List Value)), (∀ r ∈ rows, r.length = 7) → ∀ (i k : Nat) (r : List Value), rows[i]? = some r → k < 7 → rows.flatten[i * 7 + k]? = r[k]?
 | [], _ => fun i k r hr _ => by simp at hr
 | x :: rs, h => by
  intro i k r hr hk
  have hx := h x (by simp)
  match i, hr with
  | 0, hr =>
   simp at hr; subst hr
   rw [List.flatten_cons, List.getElem?_append_left (by omega)]
   simp
  | i + 1, hr =>
   rw [List.flatten_cons, List.getElem?_append_right (by omega), hx, show (i + 1) * 7 + k - 7 = i * 7 + k from by omega]
   exact flat7_at rs (fun y hy => h y (by simp [hy])) i k r (by simpa using hr) hk
theorem SlP.len {A : Option Addr} {n : Nat} {ps : List PartD} (h : SlP S w A n ps) : ps.length = n := by
 obtain ⟨rows, h1, h2⟩ := h
 have hl := h1.1
 rw [flat7_len rows (PartsAt.rows _ _ h2), PartsAt.len _ _ h2] at hl
 omega
/-- Element i's cells. -/
theorem SlP.at_ {A : Option Addr} {n : Nat} {ps : List PartD} (h : SlP S w A n ps) {i : Nat} (hi : i < n) :
 ∃ b off r, A = some ⟨b, off, none⟩ ∧ S b ∧ PartAt S w (ps[i]'(by rw [h.len]; exact hi)) r ∧ ∀ k u, r[k]? = some u → w.cell? ⟨b, off + (i * 7 + k), none⟩ = some u := by
 have hl := h.len
 obtain ⟨rows, h1, h2⟩ := h
 obtain ⟨b, off, hA, hb, hc⟩ := h1.2 (by omega)
 obtain ⟨r, hr, hp⟩ := PartsAt.get _ _ h2 i (by omega)
 refine ⟨b, off, r, hA, hb, hp, fun k u hu => ?_⟩
 have hk : k < 7 := by
  have := hp.row
  rcases Nat.lt_or_ge k 7 with h' | h'
  · exact h'
  · rw [List.getElem?_eq_none (by omega)] at hu; cases hu
 exact hc _ u (by rw [flat7_at rows (PartsAt.rows _ _ h2) i k r hr hk]; exact hu)
theorem SlP.nil_ (S : Nat → Prop) (w : World) (A : Option Addr) : SlP S w A 0 [] := ⟨[], ⟨rfl, fun h => absurd h (by omega)⟩, rfl⟩
end
/-- Seven cells of one block. -/
def Box7 (w : World) (b : Nat) (v0 v1 v2 v3 v4 v5 v6 : Value) : Prop :=
 w.cell? ⟨b, 0, none⟩ = some v0 ∧ w.cell? ⟨b, 1, none⟩ = some v1 ∧ w.cell? ⟨b, 2, none⟩ = some v2 ∧ w.cell? ⟨b, 3, none⟩ = some v3 ∧ w.cell? ⟨b, 4, none⟩ = some v4 ∧ w.cell? ⟨b, 5, none⟩ = some v5 ∧ w.cell? ⟨b, 6, none⟩ = some v6
theorem Box7.lt {w : World} {b : Nat} {v0 v1 v2 v3 v4 v5 v6 : Value} (h : Box7 w b v0 v1 v2 v3 v4 v5 v6) : b < w.heap.size := by
 rcases Nat.lt_or_ge b w.heap.size with h' | h'
 · exact h'
 · have := h.1; simp [World.cell?, Array.getElem?_eq_none h'] at this
theorem Box7.below {w w' : World} {b : Nat} {v0 v1 v2 v3 v4 v5 v6 : Value} (h : Box7 w b v0 v1 v2 v3 v4 v5 v6) (hb : Below w.heap.size w w') : Box7 w' b v0 v1 v2 v3 v4 v5 v6 := by
 have hlt := h.lt
 obtain ⟨h0, h1, h2, h3, h4, h5, h6⟩ := h
 exact ⟨(hb.cell (p := ⟨b, 0, none⟩) hlt).trans h0, (hb.cell (p := ⟨b, 1, none⟩) hlt).trans h1, (hb.cell (p := ⟨b, 2, none⟩) hlt).trans h2, (hb.cell (p := ⟨b, 3, none⟩) hlt).trans h3, (hb.cell (p := ⟨b, 4, none⟩) hlt).trans h4, (hb.cell (p := ⟨b, 5, none⟩) hlt).trans h5, (hb.cell (p := ⟨b, 6, none⟩) hlt).trans h6⟩
theorem Box7.new (w : World) (t : TypeId) (v0 v1 v2 v3 v4 v5 v6 : Value) : Box7 (w.alloc (.cells #[v0, v1, v2, v3, v4, v5, v6] t)) w.heap.size v0 v1 v2 v3 v4 v5 v6 := by
 have h := heap_alloc_new w (.cells #[v0, v1, v2, v3, v4, v5, v6] t)
 refine ⟨?_, ?_, ?_, ?_, ?_, ?_, ?_⟩ <;> (unfold World.cell?; rw [h]; rfl)
/-- part.check, its tests named. -/
def chkB (ty ce tk wi wl : Bool) (how : Int) (n : Nat) (m : Bool) (n2 : Nat) : Nat :=
 if !ty || (!ce && !tk) || !wi || !wl then 1 else if decide (how < 0) || decide (2 < how) then 3 else if decide (4000 < n) then 2
 else if (m != decide (0 < n2)) || (m && (decide (0 < n) || how != 0 || !ce)) then 4 else 0
mutual
/-- All parts, depth first. -/
def flatD : PartD → List PartD
 | ⟨t, cs, id, loc, how, body, parts⟩ => ⟨t, cs, id, loc, how, body, parts⟩ :: flatsD parts
def flatsD : List PartD → List PartD
 | [] => []
 | p :: ps => flatD p ++ flatsD ps
end
theorem flatD_eq (p : PartD) : flatD p = p :: flatsD p.parts := by cases p; rw [flatD]
mutual
/-- part.count: so deep may it go still. -/
def cntD : Nat → PartD → Option Nat
 | 0, _ => none
 | k + 1, ⟨_, _, _, _, _, _, parts⟩ => cntsD k 1 parts
def cntsD (k : Nat) : Nat → List PartD → Option Nat
 | n, [] => some n
 | n, p :: ps => match cntD k p with
  | none => none
  | some c => if 12 < n + c then none else cntsD k (n + c) ps
end
def cntNext (k n : Nat) (ps : List PartD) : Option Nat → Option Nat
 | none => none
 | some c => if 12 < n + c then none else cntsD k (n + c) ps
theorem cntsD_cons (k n : Nat) (p : PartD) (ps : List PartD) : cntsD k n (p :: ps) = cntNext k n ps (cntD k p) := by
 rw [cntsD]; cases cntD k p <;> rfl
theorem cntsD_le (k : Nat) : ∀ (ps : List PartD) (n c : Nat), n ≤ 12 → cntsD k n ps = some c → n ≤ c ∧ c ≤ 12 := by
 intro ps
 induction ps with
 | nil => intro n c h e; rw [cntsD] at e; injection e with e; omega
 | cons p ps ih =>
  intro n c h e
  rw [cntsD] at e
  split at e
  · cases e
  · split at e
    · cases e
    · have := ih _ c (by omega) e
      omega
theorem cntD_le (k : Nat) (p : PartD) (c : Nat) (h : cntD k p = some c) : 1 ≤ c ∧ c ≤ 12 := by
 obtain ⟨t, cs, id, loc, how, body, parts⟩ := p
 cases k with
 | zero => rw [cntD] at h; cases h
 | succ k => rw [cntD] at h; exact cntsD_le k parts 1 c (by omega) h
theorem flatsD_len : ∀ (ps : List PartD), ps.length ≤ (flatsD ps).length
 | [] => by simp
 | p :: ps => by
  have := flatsD_len ps
  rw [flatsD, flatD_eq, List.length_append, List.length_cons, List.length_cons]
  omega
theorem flatsD_get : ∀ (ps : List PartD) (i : Nat) (h : i < ps.length), (flatD ps[i]).length ≤ (flatsD ps).length ∧ ∀ x ∈ flatD ps[i], x ∈ flatsD ps
 | [], i, h => absurd h (by simp)
 | p :: ps, 0, _ => by
  rw [flatsD]
  exact ⟨by simp, fun x hx => List.mem_append.2 (.inl hx)⟩
 | p :: ps, i + 1, h => by
  have := flatsD_get ps i (by simpa using h)
  rw [flatsD]
  exact ⟨by rw [List.length_append]; simp only [List.getElem_cons_succ]; omega, fun x hx => List.mem_append.2 (.inr (this.2 x hx))⟩
theorem cntD_flat : ∀ (k : Nat) (p : PartD) (c : Nat), cntD k p = some c → (flatD p).length = c := by
 intro k
 induction k with
 | zero => intro p c h; obtain ⟨t, cs, id, loc, how, body, parts⟩ := p; rw [cntD] at h; cases h
 | succ k ih =>
  intro p c h
  obtain ⟨t, cs, id, loc, how, body, parts⟩ := p
  rw [cntD] at h
  have key : ∀ (ps : List PartD) (n c : Nat), cntsD k n ps = some c → n + (flatsD ps).length = c := by
   intro ps
   induction ps with
   | nil => intro n c h; rw [cntsD] at h; have h := Option.some.inj h; simp [flatsD, h]
   | cons p ps ih2 =>
    intro n c h
    rw [cntsD_cons] at h
    cases hc : cntD k p with
    | none => rw [hc] at h; cases h
    | some d =>
     rw [hc] at h
     simp only [cntNext] at h
     split at h
     · cases h
     · have h1 := ih p d hc
       have h2 := ih2 _ _ h
       rw [flatsD, List.length_append]
       omega
  have := key parts 1 c h
  rw [flatD, List.length_cons]
  omega
/-- part.check of one part. -/
def chkD (p : PartD) : Nat := chkB (typB p.type) (p.cs == []) (tokB p.cs) (wordB p.id) (wordB p.loc) p.how p.body.length (manyB p.type) p.parts.length
def firstErr : List PartD → Nat
 | [] => 0
 | q :: r => if chkD q = 0 then firstErr r else chkD q
/-- part.Check. -/
def checkD (p : PartD) : Nat := match cntD 3 p with | none => 2 | some _ => firstErr (flatD p)
theorem checkD_none (p : PartD) (h : cntD 3 p = none) : checkD p = 2 := by unfold checkD; rw [h]
theorem checkD_some (p : PartD) (c : Nat) (h : cntD 3 p = some c) : checkD p = firstErr (flatD p) := by unfold checkD; rw [h]
section
variable {S : Nat → Prop} {w : World}
theorem PartAt.one {p : PartD} {v : List Value} (h : PartAt S w p v) : ∀ u ∈ v, u.oneCell' = true := by
 obtain ⟨t, cs, id, loc, how, body, parts⟩ := p
 obtain ⟨A, n, c, A2, n2, c2, rows, rfl, _⟩ := h
 intro u hu
 simp only [List.mem_cons, List.not_mem_nil, or_false] at hu
 rcases hu with rfl | rfl | rfl | rfl | rfl | rfl | rfl <;> rfl
theorem PartsAt.one : ∀ (ps : List PartD) (rows : List (List Value)), PartsAt S w ps rows → ∀ u ∈ rows.flatten, u.oneCell' = true
 | [], _, h => by rw [show _ = [] from h]; simp
 | p :: ps, _, h => by
  obtain ⟨r, rs, rfl, h2, h3⟩ := h
  intro u hu
  rw [List.flatten_cons, List.mem_append] at hu
  rcases hu with hu | hu
  · exact h2.one u hu
  · exact PartsAt.one ps rs h3 u hu
/-- The parts of a part, as a slice. -/
theorem PartAt.open {p : PartD} {v : List Value} (h : PartAt S w p v) : ∃ A c A2 c2, v = [str p.type, str p.cs, str p.id, str p.loc, .int .i64 p.how, .slice A p.body.length c, .slice A2 p.parts.length c2] ∧
 (p.type.length ≤ maxLen ∧ p.cs.length ≤ maxLen ∧ p.id.length ≤ maxLen ∧ p.loc.length ≤ maxLen ∧ -9223372036854775808 ≤ p.how ∧ p.how ≤ 9223372036854775807) ∧
 SlS S w 1 A p.body.length (Lib.byteCells p.body) ∧ p.body.length ≤ c ∧ c ≤ maxLen ∧ SlP S w A2 p.parts.length p.parts ∧ p.parts.length ≤ c2 ∧ c2 ≤ maxLen := by
 obtain ⟨t, cs, id, loc, how, body, parts⟩ := p
 obtain ⟨A, n, c, A2, n2, c2, rows, rfl, h1, h2, h3, h4, h5, h6, h7, h8⟩ := h
 have e1 : n = body.length := by have := h2.1; simp [Lib.byteCells] at this; omega
 have e2 : n2 = parts.length := by
  have := SlP.len (S := S) (w := w) (A := A2) (n := n2) ⟨rows, h5, h8⟩
  exact this.symm
 subst e1
 subst e2
 exact ⟨A, c, A2, c2, rfl, h1, h2, h3, h4, ⟨rows, h5, h8⟩, h6, h7⟩
end
end Go.Proofs.YtinfjdfhkfhgjaaGreatDoor
namespace Go.Proofs.YtinfjdfhkfhgjaaGreatDoor
open Go.ChangeShapes Go.WideShapes Go.ChangeAt Go.RowKit Go.Deep
theorem partStruct : Tryz.prog.cellsOf 25 = 7 := by kernel_rfl
theorem cell_lt' {w : World} {b o : Nat} {v : Value} (h : w.cell? ⟨b, o, none⟩ = some v) : b < w.heap.size := cell_lt (a := ⟨b, o, none⟩) h
theorem plain_at {w : World} {a : Addr} {v : Value} (h : w.cell? (a.add 0) = some v) : ∃ b off, a = ⟨b, off, none⟩ := by
 obtain ⟨b, off, spot⟩ := a
 have hspot : spot = none := by
  simpa [Addr.add] using World.cell?_spot h
 subst hspot
 exact ⟨b, off, rfl⟩
section
variable {H : Type} {enc : TypeId × Value → H} {w : World} {base : Nat} {held : Bool}
theorem part_of_trod : ∀ (k fuel : Nat) (cs : List Value) (x : DataW H × List MemPlace), fuel ≤ k → DataW.trod enc Tryz.prog w base (fun _ => true) held fuel 25 cs = some x → ∃ p, PartAt (· < w.heap.size) w p cs := by
 intro k
 induction k with
 | zero =>
  intro fuel cs x hk h
  have : fuel = 0 := by omega
  subst this
  simp [DataW.trod] at h
 | succ k ih =>
  intro fuel cs x hk h
  obtain ⟨xs, n, hfu, _, hl, hxl, hf⟩ := DataW.trod_struct Tryz.underlying25 h
  rw [partStruct] at hl
  match cs, hl with
  | [c0, c1, c2, c3, c4, c5, c6], _ =>
   match xs, hxl with
   | [x0, x1, x2, x3, x4, x5, x6], _ =>
    have h0 : DataW.trod enc Tryz.prog w base (fun _ => true) held n 9 [c0] = some x0 := hf 0 _ rfl
    have h1 : DataW.trod enc Tryz.prog w base (fun _ => true) held n 9 [c1] = some x1 := hf 1 _ rfl
    have h2 : DataW.trod enc Tryz.prog w base (fun _ => true) held n 9 [c2] = some x2 := hf 2 _ rfl
    have h3 : DataW.trod enc Tryz.prog w base (fun _ => true) held n 9 [c3] = some x3 := hf 3 _ rfl
    have h4 : DataW.trod enc Tryz.prog w base (fun _ => true) held n 3 [c4] = some x4 := hf 4 _ rfl
    have h5 : DataW.trod enc Tryz.prog w base (fun _ => true) held n 22 [c5] = some x5 := hf 5 _ rfl
    have h6 : DataW.trod enc Tryz.prog w base (fun _ => true) held n 23 [c6] = some x6 := hf 6 _ rfl
    obtain ⟨s0, e0, _, b0⟩ := DataW.trod_string Tryz.underlying9 h0
    obtain ⟨s1, e1, _, b1⟩ := DataW.trod_string Tryz.underlying9 h1
    obtain ⟨s2, e2, _, b2⟩ := DataW.trod_string Tryz.underlying9 h2
    obtain ⟨s3, e3, _, b3⟩ := DataW.trod_string Tryz.underlying9 h3
    obtain ⟨i4, e4, _, b4⟩ := DataW.trod_int Tryz.underlying3 h4
    simp only [List.cons.injEq, and_true] at e0 e1 e2 e3 e4
    subst e0 e1 e2 e3 e4
    obtain ⟨hlo, hhi⟩ := bounds_i64 b4
    have hby : ∃ A n c l, c5 = .slice A n c ∧ By w w.heap.size A n l ∧ n ≤ c ∧ c ≤ maxLen := by
     rcases open_ints Tryz.underlying22 Tryz.underlying5 (by kernel_rfl) h5 with ⟨hcs, _⟩ | ⟨y, l, c, zs, hcs, _, hl, hm, hz, _, hcell, hwz⟩
     · simp only [List.cons.injEq, and_true] at hcs
       exact ⟨none, 0, 0, [], hcs, By.nil_ _ _ _, Nat.le_refl _, Nat.zero_le _⟩
     · simp only [List.cons.injEq, and_true] at hcs
       have hr : IsRow .u8 w (some y) l c zs := .inr ⟨y, rfl, hl, hm, by simpa using hz, hcell, hwz⟩
       obtain ⟨bl, hb, hle, hmx⟩ := hr.toBy
       exact ⟨some y, l, c, bl, hcs, hb, hle, hmx⟩
    have hps : ∃ A n c ps rows, c6 = .slice A n c ∧ SlS (· < w.heap.size) w 7 A n rows.flatten ∧ PartsAt (· < w.heap.size) w ps rows ∧ n ≤ c ∧ c ≤ maxLen := by
     rcases DataW.trod_slice Tryz.underlying23 h6 with ⟨hcs, _⟩ | ⟨a, len, cap, elems, rest, n', hfu', hcs, _, hb, hl, hm, hlen, hel, hsp, hns⟩
     · simp only [List.cons.injEq, and_true] at hcs
       exact ⟨none, 0, 0, [], [], hcs, ⟨rfl, fun h => absurd h (by omega)⟩, rfl, Nat.le_refl _, Nat.zero_le _⟩
     · simp only [List.cons.injEq, and_true] at hcs
       have hone : ∀ i, i < len → ∃ (q : PartD × List Value), w.cells? base (a.add (i * 7)) 7 = some q.2 ∧ PartAt (· < w.heap.size) w q.1 q.2 := by
        intro i hi
        have h1 := hel i hi
        rw [partStruct, List.getElem?_eq_getElem (by omega)] at h1
        obtain ⟨cs', hc', ht'⟩ := Option.bind_eq_some_iff.1 h1
        obtain ⟨p, hp⟩ := ih n' cs' _ (by omega) ht'
        exact ⟨(p, cs'), hc', hp⟩
       haveI : Inhabited (PartD × List Value) := ⟨(⟨[], [], [], [], 0, [], []⟩, [])⟩
       obtain ⟨f, hfp⟩ := choose_lt hone
       refine ⟨some a, len, cap, (List.range len).map (fun i => (f i).1), (List.range len).map (fun i => (f i).2), hcs, ?_, ?_, hl, hm⟩
       · have h7 : ∀ r ∈ (List.range len).map (fun i => (f i).2), r.length = 7 := by
          intro r hr
          obtain ⟨i, hi, rfl⟩ := List.mem_map.1 hr
          exact (hfp i (List.mem_range.1 hi)).2.row
         refine ⟨by rw [flat7_len _ h7]; simp, fun h0 => ?_⟩
         obtain ⟨_, hl0, hat0⟩ := World.cells?_some (hfp 0 h0).1
         have hx0 := hat0 0 (by omega)
         rw [List.getElem?_eq_getElem (by omega)] at hx0
         obtain ⟨b, off, hab⟩ : ∃ b off, a = ⟨b, off, none⟩ := by
          have e : (a.add (0 * 7)).add 0 = a.add 0 := by rw [Go.Deep.add_add]
          rw [e] at hx0
          exact plain_at hx0
         subst hab
         refine ⟨b, off, rfl, ?_, fun j u hu => ?_⟩
         · have e : ((⟨b, off, none⟩ : Addr).add (0 * 7)).add 0 = ⟨b, off, none⟩ := by rw [Go.Deep.add_add]; simp [Addr.add]
           rw [e] at hx0
           exact cell_lt' hx0
         · have hj : j < len * 7 := by
            rcases Nat.lt_or_ge j (len * 7) with h | h
            · exact h
            · rw [List.getElem?_eq_none (by rw [flat7_len _ h7]; simp; omega)] at hu; cases hu
           have hi : j / 7 < len := by omega
           have hjj : j = j / 7 * 7 + j % 7 := by omega
           obtain ⟨_, hli, hati⟩ := World.cells?_some (hfp (j / 7) hi).1
           have hx := hati (j % 7) (by omega)
           rw [Go.Deep.add_add, ← hjj] at hx
           rw [hjj, flat7_at _ h7 (j / 7) (j % 7) (f (j / 7)).2 (by simp [hi]) (by omega)] at hu
           rw [hu] at hx
           have e : (⟨b, off, none⟩ : Addr).add j = ⟨b, off + j, none⟩ := Go.WideShapes.add_plain ..
           rw [e] at hx
           exact hx
       · refine PartsAt.mk _ _ (by simp) fun i hi => ?_
         have hi' : i < len := by simpa using hi
         refine ⟨(f i).2, by simp [hi'], ?_⟩
         simpa using (hfp i hi').2
    obtain ⟨A, n1, c1', l, rfl, hb1, hb2, hb3⟩ := hby
    obtain ⟨A2, n2, c2', ps, rows, rfl, hp1, hp2, hp3, hp4⟩ := hps
    exact ⟨⟨s0.data.toList, s1.data.toList, s2.data.toList, s3.data.toList, i4, l, ps⟩, A, n1, c1', A2, n2, c2', rows, rfl, ⟨b0, b1, b2, b3, hlo, hhi⟩, hb1, hb2, hb3, hp1, hp3, hp4, hp2⟩
theorem open_part {r : Reach} {b0 : Nat} {v : Value} {d : DataW H} {pl : List MemPlace} (hv : Value.okWide Tryz.prog w r b0 25 v) (h : DataW.Trod enc Tryz.prog w base (fun _ => true) held 25 v d pl) : ∃ p cs, v = .agg cs.toArray ∧ PartAt (· < w.heap.size) w p cs := by
 obtain ⟨cs, rfl, hsz⟩ := okWide_struct Tryz.underlying25 hv
 obtain ⟨l⟩ := cs
 obtain ⟨fuel, hf⟩ := h
 obtain ⟨p, hp⟩ := part_of_trod fuel fuel _ _ (Nat.le_refl _) hf
 exact ⟨p, l, rfl, hp⟩
end
end Go.Proofs.YtinfjdfhkfhgjaaGreatDoor
namespace Go.Proofs.YtinfjdfhkfhgjaaGreatDoor
open Go.RowKit
/-- A builder of the call's own, in block b, that holds the bytes l. -/
def Bld (b : Nat) (l : List UInt8) (w : World) : Prop := Lib.IsBuilder 89 5 b b (Lib.byteCells l) w
theorem byteCells_append (a b : List UInt8) : Lib.byteCells (a ++ b) = Lib.byteCells a ++ Lib.byteCells b := by simp [Lib.byteCells]
theorem byteCells_len (l : List UInt8) : (Lib.byteCells l).length = l.length := by simp [Lib.byteCells]
theorem strCells_str (l : List UInt8) : Lib.strCells ⟨l.toArray⟩ = Lib.byteCells l := rfl
theorem Bld.fresh (w : World) : Bld w.heap.size [] (w.alloc (.cells #[.pointer none, .slice none 0 0] 89)) := Lib.fresh_isBuilder _ _ w
theorem BuilderAt.lt {T e : TypeId} {B b : Nat} {p : Value} {bs : List Value} {w : World} (h : Lib.BuilderAt T e B b p bs w) : b < w.heap.size := Lib.BuilderAt.lt h
theorem BuilderAt.below {T e : TypeId} {B b : Nat} {p : Value} {bs : List Value} {w w' : World} (h : Lib.BuilderAt T e B b p bs w) (hb : Below w.heap.size w w') : Lib.BuilderAt T e B b p bs w' := by
 have hlt := Lib.BuilderAt.lt h
 obtain ⟨hB, v, hbk, hown, hne⟩ := h
 exact ⟨hB, v, (hb.block b hlt).trans hbk, hown.kept (row := none) ⟨hb.os, hb.tape, hb.output, hb.size, fun k hk _ => hb.block k hk⟩ (by cases h : v.ownBlock <;> simp), hne⟩
theorem Bld.lt {b : Nat} {l : List UInt8} {w : World} (h : Bld b l w) : b < w.heap.size := by rcases h with h | h <;> exact Lib.BuilderAt.lt h
theorem Bld.below {b : Nat} {l : List UInt8} {w w' : World} (h : Bld b l w) (hb : Below w.heap.size w w') : Bld b l w' := by
 rcases h with h | h
 · exact .inl (BuilderAt.below h hb)
 · exact .inr (BuilderAt.below h hb)
theorem infoByte : (Tryz.prog.info? 5).map (fun i => (i.zero, i.size, i.bytes)) = some (some (.int .u8 0), 1, 1) := by kernel_rfl
theorem sizeBuilder : (Tryz.prog.info? 89).map (fun i => i.size) = some 2 := by kernel_rfl
theorem liesBuilder : liesAt Tryz.prog Tryz.prog.depth 89 (2 / Tryz.prog.cellsOf 89) 0 89 1 = true := by kernel_rfl
theorem copyCheck_used (b : Nat) (w : World) (h0 : w.cell? ⟨b, 0, none⟩ = some (.pointer (some ⟨b, 0, none⟩))) :
 Calls Tryz.prog 116 #[.pointer (some ⟨b, 0, none⟩)] w fun e w' => e = .returned (.tuple #[]) ∧ w' = w := by
 obtain ⟨j, hj, _⟩ := Option.map_eq_some_iff.1 sizeBuilder
 go_enter Tryz.func116, Tryz.ntmps116
 go_wp2
 rw [Lib.run_neq_ptr_same w _ Tryz.underlying87 hj]
 go_wp2
 go_end0
 exact ⟨rfl, rfl⟩
theorem copyCheck_fresh (b : Nat) (w : World) (h0 : w.cell? ⟨b, 0, none⟩ = some (.pointer none)) (hsh : w.shape? b = some (89, 2)) (hfz : w.frozen? ⟨b, 0, none⟩ = false) :
 Calls Tryz.prog 116 #[.pointer (some ⟨b, 0, none⟩)] w fun e w' => e = .returned (.tuple #[]) ∧ w' = w.setCell ⟨b, 0, none⟩ (.pointer (some ⟨b, 0, none⟩)) := by
 obtain ⟨j, hj, hjs⟩ := Option.map_eq_some_iff.1 sizeBuilder
 go_enter Tryz.func116, Tryz.ntmps116
 go_wp2
 rw [Lib.run_to_unsafe w ⟨b, 0, none⟩ Tryz.underlying87 Tryz.underlying146 hj (by rw [hjs]; decide) hsh (Nat.zero_lt_succ 1)]
 simp only [Result.andThen]
 rw [Oper.upon_value]
 go_wp2
 rw [run_callFunc_extern Tryz.func153 (by kernel_rfl) (by kernel_rfl) (by kernel_rfl) (e := Extern.AbiNoEscape.same) (by kernel_rfl)]
 rw [Lib.run_noEscape]
 simp only [Result.andThen]
 rw [Oper.upon_value]
 go_wp2
 rw [Lib.run_from_unsafe w ⟨b, 0, none⟩ Tryz.underlying146 Tryz.underlying87 hj hsh liesBuilder]
 simp only [Result.andThen]
 rw [Oper.upon_value]
 go_wp2
 go_end0
 exact ⟨rfl, rfl⟩
theorem copyCheck_any (B b : Nat) (bs : List Value) (w : World) (h : Lib.IsBuilder 89 5 B b bs w) :
 Calls Tryz.prog 116 #[.pointer (some ⟨b, 0, none⟩)] w fun e w' => e = .returned (.tuple #[]) ∧ (Lib.BuilderAt 89 5 B b (.pointer (some ⟨b, 0, none⟩)) bs w' ∧ Below B w w') := by
 rcases h with h | h
 · refine (copyCheck_fresh b w h.cell0 h.shape h.frozen0).mono ?_
   rintro e w' ⟨rfl, rfl⟩
   exact ⟨rfl, h.used _, (Below.refl B w).setCell (p := ⟨b, 0, none⟩) h.1 _⟩
 · refine (copyCheck_used b w h.cell0).mono ?_
   rintro e w' ⟨rfl, rfl⟩
   exact ⟨rfl, h, Below.refl B _⟩
theorem WriteByte_any (b : Nat) (l : List UInt8) (x : Int) (w : World) (h : Bld b l w) (h0 : 0 ≤ x) (h1 : x < 256) (hlen : l.length + 1 ≤ 140737488355328) :
 Calls Tryz.prog 86 #[.pointer (some ⟨b, 0, none⟩), .int .u8 x] w fun e w' => e = .returned .nilIface ∧ Bld b (l ++ [UInt8.ofNat x.toNat]) w' ∧ Below b w w' := by
 obtain ⟨i0, hi, hz0, hz1, hz2⟩ := info_parts infoByte
 have hbw := h.lt
 go_enter Tryz.func86, Tryz.ntmps86
 go_wp2_with (go_at_call 116; refine (copyCheck_any b b _ _ h).mono ?_)
 rintro e w1 ⟨rfl, h1', hb1⟩
 obtain ⟨hB, v, hbk, hown, hne⟩ := h1'
 have c0 : w1.cell? ⟨b, 0, none⟩ = some (.pointer (some ⟨b, 0, none⟩)) := by rw [Lib.cell_of_heap hbk]; rfl
 have c1 : w1.cell? ⟨b, 1, none⟩ = some v := by rw [Lib.cell_of_heap hbk]; rfl
 go_wp2_with (at_builtin; refine wpList_append_own _ rfl _ _ 22 rfl b 5 i0 (.int .u8 0) 1 1 Tryz.underlying22 hi hz0 hz1 hz2 rfl (by decide) _ _ _ rfl (hown.alloc _) ⟨w1.heap.size, 0, none⟩ 1 1 [.int .u8 x] rfl rfl ?c1 ?c2 ?c3 ?c4 ?c5 ?_)
 case c1 =>
  intro j u hj
  match j, hj with
  | 0, hj => simp at hj; subst hj; simp [Addr.add]
 case c2 => intro u hu; simp at hu; subst hu; rfl
 case c3 => have := byteCells_len l; unfold maxLen; omega
 case c4 => have := byteCells_len l; omega
 case c5 => have := hb1.size; simp; omega
 intro v' w2 hown' hgrow _
 have hlt : b < w1.heap.size := by
  rcases Nat.lt_or_ge b w1.heap.size with h' | h'
  · exact h'
  · simp [Array.getElem?_eq_none h'] at hbk
 have hb2 : w2.heap[b]? = some (.cells #[.pointer (some ⟨b, 0, none⟩), v] 89 (0, 0)) := by
  rw [hgrow.block b (by simp; omega) (fun e => hne e.symm), Lib.alloc_old w1 _ b hlt]
  exact hbk
 have d0 : w2.cell? ⟨b, 0, none⟩ = some (.pointer (some ⟨b, 0, none⟩)) := by rw [Lib.cell_of_heap hb2]; rfl
 have d1 : w2.cell? ⟨b, 1, none⟩ = some v := by rw [Lib.cell_of_heap hb2]; rfl
 have f1 : w2.frozen? ⟨b, 1, none⟩ = false := Lib.frozen_of_heap hb2 1
 obtain ⟨g, cap, rfl⟩ : ∃ g cap, v' = .slice (some ⟨g, 0, none⟩) ((Lib.byteCells l).length + 1) cap := by
  rcases hown'.2 with ⟨_, h0⟩ | ⟨g, cap, cur, hv, _⟩
  · omega
  · exact ⟨g, cap, hv⟩
 go_wp2
 go_ret
 have hx : Lib.byteCells (l ++ [UInt8.ofNat x.toNat]) = Lib.byteCells l ++ [.int .u8 x] := by
  have : ((UInt8.ofNat x.toNat).toNat : Int) = x := by
   rw [UInt8.toNat_ofNat']; have : x.toNat % 2 ^ 8 = x.toNat := Nat.mod_eq_of_lt (by omega)
   omega
  rw [byteCells_append]
  show _ ++ [Value.int .u8 ((UInt8.ofNat x.toNat).toNat : Int)] = _
  rw [this]
 refine ⟨rfl, ?_, ?_⟩
 · unfold Bld
   rw [hx]
   exact .inr (Lib.BuilderAt.put (T := 89) (e := 5) hB hb2 (bs' := Lib.byteCells l ++ [.int .u8 x]) (by simpa using hown') (by decide))
 · exact ((hb1.alloc (by have := hb1.size; omega) _).grown hgrow (by have := hb1.size; simp; omega) (fun k hk => (hown.lt k hk).1)).setCell (p := ⟨b, 1, none⟩) hB _
theorem WriteString_any (b : Nat) (l s : List UInt8) (w : World) (h : Bld b l w) (hlen : l.length + s.length ≤ 140737488355328) :
 Calls Tryz.prog 73 #[.pointer (some ⟨b, 0, none⟩), str s] w fun e w' => e = .returned (.tuple #[.int .i64 s.length, .nilIface]) ∧ Bld b (l ++ s) w' ∧ Below b w w' := by
 obtain ⟨i0, hi, hz0, hz1, hz2⟩ := info_parts infoByte
 have hbw := h.lt
 rw [str_eq]
 go_enter Tryz.func73, Tryz.ntmps73
 go_wp2_with (go_at_call 116; refine (copyCheck_any b b _ _ h).mono ?_)
 rintro e w1 ⟨rfl, h1, hb1⟩
 obtain ⟨hB, v, hbk, hown, hne⟩ := h1
 have c0 : w1.cell? ⟨b, 0, none⟩ = some (.pointer (some ⟨b, 0, none⟩)) := by rw [Lib.cell_of_heap hbk]; rfl
 have c1 : w1.cell? ⟨b, 1, none⟩ = some v := by rw [Lib.cell_of_heap hbk]; rfl
 go_wp2_with (at_builtin; refine Lib.wpList_append_own_string _ rfl _ _ 22 9 rfl b 5 i0 Tryz.underlying22 Tryz.underlying9 hi hz0 hz1 hz2 _ _ _ rfl hown ⟨s.toArray⟩ rfl ?c3 ?c4 ?c5 ?_)
 case c3 => have := byteCells_len l; simp [ByteArray.size]; unfold maxLen; omega
 case c4 => have := byteCells_len l; simp [ByteArray.size]; omega
 case c5 => have := hb1.size; omega
 intro v' w2 hown' hgrow _
 have hlt : b < w1.heap.size := by
  rcases Nat.lt_or_ge b w1.heap.size with h' | h'
  · exact h'
  · simp [Array.getElem?_eq_none h'] at hbk
 have hb2 : w2.heap[b]? = some (.cells #[.pointer (some ⟨b, 0, none⟩), v] 89 (0, 0)) := by
  rw [hgrow.block b hlt (fun e => hne e.symm)]
  exact hbk
 have d0 : w2.cell? ⟨b, 0, none⟩ = some (.pointer (some ⟨b, 0, none⟩)) := by rw [Lib.cell_of_heap hb2]; rfl
 have d1 : w2.cell? ⟨b, 1, none⟩ = some v := by rw [Lib.cell_of_heap hb2]; rfl
 have f1 : w2.frozen? ⟨b, 1, none⟩ = false := Lib.frozen_of_heap hb2 1
 obtain ⟨ao, n', cap, rfl⟩ : ∃ ao n' cap, v' = .slice ao n' cap := by
  rcases hown'.2 with ⟨hv, _⟩ | ⟨g, cap, cur, hv, _⟩
  · exact ⟨_, _, _, hv⟩
  · exact ⟨_, _, _, hv⟩
 go_wp2
 go_ret2
 refine ⟨by simp, ?_, ?_⟩
 · unfold Bld
   rw [byteCells_append]
   exact .inr (Lib.BuilderAt.put (T := 89) (e := 5) hB hb2 (bs' := Lib.byteCells l ++ Lib.byteCells s) (by simpa [ByteArray.size, strCells_str, byteCells_len] using hown') (by decide))
 · exact (hb1.grown hgrow (by have := hb1.size; omega) (fun k hk => (hown.lt k hk).1)).setCell (p := ⟨b, 1, none⟩) hB _
theorem String_any (b : Nat) (l : List UInt8) (w : World) (h : Bld b l w) :
 Calls Tryz.prog 74 #[.pointer (some ⟨b, 0, none⟩)] w fun e w' => e = .returned (str l) ∧ Below b w w' :=
 (Go.Proofs.Tryz.Builder_String_any b b l w h (Nat.le_of_lt h.lt)).mono fun _ _ h => h
/-- What the walks ask of the library's own variable. -/
def MaxLenOk (w : World) : Prop := ∃ m, w.cell? ⟨0, 0, none⟩ = some (.int .i64 m)
theorem MaxLenOk.below {w w' : World} (h : MaxLenOk w) (hb : Below w.heap.size w w') : MaxLenOk w' := by
 obtain ⟨m, hm⟩ := h
 have hlt : 0 < w.heap.size := by
  rcases Nat.lt_or_ge 0 w.heap.size with h' | h'
  · exact h'
  · simp [World.cell?, Array.getElem?_eq_none h'] at hm
 exact ⟨m, (hb.cell (p := ⟨0, 0, none⟩) hlt).trans hm⟩
theorem MaxLenOk.lt {w : World} (h : MaxLenOk w) : 0 < w.heap.size := by
 obtain ⟨m, hm⟩ := h
 rcases Nat.lt_or_ge 0 w.heap.size with h' | h'
 · exact h'
 · simp [World.cell?, Array.getElem?_eq_none h'] at hm
theorem MaxLenOk.drewN {w : World} (h : MaxLenOk w) (n : Nat) : MaxLenOk (w.drewN n) := h
theorem MaxLenOk.grown {w w' : World} {s : Nat} (h : MaxLenOk w) (hg : w.grownBy w' (some s)) {v : Value} (hv : w.cell? ⟨s, 0, none⟩ = some v) (hn : ∀ m, v ≠ .int .i64 m) : MaxLenOk w' := by
 have hlt := h.lt
 obtain ⟨m, hm⟩ := h
 refine ⟨m, (World.cell?_of_block (hg.block 0 hlt ?_)).trans hm⟩
 intro e
 injection e with e
 rw [← e, hm] at hv
 injection hv with hv
 exact hn m hv.symm
end Go.Proofs.YtinfjdfhkfhgjaaGreatDoor
namespace Go.Proofs.YtinfjdfhkfhgjaaGreatDoor
open Go.ChangeShapes Go.WideShapes Go.ChangeAt Go.RowKit
theorem maxLen_of_shaped {W : World} (h : W.ShapedOpen Tryz.prog) : MaxLenOk W := Go.Proofs.Tryz.laysM219.s1_3 W h
end Go.Proofs.YtinfjdfhkfhgjaaGreatDoor
namespace Go.Proofs.YtinfjdfhkfhgjaaGreatDoor
def lowB (b : UInt8) : UInt8 := if 65 ≤ b ∧ b ≤ 90 then b + 32 else b
def lowL (l : List UInt8) : List UInt8 := l.map lowB
structure LinkD where
 frm : Nat
 til : Nat
 text : List UInt8
end Go.Proofs.YtinfjdfhkfhgjaaGreatDoor
namespace Go.Proofs.YtinfjdfhkfhgjaaGreatDoor
structure UrlD where
 scheme : List UInt8
 hasHost : Bool
 host : List UInt8
 path : List UInt8
 hasQuery : Bool
 query : List UInt8
 hasFrag : Bool
 frag : List UInt8
def UrlD.cells (u : UrlD) : List Value := [str u.scheme, .bool u.hasHost, str u.host, str u.path, .bool u.hasQuery, str u.query, .bool u.hasFrag, str u.frag]
def UrlD.val (u : UrlD) : Value := .agg #[str u.scheme, .bool u.hasHost, str u.host, str u.path, .bool u.hasQuery, str u.query, .bool u.hasFrag, str u.frag]
def joinC (c : UInt8) : List (List UInt8) → List UInt8
 | [] => []
 | [x] => x
 | x :: y :: r => x ++ c :: joinC c (y :: r)
def consHead (b : UInt8) : List (List UInt8) → List (List UInt8)
 | [] => [[b]]
 | x :: r => (b :: x) :: r
def splitC (c : UInt8) : List UInt8 → List (List UInt8)
 | [] => [[]]
 | b :: l => if b = c then [] :: splitC c l else consHead b (splitC c l)
theorem indexByte_tw (l : List UInt8) (c : UInt8) : Lib.indexByte l c = if c ∈ l then ((l.takeWhile (fun b => b != c)).length : Int) else -1 := by
 induction l with
 | nil => rfl
 | cons b l ih =>
  unfold Lib.indexByte
  by_cases h : b = c
  · subst h; simp
  · have h' : c ≠ b := fun e => h e.symm
    rw [ih]
    by_cases hm : c ∈ l
    · have e2 : (((l.takeWhile (fun b => b != c)).length : Int) == -1) = false := by simp
      simp [h, hm, e2]
    · simp [h, h', hm]
theorem indexByte_neg (l : List UInt8) (c : UInt8) : Lib.indexByte l c < 0 ↔ c ∉ l := by
 rw [indexByte_tw]
 by_cases h : c ∈ l
 · rw [if_pos h]; simp [h]
 · rw [if_neg h]; simp [h]
theorem cut_tw (l : List UInt8) (c : UInt8) : Lib.cut l [c] = (l.takeWhile (fun b => b != c), (l.dropWhile (fun b => b != c)).drop 1, decide (c ∈ l)) := by
 unfold Lib.cut
 rw [Lib.index_one, indexByte_tw]
 by_cases h : c ∈ l
 · rw [if_pos h, if_pos (by omega)]
   have e := List.takeWhile_append_dropWhile (p := fun b => b != c) (l := l)
   have e1 : l.take (l.takeWhile (fun b => b != c)).length = l.takeWhile (fun b => b != c) := by
    have := congrArg (List.take (l.takeWhile (fun b => b != c)).length) e
    rw [List.take_left] at this
    exact this.symm
   have e2 : l.drop ((l.takeWhile (fun b => b != c)).length + 1) = (l.dropWhile (fun b => b != c)).drop 1 := by
    rw [← List.drop_drop]
    congr 1
    have := congrArg (List.drop (l.takeWhile (fun b => b != c)).length) e
    rw [List.drop_left] at this
    exact this.symm
   simp [h, e1, e2]
 · rw [if_neg h, if_neg (by omega)]
   have e1 : ∀ l : List UInt8, c ∉ l → l.takeWhile (fun b => b != c) = l ∧ l.dropWhile (fun b => b != c) = [] := by
    intro l
    induction l with
    | nil => simp
    | cons b l ih =>
     intro h
     simp only [List.mem_cons, not_or] at h
     have h' : b ≠ c := fun e => h.1 e.symm
     simp [h', ih h.2]
   simp [h, e1 l h]
theorem cut_app (x y : List UInt8) (c : UInt8) (h : ∀ b ∈ x, b ≠ c) : Lib.cut (x ++ c :: y) [c] = (x, y, true) := by
 rw [cut_tw, List.takeWhile_append_of_pos (by simpa using h), List.dropWhile_append_of_pos (by simpa using h)]
 simp
theorem cut_not (x : List UInt8) (c : UInt8) (h : ∀ b ∈ x, b ≠ c) : Lib.cut x [c] = (x, [], false) := by
 have e : Lib.index x [c] < 0 := by rw [Lib.index_one, indexByte_neg]; exact fun hm => h c hm rfl
 unfold Lib.cut
 rw [if_neg (by omega)]
theorem first_of (l : List UInt8) (c : UInt8) (h : c ∈ l) : ∃ x y, l = x ++ c :: y ∧ ∀ b ∈ x, b ≠ c := by
 induction l with
 | nil => cases h
 | cons a l ih =>
  by_cases e : a = c
  · subst e; exact ⟨[], l, rfl, by simp⟩
  · have hm : c ∈ l := by
     simp only [List.mem_cons] at h
     rcases h with h | h
     · exact absurd h.symm e
     · exact h
    obtain ⟨x, y, rfl, hx⟩ := ih hm
    exact ⟨a :: x, y, rfl, by intro b hb; simp only [List.mem_cons] at hb; rcases hb with rfl | hb; exact e; exact hx b hb⟩
theorem cut_back (l : List UInt8) (c : UInt8) : l = (Lib.cut l [c]).1 ++ (if (Lib.cut l [c]).2.2 then c :: (Lib.cut l [c]).2.1 else []) := by
 by_cases h : c ∈ l
 · obtain ⟨x, y, rfl, hx⟩ := first_of l c h
   rw [cut_app x y c hx]
   simp
 · rw [cut_not l c (fun b hb e => h (e ▸ hb))]
   simp
end Go.Proofs.YtinfjdfhkfhgjaaGreatDoor
namespace Go.Proofs.YtinfjdfhkfhgjaaGreatDoor
theorem ofNat_toNat8 (b : UInt8) : UInt8.ofNat b.toNat = b := by simp
theorem lowB_same {b : UInt8} (h : ¬ (65 ≤ b.toNat ∧ b.toNat ≤ 90)) : lowB b = b := by
 unfold lowB
 rw [if_neg]
 intro ⟨h1, h2⟩
 exact h ⟨UInt8.le_iff_toNat_le.1 h1, UInt8.le_iff_toNat_le.1 h2⟩
theorem lowB_cap {b : UInt8} (h : 65 ≤ b.toNat ∧ b.toNat ≤ 90) : lowB b = b + 32 := by
 unfold lowB
 rw [if_pos ⟨UInt8.le_iff_toNat_le.2 h.1, UInt8.le_iff_toNat_le.2 h.2⟩]
theorem lowB_nat (b : UInt8) : (lowB b).toNat = if 65 ≤ b.toNat ∧ b.toNat ≤ 90 then b.toNat + 32 else b.toNat := by
 by_cases h : 65 ≤ b.toNat ∧ b.toNat ≤ 90
 · rw [if_pos h, lowB_cap h, UInt8.toNat_add]
   show (b.toNat + 32) % 256 = _
   omega
 · rw [if_neg h, lowB_same h]
theorem takeWhile_all {p : UInt8 → Bool} {l : List UInt8} (h : ∀ b ∈ l, p b = true) (r : List UInt8) : (l ++ r).takeWhile p = l ++ r.takeWhile p ∧ (l ++ r).dropWhile p = r.dropWhile p :=
 ⟨List.takeWhile_append_of_pos h, List.dropWhile_append_of_pos h⟩
theorem head_stop (p : UInt8 → Bool) (l : List UInt8) (c : UInt8) (h : (l.dropWhile p).head? = some c) : p c = false := by
 have := List.head?_dropWhile_not p l
 rw [h] at this
 simpa using this
end Go.Proofs.YtinfjdfhkfhgjaaGreatDoor
namespace Go.Proofs.YtinfjdfhkfhgjaaGreatDoor
open Go.RowKit
/-- What the package variables of the library's decoder hold. -/
def U8Ok (w : World) : Prop := Lib.Utf8Tabs 5 6 w
theorem U8Ok.below {w w' : World} (h : U8Ok w) (hb : Below w.heap.size w w') : U8Ok w' := Utf8Tabs_below h hb
theorem U8Ok.drewN {w : World} (h : U8Ok w) (n : Nat) : U8Ok (w.drewN n) := h
def lowR (x : Int) : Int := if 65 ≤ x ∧ x ≤ 90 then x + 32 else x
theorem lowR_byte : ∀ i : Fin 128, Lib.encodeRune (lowR (i.val : Int)) = [lowB (UInt8.ofNat i.val)] := by decide
theorem mapD_low : ∀ (l : List UInt8), (∀ b ∈ l, b.toNat < 128) → Lib.mapD lowR l = lowL l
 | [], _ => rfl
 | b :: t, ha => by
  have hb := ha b List.mem_cons_self
  have ih := mapD_low t (fun x hx => ha x (List.mem_cons_of_mem _ hx))
  rw [Lib.mapD_step lowR (b :: t) (by simp), Lib.decodeL_ascii b t hb]
  dsimp only
  have h0 : 0 ≤ lowR (b.toNat : Int) := by unfold lowR; split <;> omega
  rw [if_pos h0, lowR_byte ⟨b.toNat, hb⟩, List.drop_succ_cons, List.drop_zero, ih]
  simp [lowL]
theorem small1_any (x : Nat) (hx : x ≤ 1114111) (w : World) : Calls Tryz.prog 114 #[.int .i32 (x : Int)] w fun e w' => e = .returned (.int .i32 (lowR x)) ∧ w' = w := by
 unfold lowR
 by_cases h1 : (65 : Int) ≤ x
 · by_cases h2 : (x : Int) ≤ 90
   · have i1 : IntKind.i32.wrap ((x : Int) + 32) = (x : Int) + 32 := by rw [IntKind.wrap_i32]; omega
     go_enter Tryz.func114, Tryz.ntmps114
     go_wp2_with fail
     go_ret
     exact ⟨rfl, rfl⟩
   · go_enter Tryz.func114, Tryz.ntmps114
     go_wp2_with fail
     go_ret
     exact ⟨rfl, rfl⟩
 · go_enter Tryz.func114, Tryz.ntmps114
   go_wp2_with fail
   go_ret
   exact ⟨rfl, rfl⟩
theorem Small_ascii (l : List UInt8) (w : World) (hl : l.length ≤ 1000000) (ha : ∀ b ∈ l, b.toNat < 128) (hT : U8Ok w) :
 Calls Tryz.prog 68 #[str l] w fun e w' => e = .returned (str (lowL l)) ∧ Below w.heap.size w w' := by
 have h := Go.Proofs.Tryz.strings_Map_runes 114 #[] (enters_of Tryz.func114 (by kernel_rfl) rfl) lowR ⟨l.toArray⟩ w (by simp [ByteArray.size]; omega)
  (fun W x hx _ => (small1_any x hx W).mono fun e w' ⟨h1, h2⟩ => ⟨h1, 0, h2⟩) (fun x hx => by unfold lowR; split <;> omega) hT
 rw [show (⟨l.toArray⟩ : ByteArray).data.toList = l from rfl, mapD_low l ha] at h
 have H := Lib.hid h
 clear h
 go_enter Tryz.func68, Tryz.ntmps68
 go_wp2_with fail
 refine H.out.mono ?_
 rintro e w1 ⟨rfl, hb⟩
 go_wp2_with fail
 go_ret
 exact ⟨rfl, hb⟩
end Go.Proofs.YtinfjdfhkfhgjaaGreatDoor
namespace Go.Proofs.YtinfjdfhkfhgjaaGreatDoor
open Go.ChangeShapes Go.WideShapes Go.ChangeAt Go.RowKit
def u8Names (x : String × DataW Unit) : Bool := x.1 == "unicode/utf8.first" || x.1 == "unicode/utf8.acceptRanges"
/-- What a row's laid table gives. -/
theorem u8Ok_of_laid {W : World} {laid : List (String × DataW Unit)} (h : laidMetH Tryz.prog laid W) (e : laid.filter u8Names = [("unicode/utf8.acceptRanges", Lib.acceptData), ("unicode/utf8.first", Lib.firstData)]) : U8Ok W := by
 have h1 := h.filter u8Names
 rw [e, MakeChecks.laidMetH_plain _ _ _ (by kernel_rfl)] at h1
 exact utf8Tabs_of_readsT (U8Types.of260 Go.Proofs.Tryz.lays260) ⟨by kernel_rfl, by kernel_rfl, by kernel_rfl, by kernel_rfl, by kernel_rfl, by kernel_rfl, by kernel_rfl⟩ (Lib.laidMet.reads h1 (.tail _ (.head _))) (Lib.laidMet.reads h1 (.head _))
end Go.Proofs.YtinfjdfhkfhgjaaGreatDoor

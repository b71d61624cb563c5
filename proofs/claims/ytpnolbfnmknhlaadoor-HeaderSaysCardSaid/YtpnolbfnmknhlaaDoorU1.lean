import Derived.OrdersHeld
import Derived.WalkKit
import Derived.WalkSpells
import Derived.WalkLawsBesides
import Derived.Lib.Hide
import Derived.Deep.QuietTactic
import Derived.BigQuiet
import Derived.Deep.AppendLies
import Derived.Deep.Draws
import Derived.Maps.AppendAt
import Derived.Lib.AppendStr
import Derived.Lib.UnsafeStr
import Derived.Lib.Bytealg
import Derived.Test.YtpnolbfnmknhlaaDoorRows
import Derived.ProofKit
import Derived.OpenShut
import Derived.ShutString
import Derived.ChangeOld
import Derived.Below
import Derived.Lib.Replace
import Derived.Lib.IndexLaws
import Derived.Lib.IndexBytes
import Derived.Lib.Strings
import Derived.Lib.IndexMore
import Derived.Lib.LastIndexByte
import Derived.Lib.SlTrimSet
import Derived.Lib.Fold
import Derived.Lib.Case
import Derived.Test.YtpnolbfnmknhlaaDoorShelf
import Derived.Lib.Builder
import Derived.Lib.Walk
import Derived.Laws.Externs
import Derived.Shelf.GgClosure.StringsIndexFunc
import Derived.Laws.RangeString
import Derived.Laws.RangeAny
import Derived.Shelf.Abstract
set_option maxRecDepth 100000
set_option maxHeartbeats 40000000
namespace Go.Proofs.YtpnolbfnmknhlaaDoor
open Go.RowKit
theorem tkH {P : Program} {ops : Array Oper} {Q : Exit → Act → World → Prop} {S : World → Prop} {md : Region.Mode} {i : Nat} {oi : Oper} {v : Value} {fuel : Nat} {listed : Array Bool} {a : Act} {w : World} (hi : ops[i]? = some oi) (hy : ∀ w, S w → (execOp a.eval oi).run P w = .ok (.value v) w) (hS : S w) (h : wpAnyH P md ops Q S fuel (listed.setIfInBounds i true) (a.put oi.dst v) w) (hs : Region.noSelect ops = true := by kernel_rfl) (hf : Region.free md ops listed i = true := by kernel_rfl) (hr : (Region.ready md ops listed).contains i = true := by kernel_rfl) (hQ : ∀ c a w, Q (.panic c) (a.put oi.dst v) w → Q (.panic c) a w := by exact fun _ _ _ h => h) (hw : Region.wanted oi (yielded ops a.tmps) = true := by kernel_rfl) : wpAnyH P md ops Q S (fuel + 1) listed a w := wpAnyH_take hi hs hf hr hQ (Or.inl ⟨hw, hy⟩) hS h
theorem tkN {P : Program} {ops : Array Oper} {Q : Exit → Act → World → Prop} {S : World → Prop} {md : Region.Mode} {i : Nat} {oi : Oper} {fuel : Nat} {listed : Array Bool} {a : Act} {w : World} (hi : ops[i]? = some oi) (hS : S w) (h : wpAnyH P md ops Q S fuel (listed.setIfInBounds i true) (a.put oi.dst undef) w) (hs : Region.noSelect ops = true := by kernel_rfl) (hf : Region.free md ops listed i = true := by kernel_rfl) (hr : (Region.ready md ops listed).contains i = true := by kernel_rfl) (hQ : ∀ c a w, Q (.panic c) (a.put oi.dst undef) w → Q (.panic c) a w := by exact fun _ _ _ h => h) (hw : Region.wanted oi (yielded ops a.tmps) = false := by kernel_rfl) : wpAnyH P md ops Q S (fuel + 1) listed a w := wpAnyH_take hi hs hf hr hQ (Or.inr ⟨hw, rfl⟩) hS h
end Go.Proofs.YtpnolbfnmknhlaaDoor
namespace Go.Proofs.YtpnolbfnmknhlaaDoor
open Go.RowKit
/-- A string value, said by its list of bytes. -/
def str (l : List UInt8) : Value := .string ⟨l.toArray⟩
/-- Byte k of a list, as a number; 0 behind its end. (A plain def: the walk's simp leaves it as it stands.) -/
def nth (l : List UInt8) (k : Nat) : Nat := (l.getD k 0).toNat
theorem nth_lt (l : List UInt8) (k : Nat) : nth l k < 256 := (l.getD k 0).toNat_lt
theorem nth_of (l : List UInt8) (k : Nat) (h : k < l.length) : nth l k = (l[k]).toNat := by simp [nth, List.getD, h]
theorem nth_cons_zero (a : UInt8) (l : List UInt8) : nth (a :: l) 0 = a.toNat := rfl
theorem nth_cons_succ (a : UInt8) (l : List UInt8) (k : Nat) : nth (a :: l) (k + 1) = nth l k := rfl
theorem nth_drop (l : List UInt8) (i k : Nat) : nth (l.drop i) k = nth l (i + k) := by simp [nth, List.getD]
theorem str_eq (l : List UInt8) : str l = .string ⟨l.toArray⟩ := rfl
attribute [local simp] ByteArray.toList_mk
section
variable {P : Program} (w : World)
theorem run_len_str (t ty : TypeId) (l : List UInt8) (h : P.underlying t = some .string) :
 (Builtin.len_ #[t] ty #[str l]).run P w = .ok (.int .i64 l.length) w := by
 rw [str_eq, run_len_string w t ty _ h]; rfl
theorem run_index_str (t : TypeId) (l : List UInt8) (k : IntKind) (i : Int) (h : P.underlying t = some .string) (h0 : 0 ≤ i) (h1 : i < l.length) :
 (Instr.index t (str l) (.int k i)).run P w = .ok (.int .u8 (nth l i.toNat)) w := by
 have h2 : i.toNat < l.length := by omega
 rw [str_eq, run_index_string w t _ k i h, dif_pos ⟨h0, by simpa [ByteArray.size] using h1⟩]
 congr 3
 show (l.toArray[i.toNat]).toNat = _
 rw [nth_of l _ h2]
 simp
theorem run_index_str_if (t : TypeId) (l : List UInt8) (k : IntKind) (i : Int) (h : P.underlying t = some .string) :
 (Instr.index t (str l) (.int k i)).run P w = if 0 ≤ i ∧ i < l.length then .ok (.int .u8 (nth l i.toNat)) w else (boundsPanic k i l.length .index).run P w := by
 by_cases hc : 0 ≤ i ∧ i < (l.length : Int)
 · rw [if_pos hc, run_index_str w t l k i h hc.1 hc.2]
 · rw [if_neg hc, str_eq, run_index_string w t _ k i h, dif_neg (by simpa [ByteArray.size] using hc)]
   simp [ByteArray.size]
theorem run_slice_str_lh (t : TypeId) (l : List UInt8) (k k' : IntKind) (i j : Int) (h : P.underlying t = some .string) (h0 : 0 ≤ i) (h1 : i ≤ j) (h2 : j ≤ l.length) :
 (Instr.slice t (str l) (some (.int k i)) (some (.int k' j)) none).run P w = .ok (str ((l.take j.toNat).drop i.toNat)) w := by
 rw [str_eq, run_slice_string w t _ k k' i j h h0 h1 (by simpa [ByteArray.size] using h2), ByteArray.extract_mk]
 simp [str, List.drop_take]
theorem run_slice_str_l (t : TypeId) (l : List UInt8) (k : IntKind) (i : Int) (h : P.underlying t = some .string) (h0 : 0 ≤ i) (h1 : i ≤ l.length) :
 (Instr.slice t (str l) (some (.int k i)) none none).run P w = .ok (str (l.drop i.toNat)) w := by
 rw [str_eq, run_slice_string_from_if w t _ k i h, if_pos ⟨h0, by simpa [ByteArray.size] using h1⟩, ByteArray.extract_mk, List.take_of_length_le (by simp [ByteArray.size])]
 rfl
theorem run_slice_str_h (t : TypeId) (l : List UInt8) (k : IntKind) (j : Int) (h : P.underlying t = some .string) (h0 : 0 ≤ j) (h1 : j ≤ l.length) :
 (Instr.slice t (str l) none (some (.int k j)) none).run P w = .ok (str (l.take j.toNat)) w := by
 rw [str_eq, run_slice_string_to_if w t _ k j h, if_pos ⟨h0, by simpa [ByteArray.size] using h1⟩, ByteArray.extract_mk]
 simp [str]
theorem run_add_str (t : TypeId) (a b : List UInt8) (h : a.length + b.length ≤ 9223372036854775807) :
 (binOp .add t (str a) (str b)).run P w = .ok (str (a ++ b)) w := by
 rw [str_eq, str_eq, binOp_string_add, run_string_add_sum w _ _ (by simpa [ByteArray.size] using h), ByteArray.mk_append_mk]
 rfl
end
theorem eqGuard_at_str {op : BinOp} {t : TypeId} {x y : Operand} (l : List UInt8) (v : Value) : eqGuard op t x y (str l) v = pure () := by cases op <;> rfl
theorem binOp_eql_str (t : TypeId) (a b : List UInt8) : binOp .eql t (str a) (str b) = pure (.bool (a == b)) := by
 rw [str_eq, str_eq, binOp_string_eql]; simp
theorem binOp_neq_str (t : TypeId) (a b : List UInt8) : binOp .neq t (str a) (str b) = pure (.bool (!(a == b))) := by
 rw [str_eq, str_eq, binOp_string_neq]; simp
theorem run_store_str (P : Program) (w : World) (a : Addr) (m : Mode) (l : List UInt8) : (store a (str l) m).run P w = stored P w a (str l) m := run_store P w a _ m rfl
theorem oneCell'_str (l : List UInt8) : (str l).oneCell' = true := rfl
theorem cells_str (l : List UInt8) : (str l).cells = #[str l] := rfl
/-- (The walk lays 'Value.cells' open before its rules are tried: this one serves behind that.) -/
theorem cells_str2 (l : List UInt8) (f : Array Value → Array Value) (g : Value → Array Value) : Value.cells.match_1 (fun _ => Array Value) (str l) f g = g (str l) := rfl
attribute [go_sem high] cells_str2
theorem run_slice_str_all {P : Program} (w : World) (t : TypeId) (l : List UInt8) (h : P.underlying t = some .string) :
 (Instr.slice t (str l) none none none).run P w = .ok (str l) w := by
 rw [str_eq, run_slice_string_all w t _ h, ByteArray.extract_mk]
 simp [ByteArray.size]
theorem run_slice_str_l_if {P : Program} (w : World) (t : TypeId) (l : List UInt8) (k : IntKind) (i : Int) (h : P.underlying t = some .string) :
 (Instr.slice t (str l) (some (.int k i)) none none).run P w = if 0 ≤ i ∧ i ≤ l.length then .ok (str (l.drop i.toNat)) w else ((boundsPanic k i l.length .sliceB : Sem Nat).run P w).andThen fun a w' => .ok (.string ((ByteArray.mk l.toArray).extract a l.length)) w' := by
 by_cases hc : 0 ≤ i ∧ i ≤ (l.length : Int)
 · rw [if_pos hc, run_slice_str_l w t l k i h hc.1 hc.2]
 · rw [if_neg hc, str_eq, run_slice_string_from_if w t _ k i h, if_neg (by simpa [ByteArray.size] using hc)]
   simp [ByteArray.size]
theorem run_slice_str_h_if {P : Program} (w : World) (t : TypeId) (l : List UInt8) (k : IntKind) (j : Int) (h : P.underlying t = some .string) :
 (Instr.slice t (str l) none (some (.int k j)) none).run P w = if 0 ≤ j ∧ j ≤ l.length then .ok (str (l.take j.toNat)) w else ((boundsPanic k j l.length .sliceAlen : Sem Nat).run P w).andThen fun a w' => .ok (.string ((ByteArray.mk l.toArray).extract 0 a)) w' := by
 by_cases hc : 0 ≤ j ∧ j ≤ (l.length : Int)
 · rw [if_pos hc, run_slice_str_h w t l k j h hc.1 hc.2]
 · rw [if_neg hc, str_eq, run_slice_string_to_if w t _ k j h, if_neg (by simpa [ByteArray.size] using hc)]
   simp [ByteArray.size]
theorem run_add_str_if {P : Program} (w : World) (t : TypeId) (a b : List UInt8) :
 (binOp .add t (str a) (str b)).run P w = if a.length + b.length ≤ 9223372036854775807 then .ok (str (a ++ b)) w else .halt (.unsupported (.resourceLimit "string concatenation: a sum of the lengths that is no int")) w := by
 by_cases hc : a.length + b.length ≤ 9223372036854775807
 · rw [if_pos hc, run_add_str w t a b hc]
 · rw [if_neg hc, str_eq, str_eq, binOp_string_add, run_string_add_if, if_pos (by simp [ByteArray.size]; omega)]
section
variable {P : Program} (w : World) (t ty : TypeId) (l a b : List UInt8)
theorem run_len_lit (h : P.underlying t = some .string) : (Builtin.len_ #[t] ty #[.string ⟨l.toArray⟩]).run P w = .ok (.int .i64 l.length) w := run_len_str w t ty l h
theorem run_index_lit (k : IntKind) (i : Int) (h : P.underlying t = some .string) :
 (Instr.index t (.string ⟨l.toArray⟩) (.int k i)).run P w = if 0 ≤ i ∧ i < l.length then .ok (.int .u8 (nth l i.toNat)) w else (boundsPanic k i l.length .index).run P w := run_index_str_if w t l k i h
theorem run_add_str_lit : (binOp .add t (str a) (.string ⟨b.toArray⟩)).run P w = if a.length + b.length ≤ 9223372036854775807 then .ok (str (a ++ b)) w else .halt (.unsupported (.resourceLimit "string concatenation: a sum of the lengths that is no int")) w := run_add_str_if w t a b
theorem run_add_lit_str : (binOp .add t (.string ⟨a.toArray⟩) (str b)).run P w = if a.length + b.length ≤ 9223372036854775807 then .ok (str (a ++ b)) w else .halt (.unsupported (.resourceLimit "string concatenation: a sum of the lengths that is no int")) w := run_add_str_if w t a b
theorem binOp_eql_str_lit : binOp .eql t (str a) (.string ⟨b.toArray⟩) = pure (.bool (a == b)) := binOp_eql_str t a b
theorem binOp_eql_lit_str : binOp .eql t (.string ⟨a.toArray⟩) (str b) = pure (.bool (a == b)) := binOp_eql_str t a b
theorem binOp_neq_str_lit : binOp .neq t (str a) (.string ⟨b.toArray⟩) = pure (.bool (!(a == b))) := binOp_neq_str t a b
theorem binOp_neq_lit_str : binOp .neq t (.string ⟨a.toArray⟩) (str b) = pure (.bool (!(a == b))) := binOp_neq_str t a b
end
attribute [go_sem high] run_len_lit run_index_lit run_add_str_lit run_add_lit_str binOp_eql_str_lit binOp_eql_lit_str binOp_neq_str_lit binOp_neq_lit_str
attribute [go_sem high] run_len_str run_index_str_if run_slice_str_lh run_slice_str_l_if run_slice_str_h_if run_slice_str_all run_add_str_if eqGuard_at_str binOp_eql_str binOp_neq_str run_store_str oneCell'_str cells_str
theorem belN {B : Nat} {a w : World} (h : Below B a w) (n : Nat) : Below B a (w.drewN n) := ⟨h.os, h.tape, h.output, h.size, h.block⟩
/-- The slice value '.slice A n c' holds the cells xs ('size' cells an element) and lies below block B. -/
def Sl (w : World) (B size : Nat) (A : Option Addr) (n : Nat) (xs : List Value) : Prop :=
 xs.length = n * size ∧ (0 < n → ∃ b off, A = some ⟨b, off, none⟩ ∧ b < B ∧ ∀ j u, xs[j]? = some u → w.cell? ⟨b, off + j, none⟩ = some u)
/-- The address behind a cut 's[k:]'. -/
def cutA (A : Option Addr) (c k size : Nat) : Option Addr := if c = k then A else A.map (·.add (k * size))
section
variable {w w' : World} {B B' size n : Nat} {A : Option Addr} {xs : List Value}
theorem Sl.nil_ (w : World) (B size : Nat) (A : Option Addr) : Sl w B size A 0 [] := ⟨by simp, fun h => absurd h (by omega)⟩
theorem Sl.len (h : Sl w B 1 A n xs) : xs.length = n := by have := h.1; omega
theorem Sl.at_ {k : Nat} (h : Sl w B 1 A n xs) (hk : k < n) : ∃ b off u, A = some ⟨b, off, none⟩ ∧ b < B ∧ xs[k]? = some u ∧ w.cell? ⟨b, off + k, none⟩ = some u := by
 obtain ⟨b, off, e, hb, hc⟩ := h.2 (by omega)
 have hl : k < xs.length := by have := h.1; omega
 exact ⟨b, off, xs[k], e, hb, List.getElem?_eq_getElem hl, hc k _ (List.getElem?_eq_getElem hl)⟩
theorem Sl.keep (h : Sl w B size A n xs) (hk : ∀ p : Addr, p.block < B → w'.cell? p = w.cell? p) : Sl w' B size A n xs :=
 ⟨h.1, fun hn => by
  obtain ⟨b, off, e, hb, hc⟩ := h.2 hn
  exact ⟨b, off, e, hb, fun j u hu => (hk _ hb).trans (hc j u hu)⟩⟩
theorem Sl.more (h : Sl w B size A n xs) (hB : B ≤ B') : Sl w B' size A n xs :=
 ⟨h.1, fun hn => by
  obtain ⟨b, off, e, hb, hc⟩ := h.2 hn
  exact ⟨b, off, e, by omega, hc⟩⟩
theorem Sl.below (h : Sl w B size A n xs) (hb : Below B w w') : Sl w' B size A n xs := h.keep fun _ hp => hb.cell hp
theorem Sl.drew (h : Sl w B size A n xs) : Sl w.drew B size A n xs := h
theorem Sl.drewN (h : Sl w B size A n xs) (k : Nat) : Sl (w.drewN k) B size A n xs := h
theorem Sl.alloc (h : Sl w B size A n xs) (hB : B ≤ w.heap.size) (o : Obj) : Sl (w.alloc o) B size A n xs := h.keep fun p hp => World.cell?_alloc_lt w o p (by omega)
theorem Sl.setCell (h : Sl w B size A n xs) {p : Addr} (hB : B ≤ p.block) (u : Value) : Sl (w.setCell p u) B size A n xs :=
 h.keep fun q hq => World.cell?_setCell_other w p q u (fun e => by subst e; omega)
theorem Sl.grown (h : Sl w B size A n xs) {row : Option Nat} (hg : w.grownBy w' row) (hB : B ≤ w.heap.size) (hr : ∀ g, row = some g → B ≤ g) : Sl w' B size A n xs :=
 h.keep fun p hp => World.cell?_of_block (hg.block p.block (by omega) (fun e => by have := hr _ e.symm; omega))
theorem Sl.cut (h : Sl w B size A n xs) {k c : Nat} (hk : k ≤ n) (hc : n ≤ c) : Sl w B size (cutA A c k size) (n - k) (xs.drop (k * size)) := by
 refine ⟨by rw [List.length_drop, h.1, Nat.sub_mul], fun hn => ?_⟩
 obtain ⟨b, off, rfl, hb, hcell⟩ := h.2 (by omega)
 unfold cutA
 rw [if_neg (by omega)]
 refine ⟨b, off + k * size, by rw [Option.map_some, Addr.add_lit], hb, fun j u hu => ?_⟩
 rw [Nat.add_assoc]
 exact hcell _ u (by rw [← hu, List.getElem?_drop])
theorem Sl.upto (h : Sl w B size A n xs) {k : Nat} (hk : k ≤ n) : Sl w B size A k (xs.take (k * size)) := by
 refine ⟨?_, fun hn => ?_⟩
 · rw [List.length_take, h.1]; exact Nat.min_eq_left (Nat.mul_le_mul_right _ hk)
 · obtain ⟨b, off, rfl, hb, hcell⟩ := h.2 (by omega)
   refine ⟨b, off, rfl, hb, fun j u hu => hcell j u ?_⟩
   rw [List.getElem?_take] at hu
   split at hu
   · exact hu
   · cases hu
theorem Sl.of_own {base : Nat} {e : TypeId} {c : Nat} (h : w.ownsRow base e size (.slice A n c) n xs) : Sl w w.heap.size size A n xs := by
 refine ⟨h.1, fun hn => ?_⟩
 rcases h.2 with ⟨_, h0⟩ | ⟨g, cap, cur, hv, _, hh, _⟩
 · omega
 · have hA : A = some ⟨g, 0, none⟩ := by injection hv
   subst hA
   refine ⟨g, 0, rfl, ?_, fun j u hu => ?_⟩
   · rcases Nat.lt_or_ge g w.heap.size with hlt | hge
     · exact hlt
     · rw [Array.getElem?_eq_none hge] at hh; cases hh
   · have := h.cells (g := g) rfl j u hu
     rwa [Addr.add_lit] at this
/-- A row of cells in one block. -/
theorem Sl.of_block {g off : Nat} {cs : Array Value} {t : TypeId} {fr : Nat × Nat} (hg : w.heap[g]? = some (.cells cs t fr)) (hl : xs.length = n * size) (hx : ∀ j u, xs[j]? = some u → cs[off + j]? = some u) : Sl w w.heap.size size (some ⟨g, off, none⟩) n xs := by
 refine ⟨hl, fun _ => ⟨g, off, rfl, ?_, fun j u hu => ?_⟩⟩
 · rcases Nat.lt_or_ge g w.heap.size with hlt | hge
   · exact hlt
   · rw [Array.getElem?_eq_none hge] at hg; cases hg
 · simp [World.cell?, hg, hx j u hu]
end
/-- One new cell; a new row. -/
theorem Sl.one (w : World) (t : TypeId) (v : Value) : Sl (w.alloc (.cells #[v] t)) (w.heap.size + 1) 1 (some ⟨w.heap.size, 0, none⟩) 1 [v] := by
 have h := Sl.of_block (w := w.alloc (.cells #[v] t)) (g := w.heap.size) (off := 0) (size := 1) (n := 1) (xs := [v]) (heap_alloc_new w _) rfl (fun j u hu => by
  match j, hu with
  | 0, hu => simpa using hu)
 simpa using h
theorem Sl.row (w : World) (t : TypeId) (size n : Nat) (l : List Value) (h : l.length = n * size) : Sl (w.alloc (.cells l.toArray t)) (w.heap.size + 1) size (some ⟨w.heap.size, 0, none⟩) n l := by
 have h := Sl.of_block (w := w.alloc (.cells l.toArray t)) (g := w.heap.size) (off := 0) (size := size) (n := n) (xs := l) (heap_alloc_new w _) h (fun j u hu => by
  rw [Nat.zero_add]; simpa using hu)
 simpa using h
/-- The length in a slot that holds a slice: for a loop's measure. -/
def lenOf : Value → Nat | .slice _ n _ => n | _ => 0
/-- The slice value '.slice A n c' holds the bytes l. -/
def By (w : World) (B : Nat) (A : Option Addr) (n : Nat) (l : List UInt8) : Prop := Sl w B 1 A n (Lib.byteCells l)
section
variable {w w' : World} {B B' n : Nat} {A : Option Addr} {l : List UInt8}
theorem By.len (h : By w B A n l) : l.length = n := by have := Sl.len h; simpa [Lib.byteCells] using this
theorem By.nil_ (w : World) (B : Nat) (A : Option Addr) : By w B A 0 [] := Sl.nil_ w B 1 A
theorem By.at_ {k : Nat} (h : By w B A n l) (hk : k < n) : ∃ b off, A = some ⟨b, off, none⟩ ∧ b < B ∧ w.cell? ⟨b, off + k, none⟩ = some (.int .u8 (nth l k)) := by
 obtain ⟨b, off, u, hA, hb, hu, hc⟩ := Sl.at_ h hk
 have hl : k < l.length := by rw [h.len]; exact hk
 refine ⟨b, off, hA, hb, hc.trans ?_⟩
 rw [← hu, nth_of l k hl]
 simp [Lib.byteCells, hl]
theorem By.opn (h : By w B A n l) (hn : 0 < n) : ∃ b off, A = some ⟨b, off, none⟩ ∧ b < B ∧ ∀ k, k < n → w.cell? ⟨b, off + k, none⟩ = some (.int .u8 (nth l k)) := by
 obtain ⟨b, off, hA, hb, hc⟩ := And.right h hn
 refine ⟨b, off, hA, hb, fun k hk => hc k _ ?_⟩
 have hl : k < l.length := by rw [h.len]; exact hk
 rw [nth_of l k hl]
 simp [Lib.byteCells, hl]
theorem By.keep (h : By w B A n l) (hk : ∀ p : Addr, p.block < B → w'.cell? p = w.cell? p) : By w' B A n l := Sl.keep h hk
theorem By.more (h : By w B A n l) (hB : B ≤ B') : By w B' A n l := Sl.more h hB
theorem By.below (h : By w B A n l) (hb : Below B w w') : By w' B A n l := Sl.below h hb
theorem By.alloc (h : By w B A n l) (hB : B ≤ w.heap.size) (o : Obj) : By (w.alloc o) B A n l := Sl.alloc h hB o
theorem By.cut (h : By w B A n l) {k c : Nat} (hk : k ≤ n) (hc : n ≤ c) : By w B (cutA A c k 1) (n - k) (l.drop k) := by
 have := Sl.cut h hk hc
 simpa [By, Lib.byteCells, List.map_drop] using this
theorem By.upto (h : By w B A n l) {k : Nat} (hk : k ≤ n) : By w B A k (l.take k) := by
 have := Sl.upto h hk
 simpa [By, Lib.byteCells, List.map_take] using this
/-- A block that holds just these bytes (laid by a literal, or by a conversion: with a mark). -/
theorem By.block (w : World) (l : List UInt8) {g n : Nat} {e : TypeId} {fr : Nat × Nat} (hg : g = w.heap.size) (hn : n = l.length := by rfl) : By (w.alloc (.cells (Lib.byteCells l).toArray e fr)) (w.alloc (.cells (Lib.byteCells l).toArray e fr)).heap.size (some ⟨g, 0, none⟩) n l := by
 subst hg; subst hn
 exact Sl.of_block (heap_alloc_new w _) (by simp [Lib.byteCells]) (fun j u hu => by rw [Nat.zero_add]; simpa using hu)
theorem By.of_own {base : Nat} {e : TypeId} {c : Nat} (h : w.ownsRow base e 1 (.slice A n c) n (Lib.byteCells l)) : By w w.heap.size A n l := Sl.of_own h
end
section
variable {P : Program}
/-- '[]byte(s)'. -/
theorem run_toBytes (w : World) (src dst e : TypeId) (l : List UInt8) (hs : P.underlying src = some .string) (hd : P.underlying dst = some (.slice e)) (he : P.underlying e = some (.int .u8)) :
 ∃ A c w', (convert src dst (str l)).run P w = .ok (.slice A l.length c) w' ∧ By w' w'.heap.size A l.length l ∧ l.length ≤ c ∧ Below w.heap.size w w' ∧ w.heap.size < w'.heap.size := by
 refine ⟨_, _, _, run_bytes_of_string w src dst e ⟨l.toArray⟩ hs hd he, ?_, ?_, ?_, ?_⟩
 · refine Sl.of_block (g := w.heap.size) (heap_alloc_new w.drew _) (by simp [Lib.byteCells]) fun j u hu => ?_
   rw [Nat.zero_add]
   have hj : j < l.length := by
    rcases Nat.lt_or_ge j l.length with h | h
    · exact h
    · simp [Lib.byteCells, List.getElem?_eq_none h] at hu
   rw [bytesRow_at ⟨l.toArray⟩ _ j (by simpa using hj)]
   simp [Lib.byteCells, hj] at hu
   simpa using hu
 · exact grownCap_ge _ _ _ _
 · exact (Below.drew (Below.refl _ w)).alloc (Nat.le_refl _) _
 · simp
/-- 'string(b)'. -/
theorem run_toStr (w : World) (src dst e : TypeId) (B : Nat) (A : Option Addr) (n c : Nat) (l : List UInt8) (hb : By w B A n l) (hs : P.underlying src = some (.slice e)) (he : P.underlying e = some (.int .u8)) (hd : P.underlying dst = some .string) :
 (convert src dst (.slice A n c)).run P w = .ok (str l) w := by
 have hl := hb.len
 subst hl
 rcases Nat.eq_zero_or_pos l.length with h0 | h0
 · have hnil : l = [] := List.eq_nil_of_length_eq_zero h0
   subst hnil
   cases A with
   | none => rw [run_convert_bytes_nil w src e hs he _ _ dst hd]; rfl
   | some a => exact run_convert_bytes_back w src dst e a c [] hs he hd (fun j hj => absurd hj (by simp))
 · obtain ⟨b, off, rfl, _, hc⟩ := hb.2 h0
   refine run_convert_bytes_back w src dst e ⟨b, off, none⟩ c l hs he hd (fun j hj => ?_)
   rw [Addr.add_lit]
   exact hc j _ (by simp [Lib.byteCells, hj])
theorem elem_of {t e : TypeId} (ht : P.underlying t = some (.slice e)) : P.elem t = e := by
 simp [Program.elem, ht]
/-- 's[k:]'. -/
theorem run_cut (w : World) (t e : TypeId) (size : Nat) (ht : P.underlying t = some (.slice e)) (hs : (sizeOf e).run P w = .ok size w) (A : Option Addr) (n c : Nat) (ki : IntKind) (k : Int) (h0 : 0 ≤ k) (h1 : k ≤ n) :
 (Instr.slice t (.slice A n c) (some (.int ki k)) none none).run P w = .ok (.slice (cutA A c k.toNat size) (n - k.toNat) (c - k.toNat)) w := by
 have he := elem_of ht
 rw [run_slice_l w t A n c (by rw [he]; exact ht) ki k h0 h1, he, hs]
 rfl
/-- 's[i:j]'. -/
theorem run_mid (w : World) (t e : TypeId) (size : Nat) (ht : P.underlying t = some (.slice e)) (hs : (sizeOf e).run P w = .ok size w) (A : Option Addr) (n c : Nat) (ki kj : IntKind) (i j : Int) (h0 : 0 ≤ i) (h1 : i ≤ j) (h2 : j ≤ n) (hc : n ≤ c) :
 (Instr.slice t (.slice A n c) (some (.int ki i)) (some (.int kj j)) none).run P w = .ok (.slice (cutA A c i.toNat size) (j.toNat - i.toNat) (c - i.toNat)) w := by
 have he := elem_of ht
 rw [run_slice_lh w t A n c (by rw [he]; exact ht) ki kj i j h0 h1 (by omega), he, hs]
 rfl
/-- 'append(s, x...)' onto a slice of the call's own: whatever is appended, nil and empty too. -/
theorem run_app (w : World) (base : Nat) (t ty e : TypeId) (i : TypeInfo) (z : Value) (size bytes : Nat) (ht : P.underlying t = some (.slice e)) (hi : P.info? e = some i) (hz : i.zero = some z)
 (hsize : i.size = size) (hby : i.bytes = bytes) (hzs : z.cells.size = size) (hsz : 0 < size)
 (S : Option Addr) (n cs : Nat) (xs : List Value) (hown : w.ownsRow base e size (.slice S n cs) n xs)
 (B : Nat) (A : Option Addr) (m c : Nat) (news : List Value) (hr : Sl w B size A m news) (h1 : ∀ u ∈ news, u.oneCell' = true)
 (h63 : n + m ≤ maxLen) (hbytes : (n + m) * bytes ≤ 140737488355328) (hbase : base ≤ w.heap.size) :
 ∃ S' c' w', (Builtin.append_ #[t, t] ty #[.slice S n cs, .slice A m c]).run P w = .ok (.slice S' (n + m) c') w' ∧ w'.ownsRow base e size (.slice S' (n + m) c') (n + m) (xs ++ news) ∧
  w.grownBy w' (Value.ownBlock (.slice S n cs)) ∧ (Value.ownBlock (.slice S' (n + m) c') = Value.ownBlock (.slice S n cs) ∨ Value.ownBlock (.slice S' (n + m) c') = some w.heap.size) := by
 have form : ∀ {v : Value} {w' : World} {k : Nat} {ys : List Value}, w'.ownsRow base e size v k ys → ∃ S' c', v = .slice S' k c' := by
  intro v w' k ys h
  rcases h.2 with ⟨hv, h0⟩ | ⟨g, cap, cur, hv, _⟩
  · exact ⟨none, 0, by rw [hv, h0]⟩
  · exact ⟨_, _, hv⟩
 rcases A with _ | ad
 · have hm : m = 0 := by
    rcases Nat.eq_zero_or_pos m with h0 | h0
    · exact h0
    · obtain ⟨_, _, h, _⟩ := hr.2 h0
      cases h
   subst hm
   have hn : news = [] := List.eq_nil_of_length_eq_zero (by simpa using hr.1)
   subst hn
   refine ⟨S, cs, w, ?_, by simpa using hown, World.grownBy.refl w _, .inl rfl⟩
   rcases hown.2 with ⟨hv, h0⟩ | ⟨g, cap, cur, hv, _, _, hnc, _⟩
   · injection hv with hS hn0 hcs
     subst hS; subst hn0; subst hcs
     simp [Builtin.append_, run_underlying ht, sizeOf, typeInfo, hi, Builtin.lenOf, Builtin.firstCells]
   · injection hv with hS hn0 hcs
     subst hS; subst hcs
     simp [Builtin.append_, run_underlying ht, sizeOf, typeInfo, hi, Builtin.lenOf, Builtin.firstCells, hnc, storeCells]
 · have hcells : ∀ j u, news[j]? = some u → w.cell? (ad.add j) = some u := by
    intro j u hu
    rcases Nat.eq_zero_or_pos m with h0 | h0
    · subst h0
      have hn : news = [] := List.eq_nil_of_length_eq_zero (by simpa using hr.1)
      subst hn
      simp at hu
    · obtain ⟨b, off, h, _, hc⟩ := hr.2 h0
      injection h with h
      subst h
      rw [Addr.add_lit]
      exact hc j u hu
   obtain ⟨v', w', hrun, h2, h3, _, h5⟩ := run_append_own_at (P := P) w base t ty e i z size bytes ht hi hz hsize hby hzs hsz _ n xs hown ad m c news hr.1 hcells h1 h63 hbytes hbase
   obtain ⟨S', c', rfl⟩ := form h2
   exact ⟨S', c', w', hrun, h2, h3, h5⟩
theorem wpList_app {w : World} {ops : Array Oper} {rest : List Oper} {o : Oper} {a : Act} {Q : Exit → Act → World → Prop} (hgd : o.guard = none) (s x : Operand) (t : TypeId)
 (ho : o.op = .call { callee := .builtin .append, args := #[s, x], argTypes := #[t, t] })
 (base : Nat) (e : TypeId) (i : TypeInfo) (z : Value) (size bytes : Nat) (ht : P.underlying t = some (.slice e)) (hi : P.info? e = some i) (hz : i.zero = some z)
 (hsize : i.size = size) (hby : i.bytes = bytes) (hzs : z.cells.size = size) (hsz : 0 < size)
 (S : Option Addr) (n cs : Nat) (xs : List Value) (hs : a.eval s = .slice S n cs) (hown : w.ownsRow base e size (.slice S n cs) n xs)
 (B : Nat) (A : Option Addr) (m c : Nat) (news : List Value) (hx : a.eval x = .slice A m c) (hr : Sl w B size A m news) (h1 : ∀ u ∈ news, u.oneCell' = true)
 (h63 : n + m ≤ maxLen) (hbytes : (n + m) * bytes ≤ 140737488355328) (hbase : base ≤ w.heap.size)
 (h : ∀ S' c' w', w'.ownsRow base e size (.slice S' (n + m) c') (n + m) (xs ++ news) → Below base w w' → w.grownBy w' (Value.ownBlock (.slice S n cs)) → wpList P ops Q rest (a.put o.dst (.slice S' (n + m) c')) w') : wpList P ops Q (o :: rest) a w := by
 refine wpList_plain hgd fun K hK => ?_
 obtain ⟨S', c', w', hrun, h2, h3, h4⟩ := run_app (P := P) w base t o.type e i z size bytes ht hi hz hsize hby hzs hsz S n cs xs hown B A m c news hr h1 h63 hbytes hbase
 unfold Oper.wp execOp
 simp only [ho, resolve, invoke, builtin, Sem.run_bind, Sem.run_pure, Result.andThen_ok, List.map_toArray, List.map_cons, List.map_nil, hs, hx, hrun]
 exact hK _ _ (h S' c' w' h2 ((Below.refl base w).grown h3 hbase (fun k hk => (hown.lt k hk).1)) h3)
end
end Go.Proofs.YtpnolbfnmknhlaaDoor
namespace Go.Proofs.YtpnolbfnmknhlaaDoor
open Go.ChangeShapes Go.WideShapes Go.ChangeAt Go.RowKit
open Go.ChangeMaps (open_string shut_string)
theorem own : ownKnob Tryd.prog.godebug = none := by kernel_rfl
theorem laidOut : laidOutB Tryd.prog = true := by kernel_rfl
/-- What the walk is told of a slice of integers that came in. -/
def IsRow (k : IntKind) (w : World) (a : Option Addr) (len cap : Nat) (zs : List Int) : Prop :=
 (a = none ∧ len = 0 ∧ cap = 0 ∧ zs = []) ∨
 ∃ x, a = some x ∧ len ≤ cap ∧ cap ≤ maxLen ∧ zs.length = cap ∧ (∀ i, i < zs.length → w.cell? (x.add i) = some (.int k (zs.getD i 0))) ∧ ∀ n ∈ zs, (Lit.int k n).wf = true
theorem cell_lt {w : World} {a : Addr} {v : Value} (h : w.cell? a = some v) : a.block < w.heap.size := by
 rcases Nat.lt_or_ge a.block w.heap.size with h' | h'
 · exact h'
 · simp [World.cell?, Array.getElem?_eq_none h'] at h
/-- A slice of bytes that came in, as a list of bytes. -/
theorem IsRow.toBy {w : World} {a : Option Addr} {len cap : Nat} {zs : List Int} (h : IsRow .u8 w a len cap zs) : ∃ l, By w w.heap.size a len l ∧ len ≤ cap ∧ cap ≤ maxLen := by
 rcases h with ⟨rfl, rfl, rfl, rfl⟩ | ⟨x, rfl, hl, hm, hz, hcell, hwf⟩
 · exact ⟨[], By.nil_ _ _ _, Nat.le_refl _, Nat.zero_le _⟩
 · refine ⟨(zs.take len).map fun z => UInt8.ofNat z.toNat, ⟨by simp [Lib.byteCells]; omega, fun h0 => ?_⟩, hl, hm⟩
   obtain ⟨b, off, rfl, hc⟩ := ints_at hcell (by omega)
   refine ⟨b, off, rfl, ?_, fun j u hu => ?_⟩
   · exact cell_lt (hc 0 (by omega))
   · have hj : j < len := by
      rcases Nat.lt_or_ge j len with h' | h'
      · exact h'
      · rw [List.getElem?_eq_none (by simp [Lib.byteCells]; omega)] at hu; cases hu
     have hjz : j < zs.length := by omega
     rw [hc j hjz]
     have hmem : zs[j] ∈ zs := List.getElem_mem hjz
     have hb := bounds_u8 (hwf _ hmem)
     have e : ((UInt8.ofNat zs[j].toNat).toNat : Int) = zs[j] := by rw [UInt8.toNat_ofNat']; omega
     have e2 : (Lib.byteCells ((zs.take len).map fun z => UInt8.ofNat z.toNat))[j]? = some (.int .u8 ((UInt8.ofNat zs[j].toNat).toNat : Int)) := by
      simp [Lib.byteCells, hj, hjz]
     rw [e2] at hu
     rw [← hu, e]
     simp [List.getD, hjz]
end Go.Proofs.YtpnolbfnmknhlaaDoor
namespace Go.Proofs.YtpnolbfnmknhlaaDoor
def lowB (b : UInt8) : UInt8 := if 65 ≤ b ∧ b ≤ 90 then b + 32 else b
def lowL (l : List UInt8) : List UInt8 := l.map lowB
structure LinkD where
 frm : Nat
 til : Nat
 text : List UInt8
end Go.Proofs.YtpnolbfnmknhlaaDoor
namespace Go.Proofs.YtpnolbfnmknhlaaDoor
structure UrlD where
 scheme : List UInt8
 hasHost : Bool
 host : List UInt8
 path : List UInt8
 hasQuery : Bool
 query : List UInt8
 hasFrag : Bool
 frag : List UInt8
def UrlD.cells (u : UrlD) : List Value := [str u.scheme, .bool u.hasHost, str u.host, str u.path, .bool u.hasQuery, str u.query, .bool u.hasFrag, str u.frag]
def UrlD.val (u : UrlD) : Value := .agg #[str u.scheme, .bool u.hasHost, str u.host, str u.path, .bool u.hasQuery, str u.query, .bool u.hasFrag, str u.frag]
theorem indexByte_tw (l : List UInt8) (c : UInt8) : Lib.indexByte l c = if c ∈ l then ((l.takeWhile (fun b => b != c)).length : Int) else -1 := by
 induction l with
 | nil => rfl
 | cons b l ih =>
  unfold Lib.indexByte
  by_cases h : b = c
  · subst h; simp
  · have h' : c ≠ b := fun e => h e.symm
    rw [ih]
    by_cases hm : c ∈ l
    · have e2 : (((l.takeWhile (fun b => b != c)).length : Int) == -1) = false := by simp
      simp [h, hm, e2]
    · simp [h, h', hm]
theorem indexByte_neg (l : List UInt8) (c : UInt8) : Lib.indexByte l c < 0 ↔ c ∉ l := by
 rw [indexByte_tw]
 by_cases h : c ∈ l
 · rw [if_pos h]; simp [h]
 · rw [if_neg h]; simp [h]
theorem cut_tw (l : List UInt8) (c : UInt8) : Lib.cut l [c] = (l.takeWhile (fun b => b != c), (l.dropWhile (fun b => b != c)).drop 1, decide (c ∈ l)) := by
 unfold Lib.cut
 rw [Lib.index_one, indexByte_tw]
 by_cases h : c ∈ l
 · rw [if_pos h, if_pos (by omega)]
   have e := List.takeWhile_append_dropWhile (p := fun b => b != c) (l := l)
   have e1 : l.take (l.takeWhile (fun b => b != c)).length = l.takeWhile (fun b => b != c) := by
    have := congrArg (List.take (l.takeWhile (fun b => b != c)).length) e
    rw [List.take_left] at this
    exact this.symm
   have e2 : l.drop ((l.takeWhile (fun b => b != c)).length + 1) = (l.dropWhile (fun b => b != c)).drop 1 := by
    rw [← List.drop_drop]
    congr 1
    have := congrArg (List.drop (l.takeWhile (fun b => b != c)).length) e
    rw [List.drop_left] at this
    exact this.symm
   simp [h, e1, e2]
 · rw [if_neg h, if_neg (by omega)]
   have e1 : ∀ l : List UInt8, c ∉ l → l.takeWhile (fun b => b != c) = l ∧ l.dropWhile (fun b => b != c) = [] := by
    intro l
    induction l with
    | nil => simp
    | cons b l ih =>
     intro h
     simp only [List.mem_cons, not_or] at h
     have h' : b ≠ c := fun e => h.1 e.symm
     simp [h', ih h.2]
   simp [h, e1 l h]
theorem cut_app (x y : List UInt8) (c : UInt8) (h : ∀ b ∈ x, b ≠ c) : Lib.cut (x ++ c :: y) [c] = (x, y, true) := by
 rw [cut_tw, List.takeWhile_append_of_pos (by simpa using h), List.dropWhile_append_of_pos (by simpa using h)]
 simp
theorem cut_not (x : List UInt8) (c : UInt8) (h : ∀ b ∈ x, b ≠ c) : Lib.cut x [c] = (x, [], false) := by
 have e : Lib.index x [c] < 0 := by rw [Lib.index_one, indexByte_neg]; exact fun hm => h c hm rfl
 unfold Lib.cut
 rw [if_neg (by omega)]
theorem first_of (l : List UInt8) (c : UInt8) (h : c ∈ l) : ∃ x y, l = x ++ c :: y ∧ ∀ b ∈ x, b ≠ c := by
 induction l with
 | nil => cases h
 | cons a l ih =>
  by_cases e : a = c
  · subst e; exact ⟨[], l, rfl, by simp⟩
  · have hm : c ∈ l := by
     simp only [List.mem_cons] at h
     rcases h with h | h
     · exact absurd h.symm e
     · exact h
    obtain ⟨x, y, rfl, hx⟩ := ih hm
    exact ⟨a :: x, y, rfl, by intro b hb; simp only [List.mem_cons] at hb; rcases hb with rfl | hb; exact e; exact hx b hb⟩
end Go.Proofs.YtpnolbfnmknhlaaDoor
namespace Go.Proofs.YtpnolbfnmknhlaaDoor
theorem ofNat_toNat8 (b : UInt8) : UInt8.ofNat b.toNat = b := by simp
theorem takeWhile_all {p : UInt8 → Bool} {l : List UInt8} (h : ∀ b ∈ l, p b = true) (r : List UInt8) : (l ++ r).takeWhile p = l ++ r.takeWhile p ∧ (l ++ r).dropWhile p = r.dropWhile p :=
 ⟨List.takeWhile_append_of_pos h, List.dropWhile_append_of_pos h⟩
theorem head_stop (p : UInt8 → Bool) (l : List UInt8) (c : UInt8) (h : (l.dropWhile p).head? = some c) : p c = false := by
 have := List.head?_dropWhile_not p l
 rw [h] at this
 simpa using this
end Go.Proofs.YtpnolbfnmknhlaaDoor
namespace Go.Proofs.YtpnolbfnmknhlaaDoor
/-- The first place of a byte; -1: none. -/
def idxB (l : List UInt8) (x : Nat) : Int := Lib.indexByte l (UInt8.ofNat x)
/-- What parts something. -/
def tspec : List UInt8 := [40, 41, 60, 62, 64, 44, 59, 58, 92, 34, 47, 91, 93, 63, 61]
def badTok (x : Nat) : Bool := decide (x ≤ 32) || decide (126 < x) || decide (0 ≤ idxB tspec x)
/-- header.Token. -/
def tokB (l : List UInt8) : Bool := !(l == []) && decide (l.length ≤ 30) && !l.any (fun b => badTok b.toNat)
theorem cut_backT (l : List UInt8) (c : UInt8) (h : (Lib.cut l [c]).2.2 = true) : l = (Lib.cut l [c]).1 ++ c :: (Lib.cut l [c]).2.1 := by
 have hge := Lib.indexByte_ge l c
 unfold Lib.cut at h ⊢
 rw [Lib.index_one] at h ⊢
 by_cases h0 : 0 ≤ Lib.indexByte l c
 · rw [if_pos h0]
   obtain ⟨k, hk⟩ := Int.eq_ofNat_of_zero_le h0
   rw [hk, Int.toNat_natCast]
   have h1 := (Lib.indexByte_some hk).1
   have hl : k < l.length := by
    rcases Nat.lt_or_ge k l.length with h | h
    · exact h
    · rw [List.getElem?_eq_none h] at h1; cases h1
   have h2 : l[k] = c := by rw [List.getElem?_eq_getElem hl] at h1; exact Option.some.inj h1
   show l = l.take k ++ c :: l.drop (k + 1)
   rw [← h2, ← List.drop_eq_getElem_cons hl, List.take_append_drop]
 · rw [if_neg h0] at h
   cases h
end Go.Proofs.YtpnolbfnmknhlaaDoor
namespace Go.Proofs.YtpnolbfnmknhlaaDoor
structure FieldD where
 name : List UInt8
 value : List UInt8
def FieldD.cells (f : FieldD) : List Value := [str f.name, str f.value]
def badVal (x : Nat) : Bool := decide (x < 32) || decide (126 < x)
/-- header.Value. -/
def valB (s : List UInt8) : Bool := decide (s.length ≤ 900) && (s == Lib.trimS s [32]) && !s.any (fun b => badVal b.toNat)
def okF (f : FieldD) : Bool := tokB f.name && valB f.value
/-- header.Check. -/
def chkF (l : List FieldD) : Nat := if 20 < l.length then 2 else if l.all okF then 0 else 1
def lineF (f : FieldD) : List UInt8 := f.name ++ [58, 32] ++ f.value ++ [13, 10]
/-- header.Text. -/
def textF (l : List FieldD) : List UInt8 := l.flatMap lineF ++ [13, 10]
/-- header.Print. -/
def printF (l : List FieldD) : List UInt8 × Nat := if chkF l = 0 then (textF l, 0) else ([], chkF l)
/-- A line without the end that it may have. -/
def chopF (line : List UInt8) : List UInt8 := if Lib.hasSuffix line [13] then line.take (line.length - 1) else line
def blankF (x : Nat) : Bool := x == 32 || x == 9
/-- The last field's value goes on. -/
def moreF (l : List FieldD) (line : List UInt8) : List FieldD :=
 match l.getLast? with
 | none => l
 | some f => l.dropLast ++ [{ f with value := Lib.trimS (f.value ++ 32 :: Lib.trimS line [32, 9]) [32] }]
/-- One line that isn't empty. -/
def goF (l : List FieldD) (line : List UInt8) : Option (List FieldD) :=
 if blankF (nth line 0) then (if l = [] then none else some (moreF l line))
 else if (Lib.cut line [58]).2.2 then some (l ++ [⟨(Lib.cut line [58]).1, Lib.trimS (Lib.cut line [58]).2.1 [32, 9]⟩]) else none
/-- The fields, what is behind them, what is wrong. -/
def linesF : Nat → List UInt8 → List FieldD → List FieldD × List UInt8 × Nat
 | 0, _, _ => ([], [], 1)
 | k + 1, s, l =>
  if (Lib.cut s [10]).2.2 = false then ([], [], 1)
  else if chopF (Lib.cut s [10]).1 = [] then (if chkF l = 0 then (l, (Lib.cut s [10]).2.1, 0) else ([], [], chkF l))
  else match goF l (chopF (Lib.cut s [10]).1) with
   | none => ([], [], 1)
   | some m => if 20 < m.length then ([], [], 2) else linesF k (Lib.cut s [10]).2.1 m
/-- header.Parse. -/
def parseF (b : List UInt8) : List FieldD × Nat × Nat :=
 if 40000 < b.length then ([], 0, 2)
 else if (linesF (b.length + 1) b []).2.2 = 0 then ((linesF (b.length + 1) b []).1, b.length - (linesF (b.length + 1) b []).2.1.length, 0)
 else ([], 0, (linesF (b.length + 1) b []).2.2)
theorem trim_pad (a l b cs : List UInt8) (ha : ∀ x ∈ a, cs.contains x = true) (hb : ∀ x ∈ b, cs.contains x = true) (h0 : ∀ x, l.head? = some x → cs.contains x = false) (h1 : ∀ x, l.getLast? = some x → cs.contains x = false) : Lib.trimS (a ++ l ++ b) cs = l := by
 unfold Lib.trimS Lib.trimLeftS Lib.trimRightS
 rw [List.reverse_append, List.reverse_append, List.dropWhile_append_of_pos (fun x hx => hb x (List.mem_reverse.1 hx))]
 cases hl : l.getLast? with
 | none =>
  have : l = [] := List.getLast?_eq_none_iff.1 hl
  subst this
  rw [List.reverse_nil, List.nil_append]
  have e : a.reverse.dropWhile (cs.contains ·) = [] := by
   have := List.dropWhile_append_of_pos (p := (cs.contains ·)) (l₁ := a.reverse) (l₂ := []) (fun x hx => ha x (List.mem_reverse.1 hx))
   rw [List.append_nil] at this
   exact this
  rw [e]
  rfl
 | some z =>
  have hr : l.reverse = z :: l.reverse.tail := by
   have : l.reverse.head? = some z := by rw [List.head?_reverse, hl]
   cases h : l.reverse with
   | nil => rw [h] at this; cases this
   | cons y r => rw [h] at this; injection this with this; subst this; rfl
  have hz := h1 z hl
  have e : (l.reverse ++ a.reverse).dropWhile (cs.contains ·) = l.reverse ++ a.reverse := by
   rw [hr, List.cons_append, List.dropWhile_cons, if_neg (by rw [hz]; simp)]
  rw [e, List.reverse_append, List.reverse_reverse, List.reverse_reverse, List.dropWhile_append_of_pos ha]
  cases l with
  | nil => rfl
  | cons y r => rw [List.dropWhile_cons, if_neg (by rw [h0 y rfl]; simp)]
theorem trim_left (l cs : List UInt8) : ∀ x, (Lib.trimS l cs).head? = some x → cs.contains x = false := fun x h => head_stop _ _ x h
theorem getLast_suffix {a b : List UInt8} (h : a <:+ b) (h0 : a ≠ []) : a.getLast? = b.getLast? := by
 obtain ⟨t, rfl⟩ := h
 rw [List.getLast?_append]
 cases ha : a.getLast? with
 | none => exact absurd (List.getLast?_eq_none_iff.1 ha) h0
 | some z => rfl
theorem trim_right (l cs : List UInt8) : ∀ x, (Lib.trimS l cs).getLast? = some x → cs.contains x = false := by
 intro x h
 have h0 : Lib.trimS l cs ≠ [] := fun e => by rw [e] at h; cases h
 have hs : Lib.trimS l cs <:+ Lib.trimRightS l cs := List.dropWhile_suffix _
 rw [getLast_suffix hs h0] at h
 unfold Lib.trimRightS at h
 rw [List.getLast?_reverse] at h
 exact head_stop _ _ x h
theorem trim_len (l cs : List UInt8) : (Lib.trimS l cs).length ≤ l.length := by
 unfold Lib.trimS Lib.trimLeftS Lib.trimRightS
 have h1 := (List.dropWhile_suffix (cs.contains ·) (l := (l.reverse.dropWhile (cs.contains ·)).reverse)).length_le
 have h2 := (List.dropWhile_suffix (cs.contains ·) (l := l.reverse)).length_le
 rw [List.length_reverse] at h1 h2
 omega
theorem trim_mem {l cs : List UInt8} {x : UInt8} (h : x ∈ Lib.trimS l cs) : x ∈ l := by
 unfold Lib.trimS Lib.trimLeftS Lib.trimRightS at h
 have h1 := (List.dropWhile_suffix _).subset h
 rw [List.mem_reverse] at h1
 exact List.mem_reverse.1 ((List.dropWhile_suffix _).subset h1)
theorem tok_mem {s : List UInt8} (h : tokB s = true) : s ≠ [] ∧ s.length ≤ 30 ∧ ∀ b ∈ s, 32 < b.toNat ∧ b.toNat ≤ 126 ∧ b ∉ tspec := by
 unfold tokB at h
 simp only [Bool.and_eq_true, Bool.not_eq_true', beq_eq_false_iff_ne, ne_eq, decide_eq_true_eq] at h
 refine ⟨h.1.1, h.1.2, fun b hb => ?_⟩
 have := List.any_eq_false.1 h.2 b hb
 unfold badTok idxB at this
 rw [ofNat_toNat8] at this
 simp only [Bool.or_eq_true, decide_eq_true_eq, not_or] at this
 refine ⟨by omega, by omega, ?_⟩
 exact (indexByte_neg tspec b).1 (by omega)
theorem val_mem {s : List UInt8} (h : valB s = true) : s.length ≤ 900 ∧ s = Lib.trimS s [32] ∧ ∀ b ∈ s, 32 ≤ b.toNat ∧ b.toNat ≤ 126 := by
 unfold valB at h
 simp only [Bool.and_eq_true, Bool.not_eq_true', beq_iff_eq, decide_eq_true_eq] at h
 refine ⟨h.1.1, h.1.2, fun b hb => ?_⟩
 have := List.any_eq_false.1 h.2 b hb
 unfold badVal at this
 simp only [Bool.or_eq_true, decide_eq_true_eq, not_or] at this
 omega
theorem val_ends {s : List UInt8} (h : valB s = true) : (∀ x, s.head? = some x → x ≠ 32 ∧ x ≠ 9) ∧ (∀ x, s.getLast? = some x → x ≠ 32 ∧ x ≠ 9) := by
 obtain ⟨_, ht, hm⟩ := val_mem h
 refine ⟨fun x hx => ⟨?_, ?_⟩, fun x hx => ⟨?_, ?_⟩⟩
 · rw [ht] at hx
   have := trim_left s [32] x hx
   intro e
   rw [e] at this
   cases this
 · have h1 := (hm x (List.mem_of_mem_head? (by rw [hx]; rfl))).1
   intro e
   rw [e] at h1
   exact absurd h1 (by decide)
 · rw [ht] at hx
   have := trim_right s [32] x hx
   intro e
   rw [e] at this
   cases this
 · have h1 := (hm x (List.mem_of_getLast? hx)).1
   intro e
   rw [e] at h1
   exact absurd h1 (by decide)
theorem chk_len {l : List FieldD} (h : chkF l = 0) : l.length ≤ 20 ∧ ∀ f ∈ l, okF f = true := by
 unfold chkF at h
 split at h
 · cases h
 · split at h
   · rename_i h1 h2; exact ⟨by omega, List.all_eq_true.1 h2⟩
   · cases h
theorem ok_field {f : FieldD} (h : okF f = true) : tokB f.name = true ∧ valB f.value = true := by
 unfold okF at h
 rwa [Bool.and_eq_true] at h
theorem lineF_len {f : FieldD} (h : okF f = true) : (lineF f).length ≤ 934 := by
 obtain ⟨h1, h2⟩ := ok_field h
 have a := (tok_mem h1).2.1
 have b := (val_mem h2).1
 unfold lineF
 simp only [List.length_append, List.length_cons, List.length_nil]
 omega
theorem textF_len : ∀ {l : List FieldD}, (∀ f ∈ l, okF f = true) → (textF l).length ≤ 934 * l.length + 2
 | [], _ => by decide
 | f :: r, h => by
  have h1 := lineF_len (h f (by simp))
  have h2 := textF_len (l := r) (fun g hg => h g (by simp [hg]))
  unfold textF at h2 ⊢
  rw [List.flatMap_cons]
  simp only [List.length_append, List.length_cons, List.length_nil] at h2 ⊢
  omega
theorem text_len {l : List FieldD} (h : chkF l = 0) : (textF l).length ≤ 18682 := by
 obtain ⟨h1, h2⟩ := chk_len h
 have := textF_len h2
 omega
theorem lines_back : ∀ (k : Nat) (s : List UInt8) (l m : List FieldD) (rest : List UInt8), linesF k s l = (m, rest, 0) → chkF m = 0 ∧ ∃ pre, s = pre ++ rest ∧ ∀ k' more, pre.length < k' → linesF k' (pre ++ more) l = (m, more, 0) := by
 intro k
 induction k with
 | zero => intro s l m rest h; rw [linesF] at h; cases h
 | succ k ih =>
  intro s l m rest h
  rw [linesF] at h
  by_cases hm : (10 : UInt8) ∈ s
  · obtain ⟨x, y, rfl, hx⟩ := first_of s 10 hm
    rw [cut_app x y 10 hx, if_neg (by simp)] at h
    simp only at h
    by_cases hc : chopF x = []
    · rw [if_pos hc] at h
      by_cases hk : chkF l = 0
      · rw [if_pos hk] at h
        injection h with h1 h2
        injection h2 with h2 _
        subst h1; subst h2
        refine ⟨hk, x ++ [10], by simp, fun k' more hk' => ?_⟩
        obtain ⟨k', rfl⟩ : ∃ j, k' = j + 1 := ⟨k' - 1, by omega⟩
        have e : x ++ [10] ++ more = x ++ 10 :: more := by simp
        rw [e, linesF, cut_app x more 10 hx, if_neg (by simp)]
        simp only
        rw [if_pos hc, if_pos hk]
      · rw [if_neg hk] at h
        injection h with _ h
        injection h with _ h
        exact absurd h hk
    · rw [if_neg hc] at h
      cases hg : goF l (chopF x) with
      | none => rw [hg] at h; cases h
      | some l2 =>
       rw [hg] at h
       simp only at h
       by_cases h20 : 20 < l2.length
       · rw [if_pos h20] at h; cases h
       · rw [if_neg h20] at h
         obtain ⟨c0, pre, hy, hmo⟩ := ih y l2 m rest h
         refine ⟨c0, x ++ 10 :: pre, by rw [hy]; simp, fun k' more hk' => ?_⟩
         obtain ⟨k', rfl⟩ : ∃ j, k' = j + 1 := ⟨k' - 1, by omega⟩
         have e : x ++ 10 :: pre ++ more = x ++ 10 :: (pre ++ more) := by simp
         rw [e, linesF, cut_app x _ 10 hx, if_neg (by simp)]
         simp only
         rw [if_neg hc, hg]
         simp only
         rw [if_neg h20]
         refine hmo k' more ?_
         simp only [List.length_append, List.length_cons] at hk'
         omega
  · rw [cut_not s 10 (fun b hb e => hm (e ▸ hb)), if_pos rfl] at h
    cases h
theorem parse_back {b : List UInt8} {l : List FieldD} {k : Nat} (h : parseF b = (l, k, 0)) :
 chkF l = 0 ∧ k ≤ b.length ∧ b.length ≤ 40000 ∧ ∀ more, (b.take k ++ more).length ≤ 40000 → parseF (b.take k ++ more) = (l, k, 0) := by
 unfold parseF at h
 by_cases h0 : 40000 < b.length
 · rw [if_pos h0] at h; cases h
 · rw [if_neg h0] at h
   rcases hr : linesF (b.length + 1) b [] with ⟨m, rest, e⟩
   rw [hr] at h
   simp only at h
   by_cases he : e = 0
   · subst he
     rw [if_pos rfl] at h
     injection h with h1 h2
     injection h2 with h2 _
     subst h1
     obtain ⟨c0, pre, hb, hmo⟩ := lines_back _ _ _ _ _ hr
     have hk : k = pre.length := by rw [← h2, hb, List.length_append]; omega
     refine ⟨c0, by rw [hk, hb, List.length_append]; omega, by omega, fun more hl => ?_⟩
     have ht : b.take k = pre := by rw [hk, hb, List.take_left]
     rw [ht] at hl ⊢
     have h1 := hmo ((pre ++ more).length + 1) more (by rw [List.length_append]; omega)
     unfold parseF
     rw [if_neg (by omega), h1, hk]
     simp
   · rw [if_neg he] at h
     injection h with _ h
     injection h with _ h
     exact absurd h he
theorem parse_many {b : List UInt8} (h : 40000 < b.length) : parseF b = ([], 0, 2) := by unfold parseF; rw [if_pos h]
end Go.Proofs.YtpnolbfnmknhlaaDoor
namespace Go.Proofs.YtpnolbfnmknhlaaDoor
/-- header.Get. -/
def getF : List FieldD → List UInt8 → List UInt8
 | [], _ => []
 | f :: r, n => if Lib.equalFold f.name n then f.value else getF r n
end Go.Proofs.YtpnolbfnmknhlaaDoor
namespace Go.Proofs.YtpnolbfnmknhlaaDoor
open Go.RowKit
/-- A builder of the call's own, in block b, that holds the bytes l. -/
def Bld (b : Nat) (l : List UInt8) (w : World) : Prop := Lib.IsBuilder 59 5 b b (Lib.byteCells l) w
theorem byteCells_append (a b : List UInt8) : Lib.byteCells (a ++ b) = Lib.byteCells a ++ Lib.byteCells b := by simp [Lib.byteCells]
theorem byteCells_len (l : List UInt8) : (Lib.byteCells l).length = l.length := by simp [Lib.byteCells]
theorem strCells_str (l : List UInt8) : Lib.strCells ⟨l.toArray⟩ = Lib.byteCells l := rfl
theorem Bld.fresh (w : World) : Bld w.heap.size [] (w.alloc (.cells #[.pointer none, .slice none 0 0] 59)) := Lib.fresh_isBuilder _ _ w
theorem BuilderAt.lt {T e : TypeId} {B b : Nat} {p : Value} {bs : List Value} {w : World} (h : Lib.BuilderAt T e B b p bs w) : b < w.heap.size := Lib.BuilderAt.lt h
theorem BuilderAt.below {T e : TypeId} {B b : Nat} {p : Value} {bs : List Value} {w w' : World} (h : Lib.BuilderAt T e B b p bs w) (hb : Below w.heap.size w w') : Lib.BuilderAt T e B b p bs w' := by
 have hlt := Lib.BuilderAt.lt h
 obtain ⟨hB, v, hbk, hown, hne⟩ := h
 exact ⟨hB, v, (hb.block b hlt).trans hbk, hown.kept (row := none) ⟨hb.os, hb.tape, hb.output, hb.size, fun k hk _ => hb.block k hk⟩ (by cases h : v.ownBlock <;> simp), hne⟩
theorem Bld.lt {b : Nat} {l : List UInt8} {w : World} (h : Bld b l w) : b < w.heap.size := by rcases h with h | h <;> exact Lib.BuilderAt.lt h
theorem Bld.below {b : Nat} {l : List UInt8} {w w' : World} (h : Bld b l w) (hb : Below w.heap.size w w') : Bld b l w' := by
 rcases h with h | h
 · exact .inl (BuilderAt.below h hb)
 · exact .inr (BuilderAt.below h hb)
theorem infoByte : (Tryd.prog.info? 5).map (fun i => (i.zero, i.size, i.bytes)) = some (some (.int .u8 0), 1, 1) := by kernel_rfl
theorem sizeBuilder : (Tryd.prog.info? 59).map (fun i => i.size) = some 2 := by kernel_rfl
theorem liesBuilder : liesAt Tryd.prog Tryd.prog.depth 59 (2 / Tryd.prog.cellsOf 59) 0 59 1 = true := by kernel_rfl
theorem copyCheck_used (b : Nat) (w : World) (h0 : w.cell? ⟨b, 0, none⟩ = some (.pointer (some ⟨b, 0, none⟩))) :
 Calls Tryd.prog 64 #[.pointer (some ⟨b, 0, none⟩)] w fun e w' => e = .returned (.tuple #[]) ∧ w' = w := by
 obtain ⟨j, hj, _⟩ := Option.map_eq_some_iff.1 sizeBuilder
 go_enter Tryd.func64, Tryd.ntmps64
 go_wp2
 rw [Lib.run_neq_ptr_same w _ Tryd.underlying57 hj]
 go_wp2
 go_end0
 exact ⟨rfl, rfl⟩
theorem copyCheck_fresh (b : Nat) (w : World) (h0 : w.cell? ⟨b, 0, none⟩ = some (.pointer none)) (hsh : w.shape? b = some (59, 2)) (hfz : w.frozen? ⟨b, 0, none⟩ = false) :
 Calls Tryd.prog 64 #[.pointer (some ⟨b, 0, none⟩)] w fun e w' => e = .returned (.tuple #[]) ∧ w' = w.setCell ⟨b, 0, none⟩ (.pointer (some ⟨b, 0, none⟩)) := by
 obtain ⟨j, hj, hjs⟩ := Option.map_eq_some_iff.1 sizeBuilder
 go_enter Tryd.func64, Tryd.ntmps64
 go_wp2
 rw [Lib.run_to_unsafe w ⟨b, 0, none⟩ Tryd.underlying57 Tryd.underlying95 hj (by rw [hjs]; decide) hsh (Nat.zero_lt_succ 1)]
 simp only [Result.andThen]
 rw [Oper.upon_value]
 go_wp2
 rw [run_callFunc_extern Tryd.func80 (by kernel_rfl) (by kernel_rfl) (by kernel_rfl) (e := Extern.AbiNoEscape.same) (by kernel_rfl)]
 rw [Lib.run_noEscape]
 simp only [Result.andThen]
 rw [Oper.upon_value]
 go_wp2
 rw [Lib.run_from_unsafe w ⟨b, 0, none⟩ Tryd.underlying95 Tryd.underlying57 hj hsh liesBuilder]
 simp only [Result.andThen]
 rw [Oper.upon_value]
 go_wp2
 go_end0
 exact ⟨rfl, rfl⟩
theorem copyCheck_any (B b : Nat) (bs : List Value) (w : World) (h : Lib.IsBuilder 59 5 B b bs w) :
 Calls Tryd.prog 64 #[.pointer (some ⟨b, 0, none⟩)] w fun e w' => e = .returned (.tuple #[]) ∧ (Lib.BuilderAt 59 5 B b (.pointer (some ⟨b, 0, none⟩)) bs w' ∧ Below B w w') := by
 rcases h with h | h
 · refine (copyCheck_fresh b w h.cell0 h.shape h.frozen0).mono ?_
   rintro e w' ⟨rfl, rfl⟩
   exact ⟨rfl, h.used _, (Below.refl B w).setCell (p := ⟨b, 0, none⟩) h.1 _⟩
 · refine (copyCheck_used b w h.cell0).mono ?_
   rintro e w' ⟨rfl, rfl⟩
   exact ⟨rfl, h, Below.refl B _⟩
theorem WriteString_any (b : Nat) (l s : List UInt8) (w : World) (h : Bld b l w) (hlen : l.length + s.length ≤ 140737488355328) :
 Calls Tryd.prog 44 #[.pointer (some ⟨b, 0, none⟩), str s] w fun e w' => e = .returned (.tuple #[.int .i64 s.length, .nilIface]) ∧ Bld b (l ++ s) w' ∧ Below b w w' := by
 obtain ⟨i0, hi, hz0, hz1, hz2⟩ := info_parts infoByte
 have hbw := h.lt
 rw [str_eq]
 go_enter Tryd.func44, Tryd.ntmps44
 go_wp2_with (go_at_call 64; refine (copyCheck_any b b _ _ h).mono ?_)
 rintro e w1 ⟨rfl, h1, hb1⟩
 obtain ⟨hB, v, hbk, hown, hne⟩ := h1
 have c0 : w1.cell? ⟨b, 0, none⟩ = some (.pointer (some ⟨b, 0, none⟩)) := by rw [Lib.cell_of_heap hbk]; rfl
 have c1 : w1.cell? ⟨b, 1, none⟩ = some v := by rw [Lib.cell_of_heap hbk]; rfl
 go_wp2_with (at_builtin; refine Lib.wpList_append_own_string _ rfl _ _ 23 9 rfl b 5 i0 Tryd.underlying23 Tryd.underlying9 hi hz0 hz1 hz2 _ _ _ rfl hown ⟨s.toArray⟩ rfl ?c3 ?c4 ?c5 ?_)
 case c3 => have := byteCells_len l; simp [ByteArray.size]; unfold maxLen; omega
 case c4 => have := byteCells_len l; simp [ByteArray.size]; omega
 case c5 => have := hb1.size; omega
 intro v' w2 hown' hgrow _
 have hlt : b < w1.heap.size := by
  rcases Nat.lt_or_ge b w1.heap.size with h' | h'
  · exact h'
  · simp [Array.getElem?_eq_none h'] at hbk
 have hb2 : w2.heap[b]? = some (.cells #[.pointer (some ⟨b, 0, none⟩), v] 59 (0, 0)) := by
  rw [hgrow.block b hlt (fun e => hne e.symm)]
  exact hbk
 have d0 : w2.cell? ⟨b, 0, none⟩ = some (.pointer (some ⟨b, 0, none⟩)) := by rw [Lib.cell_of_heap hb2]; rfl
 have d1 : w2.cell? ⟨b, 1, none⟩ = some v := by rw [Lib.cell_of_heap hb2]; rfl
 have f1 : w2.frozen? ⟨b, 1, none⟩ = false := Lib.frozen_of_heap hb2 1
 obtain ⟨ao, n', cap, rfl⟩ : ∃ ao n' cap, v' = .slice ao n' cap := by
  rcases hown'.2 with ⟨hv, _⟩ | ⟨g, cap, cur, hv, _⟩
  · exact ⟨_, _, _, hv⟩
  · exact ⟨_, _, _, hv⟩
 go_wp2
 go_ret2
 refine ⟨by simp, ?_, ?_⟩
 · unfold Bld
   rw [byteCells_append]
   exact .inr (Lib.BuilderAt.put (T := 59) (e := 5) hB hb2 (bs' := Lib.byteCells l ++ Lib.byteCells s) (by simpa [ByteArray.size, strCells_str, byteCells_len] using hown') (by decide))
 · exact (hb1.grown hgrow (by have := hb1.size; omega) (fun k hk => (hown.lt k hk).1)).setCell (p := ⟨b, 1, none⟩) hB _
theorem String_any (b : Nat) (l : List UInt8) (w : World) (h : Bld b l w) :
 Calls Tryd.prog 45 #[.pointer (some ⟨b, 0, none⟩)] w fun e w' => e = .returned (str l) ∧ Below b w w' :=
 (Go.Proofs.Tryd.Builder_String_any b b l w h (Nat.le_of_lt h.lt)).mono fun _ _ h => h
end Go.Proofs.YtpnolbfnmknhlaaDoor
namespace Go.Proofs.YtpnolbfnmknhlaaDoor
end Go.Proofs.YtpnolbfnmknhlaaDoor
namespace Go.Proofs.YtpnolbfnmknhlaaDoor
open Go.RowKit
/-- What a predicate on bytes is good for. -/
def PredB (g : Nat) (lb : Array Value) (p : Nat → Bool) (w : World) : Prop :=
 ∀ (W : World) (x : Nat), x < 256 → Below w.heap.size w W → Calls Tryd.prog g (#[.int .u8 (x : Int)] ++ lb) W fun e w' => e = .returned (.bool (p x)) ∧ Below W.heap.size W w'
def IdxRes (b : Bool) (w : World) (e : Ending) (w' : World) : Prop := ∃ i : Int, e = .returned (.int .i64 i) ∧ decide (0 ≤ i) = b ∧ Below w.heap.size w w'
theorem any_hit (l : List UInt8) (p : Nat → Bool) (k : Nat) (hk : k < l.length) (h : p (nth l k) = true) : l.any (fun b => p b.toNat) = true := by
 rw [List.any_eq_true]
 exact ⟨l[k], List.getElem_mem hk, by rw [← nth_of l k hk]; exact h⟩
theorem any_miss (l : List UInt8) (p : Nat → Bool) (h : ∀ j, j < l.length → p (nth l j) = false) : l.any (fun b => p b.toNat) = false := by
 rw [List.any_eq_false]
 intro x hx
 obtain ⟨j, hj, rfl⟩ := List.getElem_of_mem hx
 rw [← nth_of l j hj, h j hj]
 simp
theorem IndexFunc_bytes (g : Nat) (lb : Array Value) (eg : ∀ args w, (callFunc g args).run Tryd.prog w = .ok (.enter g args) w) (p : Nat → Bool) (A : Option Addr) (n c B : Nat) (l : List UInt8) (w : World) (hb : By w B A n l) (hB : B ≤ w.heap.size) (hm : n ≤ maxLen) (hp : PredB g lb p w) :
 Calls Tryd.prog 59 #[.slice A n c, .func (.func g) #[] lb] w (IdxRes (l.any (fun b => p b.toNat)) w) := by
 have hl := hb.len
 have h1 := any_hit l p
 have h2 := any_miss l p
 generalize l.any (fun b => p b.toNat) = r at h1 h2
 have Hl := Lib.hid hl
 have H1 := Lib.hid h1
 have H2 := Lib.hid h2
 have Hp := Lib.hid hp
 clear hl h1 h2 hp
 unfold maxLen at hm
 go_enter Tryd.func59, Tryd.ntmps59
 go_wp2_with fail
 go_loopw [8] (fun iv wr => ∃ k : Nat, k ≤ n ∧ iv = .int .i64 k ∧ Below w.heap.size w wr ∧ Hid (∀ j, j < k → p (nth l j) = false)) (fun iv _ => n - (intOf iv).toNat)
 case atStart => exact ⟨0, by omega, rfl, Below.refl _ _, fun j hj => absurd hj (by omega)⟩
 case round =>
  obtain ⟨k, hk, rfl, hbel, hz⟩ := hrel
  by_cases hkn : k < n
  · obtain ⟨b, off, rfl, hbB, hcell1⟩ := hb.at_ hkn
    have hcell := (hbel.cell (p := ⟨b, off + k, none⟩) (Nat.lt_of_lt_of_le hbB hB)).trans hcell1
    have cS := Hp.out wr (nth l k) (nth_lt l k) hbel
    clear hcell1
    by_cases hpk : p (nth l k) = true
    · have hr : Hid (r = true) := H1.out k (by rw [Hl.out]; exact hkn) hpk
      rw [hpk] at cS
      clear hpk
      go_wp2_with (go_at_fn g; refine cS.mono ?_; rintro e w1 ⟨rfl, hb1⟩)
      go_ret
      exact ⟨k, rfl, by rw [hr.out]; simp, hbel.trans (hb1.mono hbel.size)⟩
    · have hpf : p (nth l k) = false := by simpa using hpk
      rw [hpf] at cS
      have HF := Lib.hid hpf
      clear hpk hpf
      go_wp2_with (go_at_fn g; refine cS.mono ?_; rintro e w1 ⟨rfl, hb1⟩)
      refine ⟨⟨k + 1, by omega, by go_num, hbel.trans (hb1.mono hbel.size), fun j hj => ?_⟩, by simp [intOf]; omega⟩
      rcases Nat.lt_or_ge j k with h | h
      · exact hz.out j h
      · rw [show j = k from by omega]; exact HF.out
  · have hr : Hid (r = false) := H2.out fun j hj => hz.out j (by rw [Hl.out] at hj; omega)
    go_wp2_with fail
    go_ret
    exact ⟨-1, rfl, by rw [hr.out]; rfl, hbel⟩
theorem ContainsFunc_bytes (g : Nat) (lb : Array Value) (eg : ∀ args w, (callFunc g args).run Tryd.prog w = .ok (.enter g args) w) (p : Nat → Bool) (A : Option Addr) (n c B : Nat) (l : List UInt8) (w : World) (hb : By w B A n l) (hB : B ≤ w.heap.size) (hm : n ≤ maxLen) (hp : PredB g lb p w) :
 Calls Tryd.prog 32 #[.slice A n c, .func (.func g) #[] lb] w fun e w' => e = .returned (.bool (l.any (fun b => p b.toNat))) ∧ Below w.heap.size w w' := by
 have h := IndexFunc_bytes g lb eg p A n c B l w hb hB hm hp
 generalize l.any (fun b => p b.toNat) = r at h ⊢
 clear hp hb
 have H := Lib.hid h
 clear h eg
 go_enter Tryd.func32, Tryd.ntmps32
 go_wp2_with fail
 refine H.out.mono ?_
 rintro e w1 ⟨i, rfl, hi, hb1⟩
 have Hi := Lib.hid hi
 clear hi
 go_wp2_with fail
 all_goals
  go_ret
  exact ⟨by rw [← Hi.out]; rfl, hb1⟩
end Go.Proofs.YtpnolbfnmknhlaaDoor

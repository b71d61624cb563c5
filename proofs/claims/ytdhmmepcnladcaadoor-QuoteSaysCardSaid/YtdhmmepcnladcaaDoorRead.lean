import Derived.Test.YtdhmmepcnladcaaDoorBase
import Derived.Test.YtdhmmepcnladcaaDoorReadM
namespace Go.Proofs.YtdhmmepcnladcaaDoor
open Go.RowKit

theorem upto_bytes (w : World) (A : Option Addr) (n c : Nat) (ki : IntKind) (k : Int) (h0 : 0 ≤ k) (h1 : k ≤ n) (hc : n ≤ c) :
    (Instr.slice 22 (.slice A n c) none (some (.int ki k)) none).run Tryd.prog w = .ok (.slice (cutA A c 0 1) k.toNat c) w :=
  run_upto w _ _ 1 Tryd.underlying22 (Tryd.sizeOf5 w) A n c ki k h0 h1 hc
attribute [local go_sem high] cut_bytes upto_bytes

theorem infoInt : (Tryd.prog.info? 3).map (fun i => (i.zero, i.size, i.bytes)) = some (some (.int .i64 0), 1, 8) := by kernel_rfl

theorem IndexByte_any (l : List UInt8) (x : Nat) (hx : x < 256) (w : World) :
    Calls Tryd.prog 93 #[str l, .int .u8 (x : Int)] w fun e w' => e = .returned (.int .i64 (idxI l x)) ∧ w = w' := by
  refine (Go.Proofs.Tryd.strings_IndexByte ⟨l.toArray⟩ (x : Int) w).mono ?_
  rintro e w' ⟨rfl, rfl⟩
  refine ⟨?_, rfl⟩
  show Ending.returned (.int .i64 (Lib.indexByte l (((x : Int).toNat).toUInt8))) = _
  rfl

/-- What base.Read leaves. -/
def BytesRes (w : World) (r : List UInt8 × Nat) (e : Ending) (w' : World) : Prop :=
  ∃ A c, e = .returned (.tuple #[.slice A r.1.length c, .int .i64 r.2]) ∧ By w' w'.heap.size A r.1.length r.1 ∧ r.1.length ≤ c ∧ Below w.heap.size w w'
theorem BytesRes.fail {w w' : World} (k : Nat) (h : Below w.heap.size w w') : BytesRes w ([], k) (.returned (.tuple #[.slice none 0 0, .int .i64 (k : Int)])) w' :=
  ⟨none, 0, rfl, By.nil_ _ _ _, Nat.le_refl _, h⟩

def ReadRel1 (n : Nat) (s : List UInt8) (R : Option (List Nat × Nat)) (w1 : World) (vv pv iv : Value) (wr : World) : Prop :=
  ∃ i pad m c vals V, vv = .slice V m c ∧ pv = .int .i64 (pad : Nat) ∧ iv = .int .i64 (i : Nat) ∧ i ≤ n ∧ pad ≤ m ∧ m ≤ i ∧ Hid (vals.length = m ∧ (∀ x ∈ vals, x < 64) ∧ scanB vals pad (s.drop i) = R) ∧
    wr.ownsRow w1.heap.size 3 1 (.slice V m c) m (intCells vals) ∧ Below w1.heap.size w1 wr

def ReadRel2 (m : Nat) (vals : List Nat) (w2 : World) (ov iv : Value) (wr : World) : Prop :=
  ∃ p ol oc out O, ov = .slice O ol oc ∧ iv = .int .i64 (p : Nat) ∧ p ≤ m ∧ p % 4 = 0 ∧ ol * 4 = 3 * p ∧ ol ≤ oc ∧ Hid (out.length = ol ∧ out ++ bytes3 (vals.drop p) = bytes3 vals) ∧
    wr.ownsRow w2.heap.size 5 1 (.slice O ol oc) ol (Lib.byteCells out) ∧ Below w2.heap.size w2 wr

end Go.Proofs.YtdhmmepcnladcaaDoor

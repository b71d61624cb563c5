import Derived.Test.YtdhmmepcnladcaaDoorMem
import Derived.OrdersHeld
namespace Go.Proofs.YtdhmmepcnladcaaDoor
open Go.RowKit

section
variable {P : Program}
/-- An append inside a region that draws its order. -/
theorem wpOp_app {k : Nat} {K : Act → World → Prop} {w : World} {ops : Array Oper} {o : Oper} {a : Act} {Q : Exit → Act → World → Prop} (hi : ops[k]? = some o) (hgd : o.guard = none) (s x : Operand) (t : TypeId)
    (ho : o.op = .call { callee := .builtin .append, args := #[s, x], argTypes := #[t, t] })
    (base : Nat) (e : TypeId) (i : TypeInfo) (z : Value) (size bytes : Nat) (ht : P.underlying t = some (.slice e)) (hinf : P.info? e = some i) (hz : i.zero = some z)
    (hsize : i.size = size) (hby : i.bytes = bytes) (hzs : z.cells.size = size) (hsz : 0 < size)
    (S : Option Addr) (n cs : Nat) (xs : List Value) (hs : a.eval s = .slice S n cs) (hown : w.ownsRow base e size (.slice S n cs) n xs)
    (B : Nat) (A : Option Addr) (m c : Nat) (news : List Value) (hx : a.eval x = .slice A m c) (hr : Sl w B size A m news) (h1 : ∀ u ∈ news, u.oneCell' = true)
    (h63 : n + m ≤ maxLen) (hbytes : (n + m) * bytes ≤ 140737488355328) (hbase : base ≤ w.heap.size)
    (h : ∀ S' c' w', w'.ownsRow base e size (.slice S' (n + m) c') (n + m) (xs ++ news) → Below base w w' → w.grownBy w' (Value.ownBlock (.slice S n cs)) → K (a.put o.dst (.slice S' (n + m) c')) w') : wpOp P ops Q k K a w := by
  obtain ⟨S', c', w', hrun, h2, h3, h4⟩ := run_app (P := P) w base t o.type e i z size bytes ht hinf hz hsize hby hzs hsz S n cs xs hown B A m c news hr h1 h63 hbytes hbase
  have hw : Region.wanted o (yielded ops a.tmps) = true := by simp [Region.wanted, hgd]
  unfold wpOp
  simp only [hi, hw, if_true]
  refine .inl ?_
  unfold Oper.wp execOp
  simp only [ho, resolve, invoke, builtin, Sem.run_bind, Sem.run_pure, Result.andThen_ok, List.map_toArray, List.map_cons, List.map_nil, hs, hx, hrun]
  exact h S' c' w' h2 ((Below.refl base w).grown h3 hbase (fun k hk => (hown.lt k hk).1)) h3
/-- An append of a string's bytes, likewise. -/
theorem wpOp_appStr {k : Nat} {K : Act → World → Prop} {w : World} {ops : Array Oper} {o : Oper} {a : Act} {Q : Exit → Act → World → Prop} (hi : ops[k]? = some o) (hgd : o.guard = none) (s x : Operand) (t u : TypeId)
    (ho : o.op = .call { callee := .builtin .append, args := #[s, x], argTypes := #[t, u] })
    (base : Nat) (e : TypeId) (i : TypeInfo) (ht : P.underlying t = some (.slice e)) (hu : P.underlying u = some .string) (hinf : P.info? e = some i) (hz : i.zero = some (.int .u8 0))
    (hsize : i.size = 1) (hby : i.bytes = 1)
    (S : Option Addr) (n cs : Nat) (xs : List Value) (hs : a.eval s = .slice S n cs) (hown : w.ownsRow base e 1 (.slice S n cs) n xs)
    (l : List UInt8) (hx : a.eval x = str l)
    (h63 : n + l.length ≤ maxLen) (hbytes : n + l.length ≤ 140737488355328) (hbase : base ≤ w.heap.size)
    (h : ∀ S' c' w', w'.ownsRow base e 1 (.slice S' (n + l.length) c') (n + l.length) (xs ++ Lib.byteCells l) → Below base w w' → w.grownBy w' (Value.ownBlock (.slice S n cs)) → K (a.put o.dst (.slice S' (n + l.length) c')) w') : wpOp P ops Q k K a w := by
  have hsz : (⟨l.toArray⟩ : ByteArray).size = l.length := by simp [ByteArray.size]
  obtain ⟨v', w', hrun, h2, h3, h4⟩ := Lib.run_append_own_string (P := P) w base t u o.type e i ht hu hinf hz hsize hby _ n xs hown ⟨l.toArray⟩ (by rw [hsz]; exact h63) (by rw [hsz]; exact hbytes) hbase
  rw [hsz] at h2
  obtain ⟨S', c', rfl⟩ : ∃ S' c', v' = .slice S' (n + l.length) c' := by
    rcases h2.2 with ⟨hv, h0⟩ | ⟨g, cap, cur, hv, _⟩
    · exact ⟨none, 0, by rw [hv, h0]⟩
    · exact ⟨_, _, hv⟩
  have hw : Region.wanted o (yielded ops a.tmps) = true := by simp [Region.wanted, hgd]
  have hx' : a.eval x = .string ⟨l.toArray⟩ := hx
  unfold wpOp
  simp only [hi, hw, if_true]
  refine .inl ?_
  unfold Oper.wp execOp
  simp only [ho, resolve, invoke, builtin, Sem.run_bind, Sem.run_pure, Result.andThen_ok, List.map_toArray, List.map_cons, List.map_nil, hs, hx', hrun]
  exact h S' c' w' h2 ((Below.refl base w).grown h3 hbase (fun k hk => (hown.lt k hk).1)) h3
/-- What yields in whatever world. -/
theorem wpOp_val {k : Nat} {K : Act → World → Prop} {w : World} {ops : Array Oper} {o : Oper} {a : Act} {Q : Exit → Act → World → Prop} (hi : ops[k]? = some o) (hgd : o.guard = none) (v : Value) (hv : (execOp a.eval o).run P w = .ok (.value v) w) (h : K (a.put o.dst v) w) : wpOp P ops Q k K a w := by
  have hw : Region.wanted o (yielded ops a.tmps) = true := by simp [Region.wanted, hgd]
  unfold wpOp
  simp only [hi, hw, if_true]
  refine .inl ?_
  unfold Oper.wp
  simp only [hv, Oper.upon]
  exact h
end
end Go.Proofs.YtdhmmepcnladcaaDoor

import Derived.Test.YtinfjdfhkfhgjaaGreatDoorU1
import Derived.OrdersHeld
import Derived.Deep.RegionHeld
import Derived.Test.YtinfjdfhkfhgjaaGreatDoorU3
import Derived.Lib.AppendZeros
import Derived.Test.YtinfjdfhkfhgjaaGreatDoorU2
import Derived.Shelf.GgClosure.Gives
import Derived.LaidSub
import Derived.LaidMore
import Derived.MakeChecks
import Derived.Lib.LaidTab
set_option maxRecDepth 100000
set_option maxHeartbeats 40000000
namespace Go.Proofs.YtinfjdfhkfhgjaaGreatDoor
open Go.RowKit
variable {P : Program}
theorem wpM_store {k : Nat} {K : Act → World → Prop} {w : World} {ops : Array Oper} {o : Oper} {a : Act} {Q : Exit → Act → World → Prop} (hi : ops[k]? = some o) (hw : Region.wanted o (yielded ops a.tmps) = true) (w' : World)
 (hrun : (execOp a.eval o).run P w = .ok .skip w') (h : K (a.put o.dst undef) w') : wpOp P ops Q k K a w := by
 unfold wpOp
 simp only [hi, hw, if_true]
 refine .inl ?_
 unfold Oper.wp
 rw [hrun, Oper.upon_skip]
 exact h
theorem wpM_runv {k : Nat} {K : Act → World → Prop} {w : World} {ops : Array Oper} {o : Oper} {a : Act} {Q : Exit → Act → World → Prop} (hi : ops[k]? = some o) (hw : Region.wanted o (yielded ops a.tmps) = true) (v : Value) (w' : World) (hv : (execOp a.eval o).run P w = .ok (.value v) w') (h : K (a.put o.dst v) w') : wpOp P ops Q k K a w := by
 unfold wpOp
 simp only [hi, hw, if_true]
 refine .inl ?_
 unfold Oper.wp
 simp only [hv, Oper.upon]
 exact h
theorem wpM_appRun {k : Nat} {K : Act → World → Prop} {w : World} {ops : Array Oper} {o : Oper} {a : Act} {Q : Exit → Act → World → Prop} (hi : ops[k]? = some o) (hw : Region.wanted o (yielded ops a.tmps) = true) (s x : Operand) (t : TypeId)
 (ho : o.op = .call { callee := .builtin .append, args := #[s, x], argTypes := #[t, t] }) (v1 v2 : Value) (hs : a.eval s = v1) (hx : a.eval x = v2) (v : Value) (w' : World) (hrun : (Builtin.append_ #[t, t] o.type #[v1, v2]).run P w = .ok v w') (h : K (a.put o.dst v) w') : wpOp P ops Q k K a w := by
 unfold wpOp
 simp only [hi, hw, if_true]
 refine .inl ?_
 unfold Oper.wp execOp
 simp only [ho, resolve, invoke, builtin, Sem.run_bind, Sem.run_pure, Result.andThen_ok, List.map_toArray, List.map_cons, List.map_nil, hs, hx, hrun]
 exact h
theorem wpM_callF {k : Nat} {K : Act → World → Prop} {w : World} {ops : Array Oper} {o : Oper} {a : Act} {Q : Exit → Act → World → Prop} (hi : ops[k]? = some o) (hw : Region.wanted o (yielded ops a.tmps) = true) (f : FuncId) (args : Array Value)
 (hrun : (execOp a.eval o).run P w = .ok (.enter f args) w) (v : Value) (R : World → Prop) (hc : Calls P f args w fun e w' => e = .returned v ∧ R w') (h : ∀ w', R w' → K (a.put o.dst v) w') : wpOp P ops Q k K a w := by
 unfold wpOp
 simp only [hi, hw, if_true]
 refine .inl ?_
 unfold Oper.wp
 rw [hrun, Oper.upon_enter]
 refine hc.mono fun e w'' hh => ?_
 obtain ⟨rfl, hr⟩ := hh
 exact h w'' hr
theorem wpM_callP {k : Nat} {K : Act → World → Prop} {w : World} {ops : Array Oper} {o : Oper} {a : Act} {Q : Exit → Act → World → Prop} (hi : ops[k]? = some o) (hw : Region.wanted o (yielded ops a.tmps) = true) (f : FuncId) (args : Array Value)
 (hrun : (execOp a.eval o).run P w = .ok (.enter f args) w) (Post : Ending → World → Prop) (hc : Calls P f args w Post) (h : ∀ e w', Post e w' → ∃ v, e = .returned v ∧ K (a.put o.dst v) w') : wpOp P ops Q k K a w := by
 unfold wpOp
 simp only [hi, hw, if_true]
 refine .inl ?_
 unfold Oper.wp
 rw [hrun, Oper.upon_enter]
 refine hc.mono fun e w'' hh => ?_
 obtain ⟨v, rfl, hk⟩ := h e w'' hh
 exact hk
/-- As wpList_app, and where the new slice lies. -/
theorem wpListM_app2 {w : World} {ops : Array Oper} {rest : List Oper} {o : Oper} {a : Act} {Q : Exit → Act → World → Prop} (hgd : o.guard = none) (s x : Operand) (t : TypeId)
 (ho : o.op = .call { callee := .builtin .append, args := #[s, x], argTypes := #[t, t] })
 (base : Nat) (e : TypeId) (i : TypeInfo) (z : Value) (size bytes : Nat) (ht : P.underlying t = some (.slice e)) (hi : P.info? e = some i) (hz : i.zero = some z)
 (hsize : i.size = size) (hby : i.bytes = bytes) (hzs : z.cells.size = size) (hsz : 0 < size)
 (S : Option Addr) (n cs : Nat) (xs : List Value) (hs : a.eval s = .slice S n cs) (hown : w.ownsRow base e size (.slice S n cs) n xs)
 (B : Nat) (A : Option Addr) (m c : Nat) (news : List Value) (hx : a.eval x = .slice A m c) (hr : Sl w B size A m news) (h1 : ∀ u ∈ news, u.oneCell' = true)
 (h63 : n + m ≤ maxLen) (hbytes : (n + m) * bytes ≤ 140737488355328) (hbase : base ≤ w.heap.size)
 (h : ∀ S' c' w', w'.ownsRow base e size (.slice S' (n + m) c') (n + m) (xs ++ news) → Below base w w' → w.grownBy w' (Value.ownBlock (.slice S n cs)) → (Value.ownBlock (.slice S' (n + m) c') = Value.ownBlock (.slice S n cs) ∨ Value.ownBlock (.slice S' (n + m) c') = some w.heap.size) → wpList P ops Q rest (a.put o.dst (.slice S' (n + m) c')) w') : wpList P ops Q (o :: rest) a w := by
 refine wpList_plain hgd fun K hK => ?_
 obtain ⟨S', c', w', hrun, h2, h3, h4⟩ := run_app (P := P) w base t o.type e i z size bytes ht hi hz hsize hby hzs hsz S n cs xs hown B A m c news hr h1 h63 hbytes hbase
 unfold Oper.wp execOp
 simp only [ho, resolve, invoke, builtin, Sem.run_bind, Sem.run_pure, Result.andThen_ok, List.map_toArray, List.map_cons, List.map_nil, hs, hx, hrun]
 exact hK _ _ (h S' c' w' h2 ((Below.refl base w).grown h3 hbase (fun k hk => (hown.lt k hk).1)) h3 h4)
end Go.Proofs.YtinfjdfhkfhgjaaGreatDoor
namespace Go.Proofs.YtinfjdfhkfhgjaaGreatDoor
open Go.RowKit
def howV : Array Value := #[str ([56, 98, 105, 116]), str ([98, 97, 115, 101, 54, 52]), str ([113, 117, 111, 116, 101, 100, 45, 112, 114, 105, 110, 116, 97, 98, 108, 101])]
theorem hows_any (w : World) : Calls Tryz.prog 98 #[] w fun e w' => e = .returned (.agg howV) ∧ Below w.heap.size w w' := by
 go_enter Tryz.func98, Tryz.ntmps98
 go_wp2_with fail
 exact bodyPost_ret (v := .agg howV) (by simp [results, Tryz.results98, go_sem]; rfl) rfl ⟨rfl, (Below.refl _ w).alloc (Nat.le_refl _) _⟩
theorem id_any (s : List UInt8) (w : World) (hs : s.length ≤ 1000000) : Calls Tryz.prog 64 #[str s] w fun e w' => e = .returned (str (idM s)) ∧ w = w' := by
 have hp := HasPrefix_any s [60]
 have hq := fun W => HasSuffix_any s [62] W (by unfold maxLen; omega)
 unfold idM
 have hlen : Lib.hasPrefix s [60] = true → Lib.hasSuffix s [62] = true → 2 ≤ s.length := by
  intro h1 h2
  unfold Lib.hasPrefix at h1
  unfold Lib.hasSuffix at h2
  rw [List.isPrefixOf_iff_prefix] at h1
  rw [List.isSuffixOf_iff_suffix] at h2
  obtain ⟨t, ht⟩ := h1
  obtain ⟨u, hu⟩ := h2
  rcases t with _ | ⟨a, t⟩
  · rw [List.append_nil] at ht
    rw [← ht] at hu
    have := congrArg List.getLast? hu
    simp at this
  · rw [← ht]; simp
 generalize Lib.hasPrefix s [60] = p at hp hlen
 generalize Lib.hasSuffix s [62] = q at hq hlen
 have Hp := Lib.hid hp
 have Hq := Lib.hid hq
 clear hp hq
 cases p
 · clear hlen
   go_enter Tryz.func64, Tryz.ntmps64
   go_wp2_with ((with_reducible refine (Hp.out _).mono ?_); rintro e w1 ⟨rfl, rfl⟩)
   go_ret
   exact ⟨rfl, rfl⟩
 · cases q
   · clear hlen
     go_enter Tryz.func64, Tryz.ntmps64
     go_wp2_with (first | ((with_reducible refine (Hp.out _).mono ?_); rintro e w1 ⟨rfl, rfl⟩) | ((with_reducible refine (Hq.out _).mono ?_); rintro e w1 ⟨rfl, rfl⟩))
     go_ret
     exact ⟨rfl, rfl⟩
   · have h2 := hlen rfl rfl
     have e1 : ((s.length : Int) - 1).toNat = s.length - 1 := by omega
     have E1 := Lib.hid e1
     have a1 : (1 : Int) ≤ (s.length : Int) - 1 := by omega
     have a2 : (s.length : Int) - 1 ≤ s.length := by omega
     have a3 : (0 : Int) ≤ (s.length : Int) - 1 := by omega
     clear hlen e1
     go_enter Tryz.func64, Tryz.ntmps64
     go_wp2_with (first | ((with_reducible refine (Hp.out _).mono ?_); rintro e w1 ⟨rfl, rfl⟩) | ((with_reducible refine (Hq.out _).mono ?_); rintro e w1 ⟨rfl, rfl⟩))
     go_ret
     exact ⟨rfl, rfl⟩
def numsB (l : List UInt8) : List Int := l.map fun b => (b.toNat : Int)
theorem nums_len (l : List UInt8) : (numsB l).length = l.length := by simp [numsB]
theorem nums_bytes (l : List UInt8) : Lib.bytesOf (numsB l) = l := by
 unfold Lib.bytesOf numsB
 rw [List.map_map]
 conv => rhs; rw [← List.map_id l]
 exact List.map_congr_left fun b _ => by simp
theorem nums_at (l : List UInt8) (i : Nat) (h : i < l.length) : (numsB l).getD i 0 = (nth l i : Nat) := by
 unfold numsB nth
 simp [List.getD, h]
theorem nums_cells (l : List UInt8) : (numsB l).map (Value.int .u8) = Lib.byteCells l := by
 unfold numsB Lib.byteCells
 rw [List.map_map]
 rfl
theorem By.bytesIn {w : World} {B n : Nat} {A : Option Addr} {l : List UInt8} (h : By w B A n l) : Lib.BytesIn w A n (numsB l) := by
 intro hn
 obtain ⟨b, off, rfl, _, hc⟩ := h.opn hn
 refine ⟨b, off, rfl, fun i hi => ?_⟩
 rw [hc i hi, nums_at l i (by rw [h.len]; exact hi)]
theorem ByteAt (l : List UInt8) (x : Nat) (A : Option Addr) (n c B : Nat) (w : World) (h : By w B A n l) (hn : 0 < n) : Calls Tryz.prog 18 #[.slice A n c, .int .u8 (x : Int)] w fun e w' => e = .returned (.int .i64 (idxI l x)) ∧ w = w' := by
 obtain ⟨b, off, rfl, _, hc⟩ := h.opn hn
 refine (Go.Proofs.Tryz.bytes_IndexByte b off n c (numsB l) (x : Int) w (by rw [nums_len, h.len]) (fun i hi => by rw [hc i hi, nums_at l i (by rw [h.len]; exact hi)])).mono ?_
 rintro e w' ⟨rfl, rfl⟩
 refine ⟨?_, rfl⟩
 rw [nums_bytes]
 unfold idxI
 congr 3
/-- bytes.Clone: bytes in new memory. -/
def CloneRes (l : List UInt8) (w : World) (e : Ending) (w' : World) : Prop :=
 ∃ A c, e = .returned (.slice A l.length c) ∧ SlS (fun b => w.heap.size ≤ b ∧ b < w'.heap.size) w' 1 A l.length (Lib.byteCells l) ∧ l.length ≤ c ∧ c ≤ maxLen ∧ Below w.heap.size w w'
theorem own_slsM {w : World} {base n c : Nat} {e : TypeId} {A : Option Addr} {xs : List Value} (h : w.ownsRow base e 1 (.slice A n c) n xs) : SlS (fun b => base ≤ b ∧ b < w.heap.size) w 1 A n xs := by
 refine ⟨h.1, fun hn => ?_⟩
 obtain ⟨b, off, e1, hb, hc⟩ := (Sl.of_own h).2 hn
 rcases h.2 with ⟨_, h0⟩ | ⟨g, cap, cur, hv, hg, _⟩
 · omega
 · injection hv with hA _ _
   rw [hA] at e1
   injection e1 with e1
   injection e1 with e1 e2 _
   subst e1; subst e2
   exact ⟨g, 0, hA, ⟨hg, hb⟩, hc⟩
theorem Clone_bytes (l : List UInt8) (A : Option Addr) (n c B : Nat) (w : World) (h : By w B A n l) (hn : n ≤ 1000000) : Calls Tryz.prog 20 #[.slice A n c] w (CloneRes l w) := by
 have hl := h.len
 cases A with
 | none =>
  have h0 : n = 0 := by
   rcases Nat.eq_zero_or_pos n with h0 | h0
   · exact h0
   · obtain ⟨b, off, e, _⟩ := h.opn h0; cases e
  subst h0
  obtain rfl : l = [] := List.eq_nil_of_length_eq_zero hl
  refine (Go.Proofs.Tryz.bytes_Clone_nil 0 c w).mono ?_
  rintro e w' ⟨rfl, rfl⟩
  exact ⟨none, 0, rfl, ⟨rfl, fun h => absurd h (by simp)⟩, Nat.le_refl _, Nat.zero_le _, Below.refl _ _⟩
 | some a =>
  refine (Go.Proofs.Tryz.bytes_Clone_at a n c (numsB l) w (by rw [nums_len, hl]) (by omega) (fun i hi => ?_)).mono ?_
  · obtain ⟨b, off, e, _, hc⟩ := h.opn (by omega)
    injection e with e
    subst e
    rw [Addr.add_lit, hc i hi, nums_at l i (by rw [hl]; exact hi)]
  · rintro e w' ⟨v', rfl, hown, _, hb⟩
    rw [nums_cells] at hown
    obtain ⟨A', c', rfl⟩ : ∃ A' c', v' = .slice A' n c' := by
     rcases hown.2 with ⟨hv, h0⟩ | ⟨g, cap, cur, hv, _⟩
     · exact ⟨none, 0, by rw [hv, h0]⟩
     · exact ⟨_, _, hv⟩
    subst hl
    exact ⟨A', c', rfl, own_slsM hown, own_cap hown, own_capF hown, hb⟩
theorem trimV {w : World} {B n c : Nat} {A : Option Addr} {l : List UInt8} (h : By w B A n l) (x : Int) (_hx : 0 ≤ x) (_hx2 : x < 256) : ∃ m, Lib.trimSuffixV A n c (numsB l) [x] = .slice A m c ∧ m ≤ n ∧ By w B A m (chopB l (UInt8.ofNat x.toNat)) := by
 have hl := h.len
 have hb : Lib.bytesOf [x] = [UInt8.ofNat x.toNat] := rfl
 unfold Lib.trimSuffixV chopB
 cases A with
 | none =>
  have h0 : n = 0 := by
   rcases Nat.eq_zero_or_pos n with h0 | h0
   · exact h0
   · obtain ⟨b, off, e, _⟩ := h.opn h0; cases e
  subst h0
  obtain rfl : l = [] := List.eq_nil_of_length_eq_zero hl
  refine ⟨0, rfl, Nat.le_refl _, ?_⟩
  split
  · exact By.nil_ w B _
  · exact By.nil_ w B _
 | some a =>
  obtain ⟨b, off, s⟩ := a
  cases s with
  | some q =>
   have h0 : n = 0 := by
    rcases Nat.eq_zero_or_pos n with h0 | h0
    · exact h0
    · obtain ⟨b, off, e, _⟩ := h.opn h0; cases e
   subst h0
   obtain rfl : l = [] := List.eq_nil_of_length_eq_zero hl
   refine ⟨0, rfl, Nat.le_refl _, ?_⟩
   split
   · exact By.nil_ w B _
   · exact By.nil_ w B _
  | none =>
   simp only [Lib.bytesTrimSuffix, nums_bytes, hb, Lib.sliceTo]
   by_cases hs : Lib.hasSuffix l [UInt8.ofNat x.toNat] = true
   · rw [if_pos hs, if_pos hs]
     refine ⟨n - 1, rfl, by omega, ?_⟩
     rw [hl]
     exact h.upto (by omega)
   · rw [if_neg hs, if_neg hs]
     exact ⟨n, rfl, Nat.le_refl _, h⟩
def InnerRes (l : List UInt8) (A : Option Addr) (c B : Nat) (w : World) (e : Ending) (w' : World) : Prop :=
 ∃ m, e = .returned (.slice A m c) ∧ m ≤ l.length ∧ By w' B A m (innerM l) ∧ Below w.heap.size w w'
theorem inner_any (l : List UInt8) (A : Option Addr) (n c B : Nat) (w : World) (h : By w B A n l) (hB : B ≤ w.heap.size) (hn : n ≤ c) (hc : n ≤ 1000000) : Calls Tryz.prog 21 #[.slice A n c] w (InnerRes l A c B w) := by
 have hl := h.len
 have b1 : Below w.heap.size w (w.alloc (.cells #[.int .u8 10] 5)) := (Below.refl _ w).alloc (Nat.le_refl _) _
 have h1 := h.below (b1.mono hB)
 have k1 := Go.Proofs.Tryz.bytes_TrimSuffix_all A (some ⟨w.heap.size, 0, none⟩) n c 1 1 (numsB l) [10] (w.alloc (.cells #[.int .u8 10] 5)) (by rw [nums_len, hl]) rfl hn (by omega) h1.bytesIn (fun _ => ⟨w.heap.size, 0, rfl, fun i hi => by
  obtain rfl : i = 0 := by omega
  exact (Sl.one w 5 (.int .u8 10)).2 (by omega) |>.elim fun b hb => by
   obtain ⟨off, e, _, hq⟩ := hb
   injection e with e
   injection e with e1 e2 _
   subst e1; subst e2
   exact hq 0 _ rfl⟩)
 obtain ⟨m1, e1, hm1, t1⟩ := trimV (c := c) h1 10 (by omega) (by omega)
 replace t1 : By _ _ _ _ (chopB l 10) := t1
 rw [e1] at k1
 obtain ⟨W1, hW1⟩ : ∃ W1, W1 = w.alloc (.cells #[.int .u8 10] 5) := ⟨_, rfl⟩
 rw [← hW1] at k1 t1 b1
 have b2 : Below W1.heap.size W1 (W1.alloc (.cells #[.int .u8 13] 5)) := (Below.refl _ W1).alloc (Nat.le_refl _) _
 have hB1 : B ≤ W1.heap.size := Nat.le_trans hB b1.size
 have h2 := t1.below (b2.mono hB1)
 have k2 := Go.Proofs.Tryz.bytes_TrimSuffix_all A (some ⟨W1.heap.size, 0, none⟩) m1 c 1 1 (numsB (chopB l 10)) [13] (W1.alloc (.cells #[.int .u8 13] 5)) (by rw [nums_len, h2.len]) rfl (by omega) (by omega) h2.bytesIn (fun _ => ⟨W1.heap.size, 0, rfl, fun i hi => by
  obtain rfl : i = 0 := by omega
  exact (Sl.one W1 5 (.int .u8 13)).2 (by omega) |>.elim fun b hb => by
   obtain ⟨off, e, _, hq⟩ := hb
   injection e with e
   injection e with e1 e2 _
   subst e1; subst e2
   exact hq 0 _ rfl⟩)
 obtain ⟨m2, e2, hm2, t2⟩ := trimV (c := c) h2 13 (by omega) (by omega)
 replace t2 : By _ _ _ _ (innerM l) := t2
 rw [e2] at k2
 have K1 := Lib.hid k1
 have K2 := Lib.hid k2
 have HW := Lib.hid hW1
 have T2 := Lib.hid t2
 have hbel := b1.trans (b2.mono b1.size)
 have hle : m2 ≤ l.length := by omega
 clear k1 k2 e1 e2 h1 h2 t1 t2 hl b1 b2 hW1 h
 go_enter Tryz.func21, Tryz.ntmps21
 go_wp2_with fail
 rw [← HW.out]
 refine K1.out.mono ?_
 rintro e w1 ⟨rfl, rfl⟩
 go_wp2_with fail
 refine K2.out.mono ?_
 rintro e w2 ⟨rfl, rfl⟩
 go_wp2_with fail
 go_ret
 exact ⟨m2, rfl, hle, T2.out, hbel⟩
theorem how_idx (how : Int) (h0 : 0 ≤ how) (h2 : how ≤ 2) (W : World) : (Instr.index 116 (.agg howV) (.int .i64 how)).run Tryz.prog W = .ok (str (howS how)) W := by
 rcases (by omega : how = 0 ∨ how = 1 ∨ how = 2) with rfl | rfl | rfl <;> rfl
def FieldsRes (L : List FieldD) (w : World) (e : Ending) (w' : World) : Prop :=
 ∃ S c, e = .returned (.slice S L.length c) ∧ w'.ownsRow w.heap.size 100 2 (.slice S L.length c) L.length (fieldC L) ∧ Below w.heap.size w w'
def FldSt (L : List FieldD) (w : World) (v0 v1 v2 v3 v4 v5 v6 : Value) (s6 : Value) (wx : World) : Prop :=
 ∃ S c, s6 = .slice S L.length c ∧ wx.ownsRow (w.heap.size + 1) 100 2 (.slice S L.length c) L.length (fieldC L) ∧ Below w.heap.size w wx ∧ Box7 wx w.heap.size v0 v1 v2 v3 v4 v5 v6
theorem own_baseM {w : World} {base base' : Nat} {e : TypeId} {size : Nat} {v : Value} {n : Nat} {xs : List Value} (h : w.ownsRow base e size v n xs) (hb : base' ≤ base) : w.ownsRow base' e size v n xs := by
 refine ⟨h.1, ?_⟩
 rcases h.2 with h | ⟨g, cap, cur, h1, h2, h3⟩
 · exact .inl h
 · exact .inr ⟨g, cap, cur, h1, Nat.le_trans hb h2, h3⟩
theorem box7_low {w w' : World} {B b : Nat} {v0 v1 v2 v3 v4 v5 v6 : Value} (h : Box7 w b v0 v1 v2 v3 v4 v5 v6) (hb : Below B w w') (hlt : b < B) : Box7 w' b v0 v1 v2 v3 v4 v5 v6 := by
 obtain ⟨h0, h1, h2, h3, h4, h5, h6⟩ := h
 exact ⟨(hb.cell (p := ⟨b, 0, none⟩) hlt).trans h0, (hb.cell (p := ⟨b, 1, none⟩) hlt).trans h1, (hb.cell (p := ⟨b, 2, none⟩) hlt).trans h2, (hb.cell (p := ⟨b, 3, none⟩) hlt).trans h3, (hb.cell (p := ⟨b, 4, none⟩) hlt).trans h4, (hb.cell (p := ⟨b, 5, none⟩) hlt).trans h5, (hb.cell (p := ⟨b, 6, none⟩) hlt).trans h6⟩
theorem fields_any (t cs id loc b : List UInt8) (how : Int) (A A2 : Option Addr) (n c n2 c2 : Nat) (w : World) (h1 : t.length ≤ 1000) (h2 : cs.length ≤ 1000) (h3 : id.length ≤ 1000) (h4 : loc.length ≤ 1000) (h5 : b.length ≤ 1000) (h6 : 0 ≤ how) (h7 : how ≤ 2) :
 Calls Tryz.prog 53 #[.agg #[str t, str cs, str id, str loc, .int .i64 how, .slice A n c, .slice A2 n2 c2], str b] w (FieldsRes (fieldsM t cs id loc how b) w) := by
 obtain ⟨i0, hi0, hz0, hz1, hz2⟩ := info_parts infoField
 obtain ⟨W, hW⟩ : ∃ W, W = w.alloc (.cells #[str t, str cs, str id, str loc, .int .i64 how, .slice A n c, .slice A2 n2 c2] 25) := ⟨_, rfl⟩
 have hbW : Below w.heap.size w W := by rw [hW]; exact (Below.refl _ w).alloc (Nat.le_refl _) _
 have hsW : W.heap.size = w.heap.size + 1 := by rw [hW]; simp
 have hbx : Box7 W w.heap.size (str t) (str cs) (str id) (str loc) (.int .i64 how) (.slice A n c) (.slice A2 n2 c2) := by rw [hW]; exact Box7.new w _ _ _ _ _ _ _ _
 have ⟨x0, x1, x2, x3, x4, x5, x6⟩ := hbx
 obtain ⟨t1, ht1⟩ : ∃ t1, t1 = t ++ (if cs = [] then [] else csS ++ cs) := ⟨_, rfl⟩
 obtain ⟨tv, htv⟩ : ∃ tv, tv = typeV t cs b := ⟨_, rfl⟩
 have htv2 : tv = t1 ++ (if b = [] then [] else bdS ++ b ++ [34]) := by rw [htv, ht1]; rfl
 have ht1l : t1.length ≤ 3000 := by
  rw [ht1, List.length_append]
  split
  · simp; omega
  · rw [List.length_append, show csS.length = 10 from rfl]; omega
 obtain ⟨L1, hL1⟩ : ∃ L1 : List FieldD, L1 = [⟨ctN, tv⟩] := ⟨_, rfl⟩
 obtain ⟨L2, hL2⟩ : ∃ L2 : List FieldD, L2 = L1 ++ (if id = [] then [] else [⟨idN, [60] ++ id ++ [62]⟩]) := ⟨_, rfl⟩
 obtain ⟨L3, hL3⟩ : ∃ L3 : List FieldD, L3 = L2 ++ (if loc = [] then [] else [⟨locN, loc⟩]) := ⟨_, rfl⟩
 obtain ⟨L4, hL4⟩ : ∃ L4 : List FieldD, L4 = L3 ++ (if b = [] then [⟨cteN, howS how⟩] else []) := ⟨_, rfl⟩
 have hLe : fieldsM t cs id loc how b = L4 := by rw [hL4, hL3, hL2, hL1, htv]; rfl
 rw [hLe]
 have l1 : L1.length = 1 := by rw [hL1]; rfl
 have l2 : L2.length ≤ 2 := by rw [hL2, List.length_append, l1]; split <;> simp
 have l3 : L3.length ≤ 3 := by rw [hL3, List.length_append]; split <;> simp <;> omega
 have l4 : L4.length ≤ 4 := by rw [hL4, List.length_append]; split <;> simp <;> omega
 obtain ⟨e1, he1⟩ : ∃ e, e = cs.isEmpty := ⟨_, rfl⟩
 obtain ⟨e2, he2⟩ : ∃ e, e = b.isEmpty := ⟨_, rfl⟩
 obtain ⟨e3, he3⟩ : ∃ e, e = id.isEmpty := ⟨_, rfl⟩
 obtain ⟨e4, he4⟩ : ∃ e, e = loc.isEmpty := ⟨_, rfl⟩
 have He1 := Lib.hid he1
 have He2 := Lib.hid he2
 have He3 := Lib.hid he3
 have He4 := Lib.hid he4
 have q1 : cs.isEmpty = e1 := he1.symm
 have q2 : b.isEmpty = e2 := he2.symm
 have q3 : id.isEmpty = e3 := he3.symm
 have q4 : loc.isEmpty = e4 := he4.symm
 clear he1 he2 he3 he4
 have HW := Lib.hid hW
 have Ht1 := Lib.hid ht1
 have Htv := Lib.hid htv2
 have HL1 := Lib.hid hL1
 have HL2 := Lib.hid hL2
 have HL3 := Lib.hid hL3
 have HL4 := Lib.hid hL4
 have Hl1 := Lib.hid l1
 have HsW := Lib.hid hsW
 have hlt : w.heap.size < W.heap.size := by omega
 clear hW ht1 htv htv2 hL1 hL2 hL3 hL4 hLe l1 hsW
 go_enter Tryz.func53, Tryz.ntmps53
 go_upto_if 11 with (fail)
 rw [← HW.out]
 go_cut [5] from 11 to 16 (fun s5 wx => s5 = str t1 ∧ W = wx)
 case first =>
  have ht1 := Ht1.out
  by_cases hc : cs = []
  · rw [if_pos hc, List.append_nil] at ht1
    obtain rfl : e1 = true := by rw [He1.out, hc]; rfl
    have HT := Lib.hid ht1
    clear ht1 hc
    go_wp2_with fail
    go_meet
    exact ⟨by rw [HT.out], rfl⟩
  · rw [if_neg hc] at ht1
    obtain rfl : e1 = false := by rw [He1.out]; cases cs with | nil => exact absurd rfl hc | cons _ _ => rfl
    have HT := Lib.hid ht1
    clear ht1 hc
    go_wp2_with fail
    go_meet
    exact ⟨by rw [HT.out]; rfl, rfl⟩
 case rest =>
  obtain ⟨rfl, hwc⟩ := hcut
  subst hwc
  go_upto_if 18 with (fail)
  go_cut [5] from 18 to 23 (fun s5 wx => s5 = str tv ∧ W = wx)
  case first =>
   have ht1 := Htv.out
   by_cases hc : b = []
   · rw [if_pos hc, List.append_nil] at ht1
     obtain rfl : e2 = true := by rw [He2.out, hc]; rfl
     have HT := Lib.hid ht1
     clear ht1 hc
     go_wp2_with fail
     go_meet
     exact ⟨by rw [HT.out], rfl⟩
   · rw [if_neg hc] at ht1
     obtain rfl : e2 = false := by rw [He2.out]; cases b with | nil => exact absurd rfl hc | cons _ _ => rfl
     have HT := Lib.hid ht1
     clear ht1 hc
     go_wp2_with fail
     go_meet
     exact ⟨by rw [HT.out]; simp [bdS], rfl⟩
  case rest =>
   obtain ⟨rfl, hwc⟩ := hcut
   subst hwc
   obtain ⟨V1, hV1⟩ : ∃ V1, V1 = W.alloc (.cells #[.string ⟨#[67, 111, 110, 116, 101, 110, 116, 45, 84, 121, 112, 101]⟩, str tv] 100) := ⟨_, rfl⟩
   have hb1 : Below W.heap.size W V1 := by rw [hV1]; exact (Below.refl _ W).alloc (Nat.le_refl _) _
   have hbelV := hbW.trans (hb1.mono hbW.size)
   have hs1 : FldSt L1 w (str t) (str cs) (str id) (str loc) (.int .i64 how) (.slice A n c) (.slice A2 n2 c2) (.slice (some ⟨W.heap.size, 0, none⟩) 1 1) V1 := by
    refine ⟨some ⟨W.heap.size, 0, none⟩, 1, by rw [Hl1.out], ?_, hbW.trans (hb1.mono hbW.size), hbx.below hb1⟩
    rw [Hl1.out, HL1.out, hV1]
    exact ⟨rfl, .inr ⟨W.heap.size, 1, _, rfl, Nat.le_of_eq HsW.out.symm, heap_alloc_new W _, Nat.le_refl _, by unfold maxLen; omega, rfl, rfl⟩⟩
   have HV1 := Lib.hid hV1
   have hsV : w.heap.size + 1 < V1.heap.size := by rw [hV1]; simp; omega
   clear hV1
   have hbx1 := hbx.below hb1
   have hown1 : V1.ownsRow (w.heap.size + 1) 100 2 (.slice (some ⟨W.heap.size, 0, none⟩) 1 1) 1 (fieldC L1) := by
    rw [HL1.out, HV1.out]
    exact ⟨rfl, .inr ⟨W.heap.size, 1, _, rfl, Nat.le_of_eq HsW.out.symm, heap_alloc_new W _, Nat.le_refl _, by unfold maxLen; omega, rfl, rfl⟩⟩
   go_upto_if 29 with (fail)
   rw [← HV1.out]
   clear x0 x1 x2 x3 x4 x5 x6
   have ⟨x0, x1, x2, x3, x4, x5, x6⟩ := hbx1
   go_cut [6] from 29 to 37 (fun s6 wx => FldSt L2 w (str t) (str cs) (str id) (str loc) (.int .i64 how) (.slice A n c) (.slice A2 n2 c2) s6 wx)
   case first =>
    have hl := HL2.out
    by_cases hc : id = []
    · rw [if_pos hc, List.append_nil] at hl
      obtain rfl : e3 = true := by rw [He3.out, hc]; rfl
      have HT := Lib.hid hl
      have Hs := Lib.hid hs1
      clear hl hc
      go_wp2_with fail
      go_meet
      rw [HT.out]
      exact Hs.out
    · rw [if_neg hc] at hl
      obtain rfl : e3 = false := by rw [He3.out]; cases id with | nil => exact absurd rfl hc | cons _ _ => rfl
      have HT := Lib.hid hl
      clear hl hc
      go_wp2_with (at_builtin; refine wpList_app rfl _ _ 59 rfl (w.heap.size + 1) 100 i0 (.agg #[.string ⟨#[]⟩, .string ⟨#[]⟩]) 2 32 Tryz.underlying59 hi0 hz0 hz1 hz2 rfl (by decide) (some ⟨W.heap.size, 0, none⟩) 1 1 (fieldC L1) rfl (hown1.alloc _) _ _ 1 1 [str idN, str ([60] ++ id ++ [62])] rfl (Sl.row _ _ 2 1 _ rfl) (fieldC_one [⟨idN, ([60] ++ id ++ [62])⟩]) (by unfold maxLen; omega) (by omega) (by simp; omega) ?_)
      intro S' c' w5 hown5 hb5 _
      have hfin : FldSt L2 w (str t) (str cs) (str id) (str loc) (.int .i64 how) (.slice A n c) (.slice A2 n2 c2) (.slice S' (1 + 1) c') w5 := by
       have hlen : L2.length = 1 + 1 := by rw [HT.out, List.length_append, Hl1.out]; rfl
       have ha := (Below.refl V1.heap.size V1).alloc (Nat.le_refl _) (.cells #[.string ⟨#[67, 111, 110, 116, 101, 110, 116, 45, 73, 68]⟩, str ([60] ++ id ++ [62])] 100)
       have hbV : Below w.heap.size w (V1.alloc (.cells #[.string ⟨#[67, 111, 110, 116, 101, 110, 116, 45, 73, 68]⟩, str ([60] ++ id ++ [62])] 100)) := hbelV.trans (ha.mono hbelV.size)
       refine ⟨S', c', by rw [hlen], ?_, hbV.trans (hb5.mono (Nat.le_succ _)), box7_low (hbx1.below ha) hb5 (Nat.lt_succ_self _)⟩
       rw [hlen, HT.out, fieldC_app]
       exact hown5
      have Hs := Lib.hid hfin
      clear hfin hown5 hb5
      go_wp2_with fail
      go_meet
      exact Hs.out
   case rest =>
    obtain ⟨S2, k2, rfl, hown2, hbel2, hbx2⟩ := hcut
    obtain ⟨w2, rfl⟩ : ∃ x, x = wc := ⟨_, rfl⟩
    clear x0 x1 x2 x3 x4 x5 x6 hbx1 hown1 hsV hs1
    have ⟨x0, x1, x2, x3, x4, x5, x6⟩ := hbx2
    have hsV : w.heap.size + 1 ≤ w2.heap.size := hbx2.lt
    have hs2 : FldSt L2 w (str t) (str cs) (str id) (str loc) (.int .i64 how) (.slice A n c) (.slice A2 n2 c2) (.slice S2 L2.length k2) w2 := ⟨S2, k2, rfl, hown2, hbel2, hbx2⟩
    go_upto_if 40 with (fail)
    go_cut [6] from 40 to 46 (fun s6 wx => FldSt L3 w (str t) (str cs) (str id) (str loc) (.int .i64 how) (.slice A n c) (.slice A2 n2 c2) s6 wx)
    case first =>
     have hl := HL3.out
     by_cases hc : loc = []
     · rw [if_pos hc, List.append_nil] at hl
       obtain rfl : e4 = true := by rw [He4.out, hc]; rfl
       have HT := Lib.hid hl
       have Hs := Lib.hid hs2
       clear hl hc
       go_wp2_with fail
       go_meet
       rw [HT.out]
       exact Hs.out
     · rw [if_neg hc] at hl
       obtain rfl : e4 = false := by rw [He4.out]; cases loc with | nil => exact absurd rfl hc | cons _ _ => rfl
       have HT := Lib.hid hl
       clear hl hc
       go_wp2_with (at_builtin; refine wpList_app rfl _ _ 59 rfl (w.heap.size + 1) 100 i0 (.agg #[.string ⟨#[]⟩, .string ⟨#[]⟩]) 2 32 Tryz.underlying59 hi0 hz0 hz1 hz2 rfl (by decide) S2 L2.length k2 (fieldC L2) rfl (hown2.alloc _) _ _ 1 1 [str locN, str loc] rfl (Sl.row _ _ 2 1 _ rfl) (fieldC_one [⟨locN, loc⟩]) (by unfold maxLen; omega) (by omega) (by simp; omega) ?_)
       intro S' c' w5 hown5 hb5 _
       have hfin : FldSt L3 w (str t) (str cs) (str id) (str loc) (.int .i64 how) (.slice A n c) (.slice A2 n2 c2) (.slice S' (L2.length + 1) c') w5 := by
        have hlen : L3.length = L2.length + 1 := by rw [HT.out, List.length_append]; rfl
        have ha := (Below.refl w2.heap.size w2).alloc (Nat.le_refl _) (.cells #[.string ⟨#[67, 111, 110, 116, 101, 110, 116, 45, 76, 111, 99, 97, 116, 105, 111, 110]⟩, str loc] 100)
        have hbV : Below w.heap.size w (w2.alloc (.cells #[.string ⟨#[67, 111, 110, 116, 101, 110, 116, 45, 76, 111, 99, 97, 116, 105, 111, 110]⟩, str loc] 100)) := hbel2.trans (ha.mono hbel2.size)
        refine ⟨S', c', by rw [hlen], ?_, hbV.trans (hb5.mono (Nat.le_succ _)), box7_low (hbx2.below ha) hb5 (Nat.lt_succ_self _)⟩
        rw [hlen, HT.out, fieldC_app]
        exact hown5
       have Hs := Lib.hid hfin
       clear hfin hown5 hb5
       go_wp2_with fail
       go_meet
       exact Hs.out
    case rest =>
     obtain ⟨S3, k3, rfl, hown3, hbel3, hbx3⟩ := hcut
     obtain ⟨w3, rfl⟩ : ∃ x, x = wc := ⟨_, rfl⟩
     clear x0 x1 x2 x3 x4 x5 x6 hbx2 hown2 hsV hs2 hbel2
     have ⟨x0, x1, x2, x3, x4, x5, x6⟩ := hbx3
     have hsV : w.heap.size + 1 ≤ w3.heap.size := hbx3.lt
     have hs3 : FldSt L3 w (str t) (str cs) (str id) (str loc) (.int .i64 how) (.slice A n c) (.slice A2 n2 c2) (.slice S3 L3.length k3) w3 := ⟨S3, k3, rfl, hown3, hbel3, hbx3⟩
     go_upto_if 48 with (fail)
     have hl := HL4.out
     by_cases hc : b = []
     · rw [if_pos hc] at hl
       obtain rfl : e2 = true := by rw [He2.out, hc]; rfl
       have hlen : L4.length = L3.length + 1 := by rw [hl, List.length_append]; rfl
       have HT := Lib.hid hl
       have Hlen := Lib.hid hlen
       clear hl hlen hc
       go_upto_region 12 with fail
       refine wp_region_held (S := fun W' : World => W'.cell? ⟨w.heap.size, 4, none⟩ = some (.int .i64 how)) (by kernel_rfl) ?_
       change wpAnyH _ _ _ _ _ _ _ _ (World.drew w3)
       have hS : (fun W' : World => W'.cell? ⟨w.heap.size, 4, none⟩ = some (.int .i64 how)) (World.drew w3) := x4
       refine tkH (i := 0) (v := ?_) rfl ?_ hS ?_
       rotate_left 1
       · intro W' hb'; go_simp; try exact rfl
       refine tkH (i := 2) (v := ?_) rfl ?_ hS ?_
       rotate_left 1
       · intro W' hb'; go_simp; try exact rfl
       refine tkH (i := 3) (v := ?_) rfl ?_ hS ?_
       rotate_left 1
       · intro W' hb'; have q0 : W'.cell? ⟨w.heap.size, 4, none⟩ = some (.int .i64 how) := hb'; go_simp; try exact rfl
       refine wpAnyH_all (rs := [1]) (by kernel_rfl) (by simp) ?_
       intro kk hkk
       simp only [List.mem_singleton] at hkk
       subst hkk
       go_simp
       refine wpM_callF rfl (by kernel_rfl) 98 #[] (by go_simp; try rfl) _ _ (hows_any _) ?_
       intro wh hbh
       have hbh' : Below w3.heap.size w3 wh := (Below.refl w3.heap.size w3).drew.trans hbh
       have hS : (fun W' : World => W'.cell? ⟨w.heap.size, 4, none⟩ = some (.int .i64 how)) wh := (hbh'.cell (p := ⟨w.heap.size, 4, none⟩) hbx3.lt).trans x4
       refine ⟨hS, ?_⟩
       refine tkH (i := 4) (v := ?_) rfl ?_ hS ?_
       rotate_left 1
       · intro W' hb'; have q0 := how_idx how h6 h7 W'; go_simp; try exact rfl
       refine tkH (i := 5) (v := ?_) rfl ?_ hS ?_
       rotate_left 1
       · intro W' hb'; go_simp; try exact rfl
       have hownh := own_below hown3 hbh'
       have hszh : w.heap.size + 1 ≤ wh.heap.size := Nat.le_trans hsV hbh'.size
       have hbA := (Below.refl wh.heap.size wh).alloc (Nat.le_refl _) (.cells #[.string ⟨#[67, 111, 110, 116, 101, 110, 116, 45, 84, 114, 97, 110, 115, 102, 101, 114, 45, 69, 110, 99, 111, 100, 105, 110, 103]⟩, str (howS how)] 100)
       obtain ⟨S', c', w8, hrun8, hown8, hgr8, _⟩ := run_app (P := Tryz.prog) (wh.alloc (.cells #[.string ⟨#[67, 111, 110, 116, 101, 110, 116, 45, 84, 114, 97, 110, 115, 102, 101, 114, 45, 69, 110, 99, 111, 100, 105, 110, 103]⟩, str (howS how)] 100)) (w.heap.size + 1) 59 59 100 i0 (.agg #[.string ⟨#[]⟩, .string ⟨#[]⟩]) 2 32 Tryz.underlying59 hi0 hz0 hz1 hz2 rfl (by decide) S3 L3.length k3 (fieldC L3) (hownh.alloc _) _ _ 1 1 [str cteN, str (howS how)] (Sl.row wh 100 2 1 _ rfl) (fieldC_one [⟨cteN, howS how⟩]) (by unfold maxLen; omega) (by omega) (by simp; omega)
       refine wpAnyH_all (rs := [6]) (by kernel_rfl) (by simp) ?_
       intro kk hkk
       simp only [List.mem_singleton] at hkk
       subst hkk
       go_simp
       refine wpM_runv rfl (by kernel_rfl) (.slice (some ⟨wh.heap.size, 0, none⟩) 1 1) (wh.alloc (.cells #[.string ⟨#[67, 111, 110, 116, 101, 110, 116, 45, 84, 114, 97, 110, 115, 102, 101, 114, 45, 69, 110, 99, 111, 100, 105, 110, 103]⟩, str (howS how)] 100)) (by go_simp; try rfl) ?_
       have hlth : w.heap.size < wh.heap.size := by omega
       have hS : (fun W' : World => W'.cell? ⟨w.heap.size, 4, none⟩ = some (.int .i64 how)) (wh.alloc (.cells #[.string ⟨#[67, 111, 110, 116, 101, 110, 116, 45, 84, 114, 97, 110, 115, 102, 101, 114, 45, 69, 110, 99, 111, 100, 105, 110, 103]⟩, str (howS how)] 100)) := (hbA.cell (p := ⟨w.heap.size, 4, none⟩) hlth).trans hS
       refine ⟨hS, ?_⟩
       refine wpAnyH_all (rs := [7]) (by kernel_rfl) (by simp) ?_
       intro kk hkk
       simp only [List.mem_singleton] at hkk
       subst hkk
       go_simp
       refine wpM_appRun rfl (by kernel_rfl) _ _ _ rfl (.slice S3 L3.length k3) (.slice (some ⟨wh.heap.size, 0, none⟩) 1 1) (by go_simp) (by go_simp) _ w8 hrun8 ?_
       have hb8 : Below (w.heap.size + 1) (wh.alloc (.cells #[.string ⟨#[67, 111, 110, 116, 101, 110, 116, 45, 84, 114, 97, 110, 115, 102, 101, 114, 45, 69, 110, 99, 111, 100, 105, 110, 103]⟩, str (howS how)] 100)) w8 := (Below.refl (w.heap.size + 1) _).grown hgr8 (by simp; omega) (fun k hk => (hown3.lt k hk).1)
       have hS : (fun W' : World => W'.cell? ⟨w.heap.size, 4, none⟩ = some (.int .i64 how)) w8 := (hb8.cell (p := ⟨w.heap.size, 4, none⟩) (Nat.lt_succ_self _)).trans hS
       have hfin : FieldsRes L4 w (.returned (.slice S' (L3.length + 1) c')) w8 := by
        refine ⟨S', c', by rw [Hlen.out], ?_, hbel3.trans ((hbh'.trans (hbA.mono hbh'.size)).mono hbel3.size |>.trans (hb8.mono (Nat.le_succ _)))⟩
        rw [Hlen.out, HT.out, fieldC_app]
        exact own_baseM hown8 (Nat.le_succ _)
       have Hs := Lib.hid hfin
       clear hfin hown8 hgr8 hb8 hrun8
       refine ⟨hS, ?_⟩
       refine tkH (i := 8) (v := ?_) rfl ?_ hS ?_
       rotate_left 1
       · intro W' hb'; go_simp; try exact rfl
       refine wpAnyH_done (by kernel_rfl) ?_ _
       go_simp
       go_wp2_with fail
       go_ret
       exact Hs.out
     · rw [if_neg hc, List.append_nil] at hl
       obtain rfl : e2 = false := by rw [He2.out]; cases b with | nil => exact absurd rfl hc | cons _ _ => rfl
       have HT := Lib.hid hl
       clear hl hc
       go_wp2_with fail
       go_ret
       rw [HT.out]
       exact ⟨S3, k3, rfl, own_baseM hown3 (Nat.le_succ _), hbel3⟩
theorem type1_any (x : Nat) (w : World) : Calls Tryz.prog 134 #[.int .i32 (x : Int)] w fun e w' => e = .returned (.bool (upR x)) ∧ w = w' := by
 go_enter Tryz.func134, Tryz.ntmps134
 go_wp2_with fail
 all_goals
  go_ret
  refine ⟨congrArg (fun b => Ending.returned (.bool b)) (?_ : _ = upR x), rfl⟩
  rw [Bool.eq_iff_iff]
  simp [upR]
  try omega
theorem containsUp_any (l : List UInt8) (w : World) (ha : ∀ b ∈ l, b.toNat < 128) : Calls Tryz.prog 133 #[str l, .func (.func 134) #[] #[]] w fun e w' => e = .returned (.bool (l.any (fun b => upR b.toNat))) ∧ Below w.heap.size w w' := by
 have h := Go.Proofs.Tryz.strings_ContainsFunc_runes 134 #[] (enters_of Tryz.func134 (by kernel_rfl) rfl) upR ⟨l.toArray⟩ w
  (fun W x hx _ => (type1_any x W).mono fun e w' ⟨h1, h2⟩ => ⟨h1, 0, h2.symm⟩)
 rw [idxFunc_any upR l (.inr ha)] at h
 exact h
theorem cut_len (l : List UInt8) (c : UInt8) : (Lib.cut l [c]).1.length ≤ l.length ∧ (Lib.cut l [c]).2.1.length ≤ l.length := by
 unfold Lib.cut
 split
 · simp; omega
 · simp
theorem Type_any (l : List UInt8) (w : World) (hl : l.length ≤ maxLen) : Calls Tryz.prog 93 #[str l] w fun e w' => e = .returned (.bool (typB l)) ∧ Below w.heap.size w w' := by
 have hcut := Cut_one l 47 w hl
 have hcl := cut_len l 47
 have hasc := typ_ascii l
 unfold typB
 have hup := fun W h => containsUp_any l W h
 generalize l.any (fun b => upR b.toNat) = up at hup ⊢
 generalize Lib.cut l [47] = x at hcut hcl hasc ⊢
 obtain ⟨a, b, ok⟩ := x
 simp only at hcut hcl hasc ⊢
 have hta := fun W => Token_any a W (by omega)
 have htb := fun W => Token_any b W (by omega)
 generalize tokB a = ta at hta hasc ⊢
 generalize tokB b = tb at htb hasc ⊢
 have Hcut := Lib.hid hcut
 have Hta := Lib.hid hta
 have Htb := Lib.hid htb
 have Hup := Lib.hid hup
 have Hasc := Lib.hid hasc
 clear hcut hta htb hup hasc hcl hl
 cases ok
 · go_enter Tryz.func93, Tryz.ntmps93
   go_wp2_with fail
   refine Hcut.out.mono ?_
   rintro e w1 ⟨rfl, q, rfl⟩
   have hb1 : Below w.heap.size w (w.drewN q) := belN (Below.refl _ w) q
   generalize w.drewN q = w1 at hb1 ⊢
   go_wp2_with fail
   go_ret
   exact ⟨rfl, hb1⟩
 · cases ta
   · go_enter Tryz.func93, Tryz.ntmps93
     go_wp2_with fail
     refine Hcut.out.mono ?_
     rintro e w1 ⟨rfl, q, rfl⟩
     have hb1 : Below w.heap.size w (w.drewN q) := belN (Below.refl _ w) q
     generalize w.drewN q = w1 at hb1 ⊢
     go_wp2_with fail
     refine (Hta.out _).mono ?_
     rintro e w2 ⟨rfl, hb2⟩
     go_wp2_with fail
     go_ret
     exact ⟨rfl, hb1.trans (hb2.mono hb1.size)⟩
   · cases tb
     · go_enter Tryz.func93, Tryz.ntmps93
       go_wp2_with fail
       refine Hcut.out.mono ?_
       rintro e w1 ⟨rfl, q, rfl⟩
       have hb1 : Below w.heap.size w (w.drewN q) := belN (Below.refl _ w) q
       generalize w.drewN q = w1 at hb1 ⊢
       go_wp2_with fail
       refine (Hta.out _).mono ?_
       rintro e w2 ⟨rfl, hb2⟩
       have hbel2 := hb1.trans (hb2.mono hb1.size)
       go_wp2_with fail
       refine (Htb.out _).mono ?_
       rintro e w3 ⟨rfl, hb3⟩
       go_wp2_with fail
       go_ret
       exact ⟨rfl, hbel2.trans (hb3.mono hbel2.size)⟩
     · have hu := fun W => Hup.out W (Hasc.out rfl rfl rfl)
       have Hu := Lib.hid hu
       clear hu Hup Hasc
       go_enter Tryz.func93, Tryz.ntmps93
       go_wp2_with fail
       refine Hcut.out.mono ?_
       rintro e w1 ⟨rfl, q, rfl⟩
       have hb1 : Below w.heap.size w (w.drewN q) := belN (Below.refl _ w) q
       generalize w.drewN q = w1 at hb1 ⊢
       go_wp2_with fail
       refine (Hta.out _).mono ?_
       rintro e w2 ⟨rfl, hb2⟩
       have hbel2 := hb1.trans (hb2.mono hb1.size)
       go_wp2_with fail
       refine (Htb.out _).mono ?_
       rintro e w3 ⟨rfl, hb3⟩
       have hbel3 := hbel2.trans (hb3.mono hbel2.size)
       go_wp2_with fail
       refine (Hu.out _).mono ?_
       rintro e w4 ⟨rfl, hb4⟩
       have hbel4 := hbel3.trans (hb4.mono hbel3.size)
       go_wp2_with fail
       go_ret
       exact ⟨rfl, hbel4⟩
theorem Many_any (l : List UInt8) (w : World) : Calls Tryz.prog 49 #[str l] w fun e w' => e = .returned (.bool (manyB l)) ∧ w = w' := by
 go_enter Tryz.func49, Tryz.ntmps49
 go_wp2_with fail
 refine (HasPrefix_any l [109, 117, 108, 116, 105, 112, 97, 114, 116, 47] _).mono ?_
 rintro e w1 ⟨rfl, rfl⟩
 go_wp2_with fail
 go_ret
 exact ⟨rfl, rfl⟩
theorem word1_any (x : Nat) (hx : x < 256) (w : World) : Calls Tryz.prog 137 #[.int .u8 (x : Int)] w fun e w' => e = .returned (.bool (badWord x)) ∧ w = w' := by
 go_enter Tryz.func137, Tryz.ntmps137
 go_wp2_with fail
 all_goals
  go_ret
  refine ⟨congrArg (fun b => Ending.returned (.bool b)) (?_ : _ = badWord x), rfl⟩
  rw [Bool.eq_iff_iff]
  simp [badWord]
  try omega
theorem predWord (w : World) : PredB 137 #[] badWord w := fun W x hx _ =>
 (word1_any x hx W).mono fun _e _w' ⟨h1, h2⟩ => ⟨h1, h2 ▸ Below.refl _ _⟩
theorem Word_any (l : List UInt8) (w : World) (hl : l.length ≤ maxLen) : Calls Tryz.prog 95 #[str l] w fun e w' => e = .returned (.bool (wordB l)) ∧ Below w.heap.size w w' := by
 unfold maxLen at hl
 by_cases h30 : l.length ≤ 120
 · have e : wordB l = !l.any (fun b => badWord b.toNat) := by simp [wordB, h30]
   rw [e]
   clear e
   obtain ⟨A, c, w1, hconv, hby, hnc, hb1, hlt1⟩ := run_toBytes (P := Tryz.prog) w 9 22 5 l Tryz.underlying9 Tryz.underlying22 Tryz.underlying5
   have hcf := ContainsFunc_bytes 137 #[] (enters_of Tryz.func137 (by kernel_rfl) rfl) badWord A l.length c _ l w1 hby (Nat.le_refl _) (by unfold maxLen; omega) (predWord w1)
   generalize l.any (fun b => badWord b.toNat) = r at hcf ⊢
   have Hcf := Lib.hid hcf
   clear hcf hby
   go_enter Tryz.func95, Tryz.ntmps95
   go_wp2_with fail
   refine Hcf.out.mono ?_
   rintro e w2 ⟨rfl, hb2⟩
   go_wp2_with fail
   go_ret
   exact ⟨rfl, hb1.trans (hb2.mono hb1.size)⟩
 · have e : wordB l = false := by simp [wordB, h30]
   rw [e]
   clear e
   go_enter Tryz.func95, Tryz.ntmps95
   go_wp2_with fail
   go_ret
   exact ⟨rfl, Below.refl _ _⟩
theorem ret_nat {a b : Nat} (h : a = b) : Ending.returned (.int .i64 (a : Int)) = .returned (.int .i64 (b : Int)) := by rw [h]
theorem check_raw (t cs id loc : List UInt8) (how : Int) (A A2 : Option Addr) (n c n2 c2 : Nat) (w : World)
 (ht : t.length ≤ maxLen) (hcs : cs.length ≤ maxLen) (hid : id.length ≤ maxLen) (hloc : loc.length ≤ maxLen) (hh1 : -9223372036854775808 ≤ how) (hh2 : how ≤ 9223372036854775807) (hn : n ≤ maxLen) (hn2 : n2 ≤ maxLen) :
 Calls Tryz.prog 48 #[.agg #[str t, str cs, str id, str loc, .int .i64 how, .slice A n c, .slice A2 n2 c2]] w
  fun e w' => e = .returned (.int .i64 (chkB (typB t) (cs == []) (tokB cs) (wordB id) (wordB loc) how n (manyB t) n2 : Nat)) ∧ Below w.heap.size w w' := by
 have h1 := fun W => Type_any t W ht
 have h2 := fun W => Token_any cs W hcs
 have h3 := fun W => Word_any id W hid
 have h4 := fun W => Word_any loc W hloc
 have h5 := fun W => Many_any t W
 generalize typB t = ty at h1 ⊢
 generalize tokB cs = tk at h2 ⊢
 generalize wordB id = wi at h3 ⊢
 generalize wordB loc = wl at h4 ⊢
 generalize manyB t = m at h5 ⊢
 generalize hce : (cs == ([] : List UInt8)) = ce
 have HCE := Lib.hid hce
 clear hce
 have H1 := Lib.hid h1
 have H2 := Lib.hid h2
 have H3 := Lib.hid h3
 have H4 := Lib.hid h4
 have H5 := Lib.hid h5
 clear h1 h2 h3 h4 h5
 unfold maxLen at ht hcs hid hloc hn hn2
 have hbx := Box7.new w 25 (str t) (str cs) (str id) (str loc) (.int .i64 how) (.slice A n c) (.slice A2 n2 c2)
 have hb0 : Below w.heap.size w (w.alloc (.cells #[str t, str cs, str id, str loc, .int .i64 how, .slice A n c, .slice A2 n2 c2] 25)) := (Below.refl _ w).alloc (Nat.le_refl _) _
 go_enter Tryz.func48, Tryz.ntmps48
 go_wp2_with fail
 refine (H1.out _).mono ?_
 rintro e w1 ⟨rfl, hb1⟩
 have hbx1 := hbx.below hb1
 have hbel1 := hb0.trans (hb1.mono hb0.size)
 clear hbx hb0 hb1 H1
 have ⟨x0, x1, x2, x3, x4, x5, x6⟩ := hbx1
 cases ty
 · go_wp2_with fail
   go_ret
   exact ⟨ret_nat (by simp [chkB]), hbel1⟩
 · cases ce
   case' true =>
    have hce := HCE.out
    go_wp2_with fail
    obtain ⟨w2, hw2⟩ : ∃ w2 : World, w2 = w1 := ⟨_, rfl⟩
    have hbx2 := hbx1
    have hbel2 := hbel1
    rw [← hw2] at hbx2 hbel2 ⊢
    clear x0 x1 x2 x3 x4 x5 x6 hw2 hbx1 hbel1 hce
   case' false =>
    have hce := HCE.out
    go_wp2_with fail
    refine (H2.out _).mono ?_
    rintro e w2 ⟨rfl, hb2⟩
    have hbx2 := hbx1.below hb2
    have hbel2 := hbel1.trans (hb2.mono hbel1.size)
    have ⟨x0, x1, x2, x3, x4, x5, x6⟩ := hbx2
    cases tk
    · go_wp2_with fail
      go_ret
      exact ⟨ret_nat (by simp [chkB]), hbel2⟩
    go_wp2_with fail
    clear x0 x1 x2 x3 x4 x5 x6 hb2 hbx1 hbel1 hce
   all_goals
    refine (H3.out _).mono ?_
    rintro e w3 ⟨rfl, hb3⟩
    have hbx3 := hbx2.below hb3
    have hbel3 := hbel2.trans (hb3.mono hbel2.size)
    clear hbx2 hbel2 hb3
    have ⟨x0, x1, x2, x3, x4, x5, x6⟩ := hbx3
    cases wi
    · go_wp2_with fail
      go_ret
      exact ⟨ret_nat (by simp [chkB]), hbel3⟩
    · go_wp2_with fail
      clear x0 x1 x2 x3 x4 x5 x6
      refine (H4.out _).mono ?_
      rintro e w4 ⟨rfl, hb4⟩
      have hbx4 := hbx3.below hb4
      have hbel4 := hbel3.trans (hb4.mono hbel3.size)
      clear hbx3 hbel3 hb4
      have ⟨x0, x1, x2, x3, x4, x5, x6⟩ := hbx4
      cases wl
      · go_wp2_with fail
        go_ret
        exact ⟨ret_nat (by simp [chkB]), hbel4⟩
      · by_cases hh0 : how < 0
        · have d0 : decide (how < 0) = true := by simpa using hh0
          go_wp2_with fail
          go_ret
          exact ⟨ret_nat (by simp [chkB, hh0]), hbel4⟩
        · have d0 : decide (how < 0) = false := by simpa using hh0
          by_cases hh2 : 2 < how
          · have d2 : decide (2 < how) = true := by simpa using hh2
            go_wp2_with fail
            go_ret
            exact ⟨ret_nat (by simp [chkB, hh2]), hbel4⟩
          · have d2 : decide (2 < how) = false := by simpa using hh2
            by_cases hn4 : 4000 < n
            · go_wp2_with fail
              go_ret
              exact ⟨ret_nat (by simp [chkB, hh0, hh2, hn4]), hbel4⟩
            · go_wp2_with fail
              refine (H5.out _).mono ?_
              rintro e w5 ⟨rfl, rfl⟩
              have hce := HCE.out
              have k0 : ¬ how < 0 ∧ ¬ 2 < how ∧ ¬ 4000 < n := by omega
              have K0 := Lib.hid k0
              clear k0 hh0 hh2
              rcases (by omega : 0 < n2 ∨ n2 = 0) with hn0 | rfl <;> rcases (by omega : 0 < n ∨ n = 0) with hnn | rfl <;> rcases Decidable.em (how = 0) with rfl | hz <;> cases m
              all_goals
               first
               | have e0 : decide ((0 : Int) < n2) = true := by simp; omega
               | have e0 : True := trivial
               first
               | have e1 : decide ((0 : Int) < n) = true := by simp; omega
               | have e1 : True := trivial
               first
               | have e2 : (how != 0) = true := by simpa using hz
               | have e2 : True := trivial
               go_wp2_with fail
               go_ret
               refine ⟨ret_nat ?_, hbel4⟩
               have k0 := K0.out
               simp only [chkB]
               simp [*]
def cntVal : Option Nat → Value
 | none => .tuple #[.int .i64 0, .bool false]
 | some n => .tuple #[.int .i64 (n : Nat), .bool true]
/-- Element i of a slice of parts, its seven cells. -/
theorem SlP.cells7 {S : Nat → Prop} {w : World} {A : Option Addr} {n : Nat} {ps : List PartD} (h : SlP S w A n ps) {i : Nat} (hi : i < n) :
 ∃ b off p A' n' c' A2' n2' c2', A = some ⟨b, off, none⟩ ∧ S b ∧ ps.drop i = p :: ps.drop (i + 1) ∧ PartAt S w p [str p.type, str p.cs, str p.id, str p.loc, .int .i64 p.how, .slice A' n' c', .slice A2' n2' c2'] ∧
  w.cell? ⟨b, off + i * 7, none⟩ = some (str p.type) ∧ w.cell? ⟨b, off + i * 7 + 1, none⟩ = some (str p.cs) ∧ w.cell? ⟨b, off + i * 7 + 2, none⟩ = some (str p.id) ∧ w.cell? ⟨b, off + i * 7 + 3, none⟩ = some (str p.loc) ∧
  w.cell? ⟨b, off + i * 7 + 4, none⟩ = some (.int .i64 p.how) ∧ w.cell? ⟨b, off + i * 7 + 5, none⟩ = some (.slice A' n' c') ∧ w.cell? ⟨b, off + i * 7 + 6, none⟩ = some (.slice A2' n2' c2') := by
 have hl := h.len
 obtain ⟨b, off, r, hA, hb, hp, hc⟩ := h.at_ hi
 have hd := List.drop_eq_getElem_cons (l := ps) (i := i) (by omega)
 generalize ps[i]'(by rw [h.len]; exact hi) = p at hp hd
 obtain ⟨t, cs, id, loc, how, body, parts⟩ := p
 have hp2 := hp
 obtain ⟨A', n', c', A2', n2', c2', rows, rfl, _⟩ := hp
 exact ⟨b, off, _, A', n', c', A2', n2', c2', hA, hb, hd, hp2, hc 0 _ rfl, hc 1 _ rfl, hc 2 _ rfl, hc 3 _ rfl, hc 4 _ rfl, hc 5 _ rfl, hc 6 _ rfl⟩
def CntRel (k n2 : Nat) (ps : List PartD) (R : Option Nat) (w0 : World) (nv iv : Value) (wr : World) : Prop :=
 ∃ i n : Nat, nv = .int .i64 (n : Nat) ∧ iv = .int .i64 (i : Nat) ∧ i ≤ n2 ∧ n ≤ 12 ∧ Hid (cntsD k n (ps.drop i) = R) ∧ Below w0.heap.size w0 wr
theorem count_any (k : Nat) : ∀ (p : PartD) (v : List Value) (depth : Int) (w : World), k + depth = 4 → 1 ≤ depth → PartAt (· < w.heap.size) w p v →
 Calls Tryz.prog 46 #[.agg v.toArray, .int .i64 depth] w fun e w' => e = .returned (cntVal (cntD k p)) ∧ Below w.heap.size w w' := by
 induction k with
 | zero =>
  intro p v depth w hd h1 hp
  obtain ⟨t, cs, id, loc, how, body, parts⟩ := p
  obtain ⟨A, n, c, A2, n2, c2, rows, rfl, _⟩ := hp
  have e : cntD 0 ⟨t, cs, id, loc, how, body, parts⟩ = none := by rw [cntD]
  rw [e]
  have hd4 : 3 < depth := by omega
  have hd5 : depth ≤ 4 := by omega
  clear hd e
  go_enter Tryz.func46, Tryz.ntmps46
  go_wp2_with fail
  go_ret2
  exact ⟨rfl, (Below.refl _ _).alloc (Nat.le_refl _) _⟩
 | succ k ih =>
  intro p v depth w hd h1 hp
  obtain ⟨t, cs, id, loc, how, body, parts⟩ := p
  obtain ⟨A, n, c, A2, n2, c2, rows, rfl, _, _, _, _, hsl, hnc, hcm, hps⟩ := hp
  have hP : SlP (· < w.heap.size) w A2 n2 parts := ⟨rows, hsl, hps⟩
  have e : cntD (k + 1) ⟨t, cs, id, loc, how, body, parts⟩ = cntsD k 1 parts := by rw [cntD]
  rw [e]
  obtain ⟨R, hR⟩ : ∃ R, cntsD k 1 parts = R := ⟨_, rfl⟩
  rw [hR]
  have HR := Lib.hid hR
  have Hih := Lib.hid ih
  have hd3 : depth ≤ 3 := by omega
  have Hd := Lib.hid hd
  have hn2 : n2 ≤ 9223372036854775807 := by unfold maxLen at hcm; omega
  clear hsl hps e hR ih hd hcm
  go_enter Tryz.func46, Tryz.ntmps46
  go_wp2_with fail
  go_loopw [6, 16] (CntRel k n2 parts R w) (fun _ iv _ => n2 - (intOf iv).toNat)
  case atStart => exact ⟨0, 1, rfl, rfl, by omega, by omega, HR.out, (Below.refl _ w).alloc (Nat.le_refl _) _⟩
  case round =>
   clear HR
   obtain ⟨i, m, rfl, rfl, hi, hm, hE, hbel⟩ := hrel
   by_cases hin : i < n2
   · have hPr := hP.below hbel
     obtain ⟨b, off, q, A', n', c', A2', n2', c2', rfl, hbS, hq, hqa, x0, x1, x2, x3, x4, x5, x6⟩ := hPr.cells7 hin
     have Hq := Lib.hid hq
     clear hq hPr hP
     go_wp2_with fail
     have hqa2 := (hqa.below ((Below.refl w.heap.size wr).alloc hbel.size (.cells #[str q.type, str q.cs, str q.id, str q.loc, .int .i64 q.how, .slice A' n' c', .slice A2' n2' c2'] 25))).more (C := (wr.alloc (.cells #[str q.type, str q.cs, str q.id, str q.loc, .int .i64 q.how, .slice A' n' c', .slice A2' n2' c2'] 25)).heap.size) (by have := hbel.size; simp; omega)
     have hb0 := hbel.alloc hbel.size (.cells #[str q.type, str q.cs, str q.id, str q.loc, .int .i64 q.how, .slice A' n' c', .slice A2' n2' c2'] 25)
     have hc12 := cntD_le k q
     have hE2 : Hid (cntNext k m (parts.drop (i + 1)) (cntD k q) = R) := by
      show _ = R
      rw [← hE.out, Hq.out, cntsD_cons]
     have hcl := Hih.out q _ (depth + 1) _ (by have := Hd.out; omega) (by omega) hqa2
     generalize cntD k q = o at hcl hc12 hE2
     clear x0 x1 x2 x3 x4 x5 x6 hqa hqa2
     cases o with
     | none =>
      obtain rfl : none = R := hE2.out
      simp only [cntVal] at hcl
      refine hcl.mono ?_
      clear hcl hE hE2 hc12
      rintro e w1 ⟨rfl, hb1⟩
      have hbel1 := hb0.trans (hb1.mono hb0.size)
      go_wp2_with fail
      go_ret2
      exact ⟨rfl, hbel1⟩
     | some c =>
      obtain ⟨hc1, hc2⟩ := hc12 c rfl
      simp only [cntVal] at hcl
      by_cases h12 : 12 < m + c
      · obtain rfl : none = R := by have := hE2.out; simp only [cntNext] at this; rw [if_pos h12] at this; exact this
        have d1 : decide ((12 : Int) < (m : Int) + c) = true := by simp; omega
        refine hcl.mono ?_
        clear hcl hE hE2 hc12
        rintro e w1 ⟨rfl, hb1⟩
        have hbel1 := hb0.trans (hb1.mono hb0.size)
        go_wp2_with fail
        go_ret2
        exact ⟨rfl, hbel1⟩
      · have hE3 : Hid (cntsD k (m + c) (parts.drop (i + 1)) = R) := by have := hE2.out; simp only [cntNext] at this; rw [if_neg h12] at this; exact this
        have d1 : decide ((12 : Int) < (m : Int) + c) = false := by simp; omega
        refine hcl.mono ?_
        clear hcl hE hE2 hc12
        rintro e w1 ⟨rfl, hb1⟩
        have hbel1 := hb0.trans (hb1.mono hb0.size)
        go_wp2_with fail
        exact ⟨⟨i + 1, m + c, by go_num, by go_num, by omega, by omega, hE3, hbel1⟩, by simp [intOf]; omega⟩
   · have hR : some m = R := by rw [← hE.out, List.drop_of_length_le (by rw [hP.len]; omega), cntsD]
     subst hR
     clear hE
     go_wp2_with fail
     go_ret2
     exact ⟨rfl, hbel⟩
end Go.Proofs.YtinfjdfhkfhgjaaGreatDoor
namespace Go.Proofs.YtinfjdfhkfhgjaaGreatDoor
open Go.RowKit
theorem catInfoPart : (Tryz.prog.info? 25).map (fun i => (i.zero, i.size, i.bytes)) = some (some (Value.agg #[.string ⟨#[]⟩, .string ⟨#[]⟩, .string ⟨#[]⟩, .string ⟨#[]⟩, .int .i64 0, .slice none 0 0, .slice none 0 0]), 7, 120) := by kernel_rfl
theorem upto_Part (w : World) (A : Option Addr) (n c : Nat) (ki : IntKind) (k : Int) (h0 : 0 ≤ k) (h1 : k ≤ n) (hc : n ≤ c) :
 (Instr.slice 23 (.slice A n c) none (some (.int ki k)) none).run Tryz.prog w = .ok (.slice (cutA A c 0 7) k.toNat c) w :=
 run_upto w _ _ 7 Tryz.underlying23 (Tryz.sizeOf25 w) A n c ki k h0 h1 hc
attribute [local go_sem high] upto_Part
def GrowResPart (w : World) (e : Ending) (w' : World) : Prop := ∃ S c, e = .returned (.slice S 0 c) ∧ w'.ownsRow w.heap.size 25 7 (.slice S 0 c) 0 [] ∧ Below w.heap.size w w'
theorem Grow_Part (k : Nat) (w : World) (hk : k ≤ 1000000000) : Calls Tryz.prog 112 #[.slice none 0 0, .int .i64 (k : Nat)] w (GrowResPart w) := by
 obtain ⟨i0, hi, hz0, hz1, hz2⟩ := info_parts catInfoPart
 rcases Nat.eq_zero_or_pos k with rfl | h0
 · go_enter Tryz.func112, Tryz.ntmps112
   go_wp2_with fail
   go_ret
   exact ⟨none, 0, rfl, World.ownsRow_nil _ _ _ _, Below.refl _ _⟩
 · have happ := fun ty => Lib.run_append_nil_zeros (P := Tryz.prog) w 23 3 ty 25 i0 (Value.agg #[.string ⟨#[]⟩, .string ⟨#[]⟩, .string ⟨#[]⟩, .string ⟨#[]⟩, .int .i64 0, .slice none 0 0, .slice none 0 0]) .i64 .i64 Tryz.underlying23 Tryz.underlying3 hi hz0 k h0 (by omega) (by omega) (by rw [hz2]; omega)
   have hcapge := grownCap_ge w k 0 25
   have hcaple := grownCap_le_maxLen w k 0 25 (by unfold maxLen; omega)
   generalize grownCap w k 0 25 = cap at happ hcapge hcaple
   generalize hZ : (Builtin.zeroCells (Value.agg #[.string ⟨#[]⟩, .string ⟨#[]⟩, .string ⟨#[]⟩, .string ⟨#[]⟩, .int .i64 0, .slice none 0 0, .slice none 0 0]).cells k ++ Builtin.zeroCells (Value.agg #[.string ⟨#[]⟩, .string ⟨#[]⟩, .string ⟨#[]⟩, .string ⟨#[]⟩, .int .i64 0, .slice none 0 0, .slice none 0 0]).cells (cap - k)) = Z at happ
   have hZs : Hid (Z.size = cap * 7) := by show _ = _; rw [← hZ]; simp [size_zeroCells, Value.cells]; omega
   have Hcl := Lib.hid hcaple
   clear hZ hcaple
   go_enter Tryz.func112, Tryz.ntmps112
   go_wp2_with (at_builtin; refine Lib.wpList_append_run _ rfl _ _ _ _ rfl _ _ rfl rfl _ _ (happ _) ?_)
   go_ret
   refine ⟨some ⟨w.heap.size, 0, none⟩, cap, ?_, ⟨rfl, .inr ⟨w.heap.size, cap, Z, rfl, Nat.le_refl _, heap_alloc_new w.drew _, Nat.zero_le _, Hcl.out, hZs.out, by simp⟩⟩, ((Below.refl _ w).drew).alloc (Nat.le_refl _) _⟩
   simp [cutA, Addr.add]
def CatRel1Part (n1 n2 : Nat) (w0 : World) (sv iv : Value) (wr : World) : Prop :=
 ((iv = .int .i64 0 ∧ sv = .int .i64 0) ∨ (iv = .int .i64 1 ∧ sv = .int .i64 (n1 : Nat)) ∨ (iv = .int .i64 2 ∧ sv = .int .i64 ((n1 + n2 : Nat) : Int))) ∧ wr = w0
def CatRel2Part (n1 n2 : Nat) (xs ys : List Value) (w0 : World) (nv iv : Value) (wr : World) : Prop :=
 ∃ S m c zs, nv = .slice S m c ∧ wr.ownsRow w0.heap.size 25 7 (.slice S m c) m zs ∧ Below w0.heap.size w0 wr ∧
  ((iv = .int .i64 0 ∧ m = 0 ∧ zs = []) ∨ (iv = .int .i64 1 ∧ m = n1 ∧ zs = xs) ∨ (iv = .int .i64 2 ∧ m = n1 + n2 ∧ zs = xs ++ ys))
def CatResPart (xs : List Value) (n : Nat) (w : World) (e : Ending) (w' : World) : Prop := ∃ S c, e = .returned (.slice S n c) ∧ w'.ownsRow w.heap.size 25 7 (.slice S n c) n xs ∧ Below w.heap.size w w'
theorem Concat_Part (A A1 A2 : Option Addr) (c n1 c1 n2 c2 : Nat) (xs ys : List Value) (w : World) (hA : Sl w w.heap.size 1 A 2 [.slice A1 n1 c1, .slice A2 n2 c2]) (hx : Sl w w.heap.size 7 A1 n1 xs) (hy : Sl w w.heap.size 7 A2 n2 ys)
 (h1x : ∀ u ∈ xs, u.oneCell' = true) (h1y : ∀ u ∈ ys, u.oneCell' = true) (hn : n1 + n2 ≤ 1000000000) :
 Calls Tryz.prog 66 #[.slice A 2 c] w (CatResPart (xs ++ ys) (n1 + n2) w) := by
 obtain ⟨i0, hi, hz0, hz1, hz2⟩ := info_parts catInfoPart
 obtain ⟨b, off, rfl, hbl, hc⟩ := hA.2 (by omega)
 have x0 : w.cell? ⟨b, off, none⟩ = some (.slice A1 n1 c1) := hc 0 _ rfl
 have x1 : w.cell? ⟨b, off + 1, none⟩ = some (.slice A2 n2 c2) := hc 1 _ rfl
 have H1x := Lib.hid h1x
 have H1y := Lib.hid h1y
 clear hc hA h1x h1y
 go_enter Tryz.func66, Tryz.ntmps66
 go_wp2_with fail
 go_loopw [3, 11] (CatRel1Part n1 n2 w) (fun _ iv _ => 2 - (intOf iv).toNat)
 case atStart => exact ⟨.inl ⟨rfl, rfl⟩, rfl⟩
 case round =>
  obtain ⟨h, rfl⟩ := hrel
  rcases h with ⟨rfl, rfl⟩ | ⟨rfl, rfl⟩ | ⟨rfl, rfl⟩
  · go_wp2_with fail
    exact ⟨⟨.inr (.inl ⟨rfl, by go_num⟩), rfl⟩, by simp [intOf]⟩
  · go_wp2_with fail
    exact ⟨⟨.inr (.inr ⟨rfl, by go_num⟩), rfl⟩, by simp [intOf]⟩
  · obtain ⟨w, rfl⟩ : ∃ x : World, x = wr := ⟨_, rfl⟩
    go_wp2_with fail
    refine (Grow_Part (n1 + n2) _ hn).mono ?_
    rintro e w1 ⟨S, cs, rfl, hown, hb1⟩
    have y0 := (hb1.cell (p := ⟨b, off, none⟩) hbl).trans x0
    have y1 := (hb1.cell (p := ⟨b, off + 1, none⟩) hbl).trans x1
    clear x0 x1
    go_wp2_with fail
    go_loopw [6, 27] (CatRel2Part n1 n2 xs ys w) (fun _ iv _ => 2 - (intOf iv).toNat)
    case atStart => exact ⟨S, 0, cs, [], rfl, hown, hb1, .inl ⟨rfl, rfl, rfl⟩⟩
    case round =>
     clear hown
     obtain ⟨S, m, cs, zs, rfl, hown, hbel, h⟩ := hrel
     have z0 := (hbel.cell (p := ⟨b, off, none⟩) hbl).trans ((hb1.cell (p := ⟨b, off, none⟩) hbl).symm.trans y0)
     have z1 := (hbel.cell (p := ⟨b, off + 1, none⟩) hbl).trans ((hb1.cell (p := ⟨b, off + 1, none⟩) hbl).symm.trans y1)
     clear y0 y1 hb1
     rcases h with ⟨rfl, rfl, rfl⟩ | ⟨rfl, rfl, rfl⟩ | ⟨rfl, rfl, rfl⟩
     · have hxr := hx.below hbel
       have h63 : 0 + n1 ≤ maxLen := by unfold maxLen; omega
       have h47 : (0 + n1) * 120 ≤ 140737488355328 := by omega
       go_wp2_with (at_builtin; refine wpList_app rfl _ _ 23 rfl w.heap.size 25 i0 (Value.agg #[.string ⟨#[]⟩, .string ⟨#[]⟩, .string ⟨#[]⟩, .string ⟨#[]⟩, .int .i64 0, .slice none 0 0, .slice none 0 0]) 7 120 Tryz.underlying23 hi hz0 hz1 hz2 rfl (by decide) S 0 cs [] rfl hown _ _ n1 c1 xs rfl hxr H1x.out h63 h47 hbel.size ?_)
       intro S' c' w4 hown4 hb4 _
       try simp only [Nat.zero_add, List.nil_append] at hown4
       go_wp2_with fail
       exact ⟨⟨S', n1, c', xs, by simp, hown4, hbel.trans hb4, .inr (.inl ⟨rfl, rfl, rfl⟩)⟩, by simp [intOf]⟩
     · have hyr := hy.below hbel
       have h63 : m + n2 ≤ maxLen := by unfold maxLen; omega
       have h47 : (m + n2) * 120 ≤ 140737488355328 := by omega
       go_wp2_with (at_builtin; refine wpList_app rfl _ _ 23 rfl w.heap.size 25 i0 (Value.agg #[.string ⟨#[]⟩, .string ⟨#[]⟩, .string ⟨#[]⟩, .string ⟨#[]⟩, .int .i64 0, .slice none 0 0, .slice none 0 0]) 7 120 Tryz.underlying23 hi hz0 hz1 hz2 rfl (by decide) S m cs zs rfl hown _ _ n2 c2 ys rfl hyr H1y.out h63 h47 hbel.size ?_)
       intro S' c' w4 hown4 hb4 _
       go_wp2_with fail
       exact ⟨⟨S', m + n2, c', zs ++ ys, rfl, hown4, hbel.trans hb4, .inr (.inr ⟨rfl, rfl, rfl⟩)⟩, by simp [intOf]⟩
     · go_wp2_with fail
       go_ret
       exact ⟨S, cs, rfl, hown, hbel⟩
end Go.Proofs.YtinfjdfhkfhgjaaGreatDoor
namespace Go.Proofs.YtinfjdfhkfhgjaaGreatDoor
open Go.RowKit
theorem check_at {S : Nat → Prop} {W : World} (p : PartD) (v : List Value) (h : PartAt S W p v) (w : World) :
 Calls Tryz.prog 48 #[.agg v.toArray] w fun e w' => e = .returned (.int .i64 (chkD p : Nat)) ∧ Below w.heap.size w w' := by
 obtain ⟨A, c, A2, c2, rfl, ⟨h1, h2, h3, h4, h5, h6⟩, _, h7, h8, _, h9, h10⟩ := h.open
 exact check_raw p.type p.cs p.id p.loc p.how A A2 _ c _ c2 w h1 h2 h3 h4 h5 h6 (Nat.le_trans h7 h8) (Nat.le_trans h9 h10)
/-- A slice of parts in new memory, that lead into blocks below B. -/
def AllRes (B : Nat) (ps : List PartD) (w : World) (e : Ending) (w' : World) : Prop :=
 ∃ S c rows, e = .returned (.slice S ps.length c) ∧ w'.ownsRow w.heap.size 25 7 (.slice S ps.length c) ps.length rows.flatten ∧ PartsAt (· < B) w' ps rows ∧ Below w.heap.size w w'
def AllRel (B : Nat) (parts all : List PartD) (n2 : Nat) (w0 : World) (lv iv : Value) (wr : World) : Prop :=
 ∃ i m c S done rows, lv = .slice S m c ∧ iv = .int .i64 (i : Nat) ∧ i ≤ n2 ∧ wr.ownsRow w0.heap.size 25 7 (.slice S m c) m rows.flatten ∧ PartsAt (· < B) wr done rows ∧
  Hid (done ++ flatsD (parts.drop i) = all ∧ done.length = m) ∧ 1 ≤ m ∧ Below w0.heap.size w0 wr
theorem all_any (k : Nat) : ∀ (p : PartD) (v : List Value) (B : Nat) (w : World), (flatD p).length ≤ k → k ≤ 1000 → B ≤ w.heap.size → PartAt (· < B) w p v →
 Calls Tryz.prog 47 #[.agg v.toArray] w (AllRes B (flatD p) w) := by
 obtain ⟨i0, hi0, hz0, hz1, hz2⟩ := info_parts catInfoPart
 induction k with
 | zero => intro p v B w h; rw [flatD_eq] at h; simp at h
 | succ k ih =>
  intro p v B w hk hk1 hB hp
  obtain ⟨A, c, A2, c2, rfl, _, _, _, _, hP, hc2, hcm⟩ := hp.open
  have hall := flatD_eq p
  have hrow : PartsAt (· < B) w [p] [[str p.type, str p.cs, str p.id, str p.loc, .int .i64 p.how, .slice A p.body.length c, .slice A2 p.parts.length c2]] := ⟨_, _, rfl, hp, rfl⟩
  obtain ⟨n2, hn2⟩ : ∃ n2, n2 = p.parts.length := ⟨_, rfl⟩
  rw [← hn2] at hP hrow hc2 ⊢
  obtain ⟨L, hL⟩ : ∃ L, L = flatD p := ⟨_, rfl⟩
  rw [← hL] at hall hk ⊢
  have hn2m : n2 ≤ 9223372036854775807 := by unfold maxLen at hcm; omega
  have Hall := Lib.hid hall
  have Hn2 := Lib.hid hn2
  have Hih := Lib.hid ih
  have hk1000 : L.length ≤ 1000 := by omega
  have Hk := Lib.hid hk
  clear hall hL hn2 ih hk hcm hp
  go_enter Tryz.func47, Tryz.ntmps47
  go_wp2_with fail
  go_loopw [3, 11] (AllRel B p.parts L n2 w) (fun _ iv _ => n2 - (intOf iv).toNat)
  case atStart =>
   have hbn : Below w.heap.size w ((w.alloc (.cells #[str p.type, str p.cs, str p.id, str p.loc, .int .i64 p.how, .slice A p.body.length c, .slice A2 n2 c2] 25)).alloc (.cells #[str p.type, str p.cs, str p.id, str p.loc, .int .i64 p.how, .slice A p.body.length c, .slice A2 n2 c2] 25)) := ((Below.refl _ w).alloc (Nat.le_refl _) _).alloc (by simp) _
   refine ⟨0, 1, 1, some ⟨w.heap.size + 1, 0, none⟩, [p], _, rfl, rfl, Nat.zero_le _, ?_, PartsAt.change (fun _ h => h) (fun a ha => hbn.cell (Nat.lt_of_lt_of_le ha hB)) _ _ hrow, ⟨Hall.out.symm, rfl⟩, Nat.le_refl _, hbn⟩
   exact ⟨rfl, .inr ⟨w.heap.size + 1, 1, _, rfl, Nat.le_succ _, by have := heap_alloc_new (w.alloc (.cells #[str p.type, str p.cs, str p.id, str p.loc, .int .i64 p.how, .slice A p.body.length c, .slice A2 n2 c2] 25)) (.cells #[str p.type, str p.cs, str p.id, str p.loc, .int .i64 p.how, .slice A p.body.length c, .slice A2 n2 c2] 25); simpa using this, Nat.le_refl _, by unfold maxLen; omega, rfl, rfl⟩⟩
  case round =>
   obtain ⟨i, m, cl, S, done, rows, rfl, rfl, hi, hown, hrows, hE, hm1, hbel⟩ := hrel
   by_cases hin : i < n2
   · have hPr := hP.belowN hbel hB
     obtain ⟨b, off, q, A', n', c', A2', n2', c2', rfl, hbS, hq, hqa, x0, x1, x2, x3, x4, x5, x6⟩ := hPr.cells7 hin
     have hE1 := hE.out.1
     rw [hq, flatsD] at hE1
     have hlq : (flatD q).length ≤ k ∧ m + (flatD q).length ≤ 1000 := by
      have h1 := congrArg List.length hE1
      have h2 := Hk.out
      have h3 := hE.out.2
      simp only [List.length_append] at h1
      omega
     obtain ⟨W, hW⟩ : ∃ W, W = wr.alloc (.cells #[str q.type, str q.cs, str q.id, str q.loc, .int .i64 q.how, .slice A' n' c', .slice A2' n2' c2'] 25) := ⟨_, rfl⟩
     have hbW : Below wr.heap.size wr W := by rw [hW]; exact (Below.refl _ wr).alloc (Nat.le_refl _) _
     have hbelW := hbel.trans (hbW.mono hbel.size)
     have hqa2 : PartAt (· < B) W q [str q.type, str q.cs, str q.id, str q.loc, .int .i64 q.how, .slice A' n' c', .slice A2' n2' c2'] := hqa.belowN hbW (Nat.le_trans hB hbel.size)
     have hcl := Hih.out q _ B W hlq.1 (by omega) (Nat.le_trans hB hbelW.size) hqa2
     have hownW := own_below hown hbW
     have hrowsW := PartsAt.change (fun _ h => h) (fun a ha => hbW.cell (Nat.lt_of_lt_of_le ha (Nat.le_trans hB hbel.size))) _ _ hrows
     have hE2 : Hid ((done ++ flatD q) ++ flatsD (p.parts.drop (i + 1)) = L ∧ (done ++ flatD q).length = m + (flatD q).length) := ⟨by rw [List.append_assoc]; exact hE1, by rw [List.length_append, hE.out.2]⟩
     generalize flatD q = F at hcl hE2 hlq
     have Hcl := Lib.hid hcl
     clear hE hE1 hq hqa hqa2 hcl hPr hown hrows hbW hbel
     go_wp2_with fail
     rw [← hW]
     clear hW x0 x1 x2 x3 x4 x5 x6
     refine Hcl.out.mono ?_
     rintro e w1 ⟨S2, c2, rows2, rfl, hown2, hrows2, hb1⟩
     have hown1 := own_below hownW hb1
     have hrows1 := PartsAt.change (fun _ h => h) (fun a ha => hb1.cell (Nat.lt_of_lt_of_le ha (Nat.le_trans hB hbelW.size))) _ _ hrowsW
     have hbel1 := hbelW.trans (hb1.mono hbelW.size)
     have hone := PartsAt.one _ _ hrows2
     have hsl := Sl.of_own hown2
     have h63 : m + F.length ≤ maxLen := by unfold maxLen; omega
     have h47 : (m + F.length) * 120 ≤ 140737488355328 := by omega
     clear hownW hrowsW hown2 hb1 hbelW Hcl
     go_wp2_with (at_builtin; refine wpList_app rfl _ _ 23 rfl w.heap.size 25 i0 (Value.agg #[.string ⟨#[]⟩, .string ⟨#[]⟩, .string ⟨#[]⟩, .string ⟨#[]⟩, .int .i64 0, .slice none 0 0, .slice none 0 0]) 7 120 Tryz.underlying23 hi0 hz0 hz1 hz2 rfl (by decide) S m cl rows.flatten rfl hown1 _ S2 F.length c2 rows2.flatten rfl hsl hone h63 h47 hbel1.size ?_)
     intro S' c' w4 hown4 hb4 _
     have hbel4 := hbel1.trans hb4
     have hr1 := PartsAt.change (fun _ h => h) (fun a ha => hb4.cell (Nat.lt_of_lt_of_le ha hB)) _ _ hrows1
     have hr2 := PartsAt.change (fun _ h => h) (fun a ha => hb4.cell (Nat.lt_of_lt_of_le ha hB)) _ _ hrows2
     clear hrows1 hrows2
     go_wp2_with fail
     exact ⟨⟨i + 1, m + F.length, c', S', done ++ F, rows ++ rows2, rfl, by go_num, by omega, by rw [List.flatten_append]; exact hown4, PartsAt.app _ _ _ _ hr1 hr2, hE2, by omega, hbel4⟩, by simp [intOf]; omega⟩
   · have hE1 : Hid (done = L ∧ L.length = m) := by
      have h1 := hE.out.1
      rw [List.drop_of_length_le (by rw [hP.len]; omega), flatsD, List.append_nil] at h1
      exact ⟨h1, by rw [← h1]; exact hE.out.2⟩
     clear hE
     go_wp2_with fail
     go_ret
     obtain ⟨rfl, rfl⟩ := hE1.out
     exact ⟨S, cl, rows, rfl, hown, hrows, hbel⟩
theorem AllRes.slp {B : Nat} {ps : List PartD} {w w' : World} {S : Option Addr} {c : Nat} {rows : List (List Value)} (hown : w'.ownsRow w.heap.size 25 7 (.slice S ps.length c) ps.length rows.flatten) (hr : PartsAt (· < B) w' ps rows) (hB : B ≤ w'.heap.size) :
 SlP (· < w'.heap.size) w' S ps.length ps := ⟨rows, Sl.of_own hown, PartsAt.change (fun _ h => Nat.lt_of_lt_of_le h hB) (fun _ _ => rfl) _ _ hr⟩
def ChkRel (L : List PartD) (R : Nat) (_w0 w1 : World) (iv : Value) (wr : World) : Prop :=
 ∃ i : Nat, iv = .int .i64 (i : Nat) ∧ i ≤ L.length ∧ Hid (firstErr (L.drop i) = R) ∧ Below w1.heap.size w1 wr
theorem PCheck_any (p : PartD) (v : List Value) (w : World) (hp : PartAt (· < w.heap.size) w p v) :
 Calls Tryz.prog 16 #[.agg v.toArray] w fun e w' => e = .returned (.int .i64 (checkD p : Nat)) ∧ Below w.heap.size w w' := by
 have hfl := fun c => cntD_flat 3 p c
 have hcle := fun c => cntD_le 3 p c
 have hck1 := checkD_none p
 have hck2 := fun c => checkD_some p c
 obtain ⟨A, c, A2, c2, rfl, _⟩ := hp.open
 obtain ⟨W, hW⟩ : ∃ W, W = w.alloc (.cells #[str p.type, str p.cs, str p.id, str p.loc, .int .i64 p.how, .slice A p.body.length c, .slice A2 p.parts.length c2] 25) := ⟨_, rfl⟩
 have hbW : Below w.heap.size w W := by rw [hW]; exact (Below.refl _ w).alloc (Nat.le_refl _) _
 have hbx : Box7 W w.heap.size (str p.type) (str p.cs) (str p.id) (str p.loc) (.int .i64 p.how) (.slice A p.body.length c) (.slice A2 p.parts.length c2) := by rw [hW]; exact Box7.new w _ _ _ _ _ _ _ _
 have hpW := hp.below hbW
 have hct := count_any 3 p _ 1 W (by omega) (by omega) (hpW.more hbW.size)
 obtain ⟨n2, hn2⟩ : ∃ n2, n2 = p.parts.length := ⟨_, rfl⟩
 obtain ⟨n1, hn1⟩ : ∃ n1, n1 = p.body.length := ⟨_, rfl⟩
 have Hp := Lib.hid hp
 have HpW := Lib.hid hpW
 have HW := Lib.hid hW
 generalize checkD p = R at hck1 hck2 ⊢
 generalize cntD 3 p = o at hct hfl hcle hck1 hck2
 cases o with
 | none =>
  obtain rfl : R = 2 := hck1 rfl
  simp only [cntVal] at hct
  clear hck1 hck2 hfl hcle hp hpW hn1 hn2
  go_enter Tryz.func16, Tryz.ntmps16
  go_wp2_with fail
  rw [← hW]
  clear hW
  refine hct.mono ?_
  clear hct
  rintro e w1 ⟨rfl, hb1⟩
  go_wp2_with fail
  go_ret
  exact ⟨rfl, hbW.trans (hb1.mono hbW.size)⟩
 | some c0 =>
  have h1 := hck2 c0 rfl
  have h2 := hfl c0 rfl
  have h3 := hcle c0 rfl
  obtain ⟨h31, h32⟩ := h3
  simp only [cntVal] at hct
  obtain ⟨L, hL⟩ : ∃ L, L = flatD p := ⟨_, rfl⟩
  rw [← hL] at h1 h2
  have HR := Lib.hid h1
  have HL := Lib.hid hL
  have HLc := Lib.hid h2
  have hlen : L.length ≤ 12 := by omega
  have Hct := Lib.hid hct
  clear hck1 hck2 hfl hcle hp hpW hn1 hn2 h1 h2 hL hct
  go_enter Tryz.func16, Tryz.ntmps16
  go_wp2_with fail
  rw [← hW]
  clear hW
  refine Hct.out.mono ?_
  clear Hct
  rintro e w1 ⟨rfl, hb1⟩
  have hbx1 := hbx.below hb1
  have hbel1 := hbW.trans (hb1.mono hbW.size)
  have hp1 := Hp.out.below hbel1
  have hal := all_any 12 p _ w.heap.size w1 (by rw [← HL.out]; exact hlen) (by omega) hbel1.size hp1
  rw [← HL.out] at hal
  have Hal := Lib.hid hal
  have ⟨x0, x1, x2, x3, x4, x5, x6⟩ := hbx1
  clear hbx hbx1 hp1 hal hb1 hbW
  go_wp2_with fail
  refine Hal.out.mono ?_
  clear Hal x0 x1 x2 x3 x4 x5 x6
  rintro e w2 ⟨S, c3, rows, rfl, hown, hrows, hb2⟩
  have hbel2 := hbel1.trans (hb2.mono hbel1.size)
  have hP := AllRes.slp hown hrows hbel2.size
  clear hown hrows
  go_wp2_with fail
  go_loopw [18] (ChkRel L R w w2) (fun iv _ => L.length - (intOf iv).toNat)
  case atStart => exact ⟨0, rfl, Nat.zero_le _, HR.out.symm, Below.refl _ _⟩
  case round =>
   obtain ⟨i, rfl, hi, hE, hbel⟩ := hrel
   by_cases hin : i < L.length
   · have hPr := hP.below hbel
     obtain ⟨b, off, q, A', n', c', A2', n2', c2', rfl, hbS, hq, hqa, x0, x1, x2, x3, x4, x5, x6⟩ := hPr.cells7 hin
     have hck := fun W => check_at q _ hqa W
     have hE2 : Hid (R = if chkD q = 0 then firstErr (L.drop (i + 1)) else chkD q) := by show R = _; rw [← hE.out, hq, firstErr]
     generalize chkD q = e at hck hE2
     have Hck := Lib.hid hck
     have hbA := hbel.alloc hbel.size (.cells #[str q.type, str q.cs, str q.id, str q.loc, .int .i64 q.how, .slice A' n' c', .slice A2' n2' c2'] 25)
     clear hck hqa hq hPr hE
     go_wp2_with fail
     refine (Hck.out _).mono ?_
     rintro e1 w3 ⟨rfl, hb3⟩
     have hbel3 := hbA.trans (hb3.mono hbA.size)
     clear Hck x0 x1 x2 x3 x4 x5 x6 hbA hb3
     by_cases he : e = 0
     · subst he
       have hE3 : Hid (firstErr (L.drop (i + 1)) = R) := by have := hE2.out; rw [if_pos rfl] at this; exact this.symm
       clear hE2
       go_wp2_with fail
       exact ⟨⟨i + 1, by go_num, by omega, hE3, hbel3⟩, by simp [intOf]; omega⟩
     · obtain rfl : R = e := by have := hE2.out; rw [if_neg he] at this; exact this
       have he1 : ((R : Int) != 0) = true := by simp; omega
       clear hE2 he
       go_wp2_with fail
       go_ret
       exact ⟨rfl, hbel2.trans (hbel3.mono hbel2.size)⟩
   · obtain rfl : 0 = R := by rw [← hE.out, List.drop_of_length_le (by omega)]; rfl
     clear hE
     go_wp2_with fail
     go_ret
     exact ⟨rfl, hbel2.trans (hbel.mono hbel2.size)⟩
/-- Seven cells of one block, none of them frozen. -/
def BoxF (w : World) (b : Nat) (v0 v1 v2 v3 v4 v5 v6 : Value) : Prop := Box7 w b v0 v1 v2 v3 v4 v5 v6 ∧ ∀ k, w.frozen? ⟨b, k, none⟩ = false
section
variable {w w' : World} {b : Nat} {v0 v1 v2 v3 v4 v5 v6 : Value}
theorem BoxF.below (h : BoxF w b v0 v1 v2 v3 v4 v5 v6) {C : Nat} (hb : Below C w w') (hC : b < C) : BoxF w' b v0 v1 v2 v3 v4 v5 v6 := by
 obtain ⟨⟨h0, h1, h2, h3, h4, h5, h6⟩, hf⟩ := h
 exact ⟨⟨(hb.cell (p := ⟨b, 0, none⟩) hC).trans h0, (hb.cell (p := ⟨b, 1, none⟩) hC).trans h1, (hb.cell (p := ⟨b, 2, none⟩) hC).trans h2, (hb.cell (p := ⟨b, 3, none⟩) hC).trans h3, (hb.cell (p := ⟨b, 4, none⟩) hC).trans h4, (hb.cell (p := ⟨b, 5, none⟩) hC).trans h5, (hb.cell (p := ⟨b, 6, none⟩) hC).trans h6⟩, fun k => (hb.frozen (p := ⟨b, k, none⟩) hC).trans (hf k)⟩
theorem BoxF.of_block {t : TypeId} (h : w.heap[b]? = some (.cells #[v0, v1, v2, v3, v4, v5, v6] t)) : BoxF w b v0 v1 v2 v3 v4 v5 v6 := by
 refine ⟨⟨?_, ?_, ?_, ?_, ?_, ?_, ?_⟩, fun k => Lib.frozen_of_heap h k⟩ <;> (unfold World.cell?; rw [h]; rfl)
theorem BoxF.set7 (h : BoxF w b v0 v1 v2 v3 v4 v5 v6) (u0 u1 u2 u3 u4 u5 u6 : Value) :
 Box7 (((((((w.setCell ⟨b, 0, none⟩ u0).setCell ⟨b, 1, none⟩ u1).setCell ⟨b, 2, none⟩ u2).setCell ⟨b, 3, none⟩ u3).setCell ⟨b, 4, none⟩ u4).setCell ⟨b, 5, none⟩ u5).setCell ⟨b, 6, none⟩ u6) b u0 u1 u2 u3 u4 u5 u6 := by
 obtain ⟨⟨h0, h1, h2, h3, h4, h5, h6⟩, hf⟩ := h
 have o : ∀ (w : World) (i k : Nat) (u : Value), i ≠ k → (w.setCell ⟨b, i, none⟩ u).cell? ⟨b, k, none⟩ = w.cell? ⟨b, k, none⟩ := fun w i k u hik => World.cell?_setCell_other _ _ _ _ (by intro e; injection e with _ e; exact hik e)
 have s : ∀ (w : World) (k : Nat) (u v : Value), w.cell? ⟨b, k, none⟩ = some v → (w.setCell ⟨b, k, none⟩ u).cell? ⟨b, k, none⟩ = some u := fun w k u v h => World.cell?_setCell_same _ _ _ h
 refine ⟨?_, ?_, ?_, ?_, ?_, ?_, ?_⟩
 · rw [o _ 6 0 _ (by decide), o _ 5 0 _ (by decide), o _ 4 0 _ (by decide), o _ 3 0 _ (by decide), o _ 2 0 _ (by decide), o _ 1 0 _ (by decide)]
   refine s _ 0 _ v0 ?_
   exact h0
 · rw [o _ 6 1 _ (by decide), o _ 5 1 _ (by decide), o _ 4 1 _ (by decide), o _ 3 1 _ (by decide), o _ 2 1 _ (by decide)]
   refine s _ 1 _ v1 ?_
   rw [o _ 0 1 _ (by decide)]
   exact h1
 · rw [o _ 6 2 _ (by decide), o _ 5 2 _ (by decide), o _ 4 2 _ (by decide), o _ 3 2 _ (by decide)]
   refine s _ 2 _ v2 ?_
   rw [o _ 1 2 _ (by decide), o _ 0 2 _ (by decide)]
   exact h2
 · rw [o _ 6 3 _ (by decide), o _ 5 3 _ (by decide), o _ 4 3 _ (by decide)]
   refine s _ 3 _ v3 ?_
   rw [o _ 2 3 _ (by decide), o _ 1 3 _ (by decide), o _ 0 3 _ (by decide)]
   exact h3
 · rw [o _ 6 4 _ (by decide), o _ 5 4 _ (by decide)]
   refine s _ 4 _ v4 ?_
   rw [o _ 3 4 _ (by decide), o _ 2 4 _ (by decide), o _ 1 4 _ (by decide), o _ 0 4 _ (by decide)]
   exact h4
 · rw [o _ 6 5 _ (by decide)]
   refine s _ 5 _ v5 ?_
   rw [o _ 4 5 _ (by decide), o _ 3 5 _ (by decide), o _ 2 5 _ (by decide), o _ 1 5 _ (by decide), o _ 0 5 _ (by decide)]
   exact h5
 · refine s _ 6 _ v6 ?_
   rw [o _ 5 6 _ (by decide), o _ 4 6 _ (by decide), o _ 3 6 _ (by decide), o _ 2 6 _ (by decide), o _ 1 6 _ (by decide), o _ 0 6 _ (by decide)]
   exact h6
/-- A store into another block. -/
theorem BoxF.setFar (h : BoxF w b v0 v1 v2 v3 v4 v5 v6) {p : Addr} (hp : p.block ≠ b) (u : Value) : BoxF (w.setCell p u) b v0 v1 v2 v3 v4 v5 v6 := by
 obtain ⟨⟨h0, h1, h2, h3, h4, h5, h6⟩, hf⟩ := h
 have far : ∀ k v, w.cell? ⟨b, k, none⟩ = some v → (w.setCell p u).cell? ⟨b, k, none⟩ = some v := fun k v h => by
  rw [World.cell?_setCell_other _ _ _ _ (by rintro rfl; exact hp rfl)]; exact h
 exact ⟨⟨far 0 _ h0, far 1 _ h1, far 2 _ h2, far 3 _ h3, far 4 _ h4, far 5 _ h5, far 6 _ h6⟩, fun k => by simpa using hf k⟩
theorem own_setFar {base : Nat} {e : TypeId} {size : Nat} {v : Value} {n : Nat} {xs : List Value} (h : w.ownsRow base e size v n xs) {p : Addr} (hp : v.ownBlock ≠ some p.block) (u : Value) : (w.setCell p u).ownsRow base e size v n xs := by
 rcases h with ⟨hl, h | ⟨g, cap, cur, hv, hb, hg, h1, h2, h3, h4⟩⟩
 · exact ⟨hl, .inl h⟩
 · refine ⟨hl, .inr ⟨g, cap, cur, hv, hb, ?_, h1, h2, h3, h4⟩⟩
   rw [← hg]
   refine heap_setCell_other w p g u fun e => hp ?_
   rw [hv, e]; rfl
theorem own_base {base base' : Nat} {e : TypeId} {size : Nat} {v : Value} {n : Nat} {xs : List Value} (h : w.ownsRow base e size v n xs) (hb : base' ≤ base) : w.ownsRow base' e size v n xs := by
 rcases h with ⟨hl, h | ⟨g, cap, cur, hv, hb', hg, h1⟩⟩
 · exact ⟨hl, .inl h⟩
 · exact ⟨hl, .inr ⟨g, cap, cur, hv, Nat.le_trans hb hb', hg, h1⟩⟩
theorem own_sls {base : Nat} {e : TypeId} {size : Nat} {S : Option Addr} {n c : Nat} {xs : List Value} (h : w.ownsRow base e size (.slice S n c) n xs) : SlS (fun b => base ≤ b ∧ b < w.heap.size) w size S n xs := by
 refine ⟨h.1, fun hn => ?_⟩
 obtain ⟨g, cap, hv, hb, hl⟩ := h.form hn
 injection hv with hS
 subst hS
 obtain ⟨b, off, hA, _, hc⟩ := (Sl.of_own h).2 hn
 injection hA with hA
 injection hA with h1 h2
 subst h1
 subst h2
 exact ⟨g, 0, rfl, ⟨hb, hl⟩, hc⟩
theorem own_capmax {base : Nat} {e : TypeId} {size : Nat} {S : Option Addr} {n c : Nat} {xs : List Value} (h : w.ownsRow base e size (.slice S n c) n xs) : c ≤ maxLen := by
 rcases h.2 with ⟨hv, h0⟩ | ⟨g', cap', cur', hv', _, _, _, hcm, _⟩
 · injection hv with _ _ hc; rw [hc]; exact Nat.zero_le _
 · injection hv' with _ _ hcc; rw [hcc]; exact hcm
end
theorem Contains_any (s m : List UInt8) (w : World) (hM : MaxLenOk w) (hs : s.length ≤ 1000000) : Calls Tryz.prog 32 #[str s, str m] w fun e w' => e = .returned (.bool (hasS s m)) ∧ w = w' := by
 obtain ⟨k, hk⟩ := hM
 refine (Go.Proofs.Tryz.strings_Contains ⟨s.toArray⟩ ⟨m.toArray⟩ k w (by simp [ByteArray.size]; omega) hk).mono ?_
 rintro e w' ⟨rfl, rfl⟩
 exact ⟨rfl, rfl⟩
def PowOk (w : World) : Prop := Lib.TabIs Tryz.prog w "internal/strconv.uint64pow10" .u64 Lib.pow10Tab
theorem PowOk.below {w w' : World} (h : PowOk w) (hb : Below w.heap.size w w') : PowOk w' := by
 unfold PowOk Lib.TabIs World.var? at *
 cases hg : Tryz.prog.globalNamed "internal/strconv.uint64pow10" with
 | none => simp [hg] at h
 | some g =>
  simp only [hg, Option.bind_some] at h ⊢
  have hlt : g < w.heap.size := by
   rcases Nat.lt_or_ge g w.heap.size with h' | h'
   · exact h'
   · rw [Array.getElem?_eq_none h'] at h; simp at h
  rw [hb.block g hlt]
  exact h
theorem Itoa_any (n : Nat) (hn : n ≤ 9223372036854775807) (w : World) (h : PowOk w) : Calls Tryz.prog 29 #[.int .i64 (n : Nat)] w fun e w' => e = .returned (str (Lib.decDigits n)) ∧ Below w.heap.size w w' := by
 refine (Go.Proofs.Tryz.strconv_Itoa (n : Int) (by omega) (by omega) w h).mono ?_
 rintro e w' ⟨rfl, k, os, rfl⟩
 refine ⟨?_, below_grown w k os⟩
 have : Lib.itoa (n : Int) = Lib.decDigits n := by unfold Lib.itoa; rw [if_neg (by omega)]; simp
 rw [this]
 rfl
theorem JoinNl_any (l : List (List UInt8)) (S : Option Addr) (c B : Nat) (w : World) (h : Sl w B 1 S l.length (l.map str)) (hB : B ≤ w.heap.size) (hc : l.length ≤ c) (hn : l.length ≤ 1000) (hlen : (nlJ l).length ≤ 1000000) :
 Calls Tryz.prog 33 #[.slice S l.length c, .string ⟨#[10]⟩] w fun e w' => e = .returned (str (nlJ l)) ∧ Below w.heap.size w w' := by
 have hj := join_nl l
 rcases l with _ | ⟨x, r⟩
 · refine (Go.Proofs.Tryz.strings_Join_none S c ⟨#[10]⟩ w).mono ?_
   rintro e w' ⟨rfl, rfl⟩
   exact ⟨rfl, Below.refl _ _⟩
 · obtain ⟨b, off, rfl, hb, hcell⟩ := h.2 (by simp)
   have e1 : ((x :: r).map fun l => (⟨l.toArray⟩ : ByteArray)).map (fun s => s.data.toList) = x :: r := by
    rw [List.map_map]
    conv => rhs; rw [← List.map_id (x :: r)]
    exact List.map_congr_left fun _ _ => rfl
   have hk := Go.Proofs.Tryz.strings_Join b off c ((x :: r).map fun l => (⟨l.toArray⟩ : ByteArray)) ⟨#[10]⟩ w (fun j y hy => by
    refine hcell j _ ?_
    rw [List.getElem?_map] at hy ⊢
    cases hq : (x :: r)[j]? with
    | none => rw [hq] at hy; cases hy
    | some z => rw [hq] at hy; simp at hy; subst hy; rfl) (Nat.lt_of_lt_of_le hb hB) (by simp at hn ⊢; omega) (by simpa using hc) (by rw [e1, show ((⟨#[10]⟩ : ByteArray).data.toList) = [10] from rfl, hj]; omega)
   rw [e1, show ((⟨#[10]⟩ : ByteArray).data.toList) = [10] from rfl, hj] at hk
   simp only [List.length_map] at hk
   exact hk
end Go.Proofs.YtinfjdfhkfhgjaaGreatDoor
namespace Go.Proofs.YtinfjdfhkfhgjaaGreatDoor
open Go.ChangeShapes Go.WideShapes Go.ChangeAt Go.RowKit
def powName (x : String × DataW Unit) : Bool := x.1 == "internal/strconv.uint64pow10"
/-- What a row's laid table gives. -/
theorem powOk_of_laid {W : World} {laid : List (String × DataW Unit)} (h : laidMetH Tryz.prog laid W) (e : laid.filter powName = [("internal/strconv.uint64pow10", Rows.laid_internal_strconv_uint64pow10)]) : PowOk W := by
 have h1 := h.filter powName
 rw [e, MakeChecks.laidMetH_plain _ _ _ (by kernel_rfl), show (Rows.laid_internal_strconv_uint64pow10 : DataW Unit) = Lib.tabData .u64 Lib.pow10Tab by kernel_rfl] at h1
 exact Lib.tabIs_of_head (g := 4) (t := 173) (e := 110) (n := 20) (by kernel_rfl) (by kernel_rfl) Tryz.underlying173 Tryz.underlying110 (by kernel_rfl) (by kernel_rfl) h1
end Go.Proofs.YtinfjdfhkfhgjaaGreatDoor
namespace Go.Proofs.YtinfjdfhkfhgjaaGreatDoor
theorem drop_at (b : List UInt8) (i : Nat) (h : i < b.length) : ∃ c, c.toNat = nth b i ∧ b.drop i = c :: b.drop (i + 1) :=
 ⟨b[i], by rw [nth_of b i h], List.drop_eq_getElem_cons h⟩
theorem decQ_plain (b : List UInt8) (i : Nat) (h : i < b.length) (h61 : nth b i ≠ 61) : decQ (b.drop i) = (decQ (b.drop (i + 1))).map (UInt8.ofNat (nth b i) :: ·) := by
 obtain ⟨c, hc, hd⟩ := drop_at b i h
 rw [hd]
 conv => lhs; unfold decQ
 rw [if_neg (by rw [hc]; simpa using h61), ← hc, UInt8.ofNat_toNat]
theorem decQ_short (b : List UInt8) (i : Nat) (h : i < b.length) (h61 : nth b i = 61) (h2 : b.length ≤ i + 2) : decQ (b.drop i) = none := by
 obtain ⟨c, hc, hd⟩ := drop_at b i h
 rw [hd]
 have hl : (b.drop (i + 1)).length ≤ 1 := by simp; omega
 unfold decQ
 rw [if_pos (by rw [hc]; simpa using h61)]
 split
 · rename_i e; have := congrArg List.length e; simp at this; omega
 · rfl
theorem decQ_two (b : List UInt8) (i : Nat) (h61 : nth b i = 61) (h2 : i + 2 < b.length) :
 decQ (b.drop i) = if decide (hexQ (nth b (i + 1)) < 0) || decide (hexQ (nth b (i + 2)) < 0) then none else (decQ (b.drop (i + 3))).map (UInt8.ofNat ((hexQ (nth b (i + 1))).toNat * 16 + (hexQ (nth b (i + 2))).toNat) :: ·) := by
 obtain ⟨c, hc, hd⟩ := drop_at b i (by omega)
 obtain ⟨c1, hc1, hd1⟩ := drop_at b (i + 1) (by omega)
 obtain ⟨c2, hc2, hd2⟩ := drop_at b (i + 1 + 1) (by omega)
 rw [hd, hd1, hd2]
 conv => lhs; unfold decQ
 rw [if_pos (by rw [hc]; simpa using h61)]
 simp only [hc1, hc2]
theorem decQ_bad (b : List UInt8) (i : Nat) (h61 : nth b i = 61) (h2 : i + 2 < b.length) (h : hexQ (nth b (i + 1)) < 0 ∨ hexQ (nth b (i + 2)) < 0) : decQ (b.drop i) = none := by
 rw [decQ_two b i h61 h2, if_pos (by simpa using h)]
theorem decQ_ok (b : List UInt8) (i : Nat) (h61 : nth b i = 61) (h2 : i + 2 < b.length) (h : 0 ≤ hexQ (nth b (i + 1))) (h' : 0 ≤ hexQ (nth b (i + 2))) :
 decQ (b.drop i) = (decQ (b.drop (i + 3))).map (UInt8.ofNat ((hexQ (nth b (i + 1))).toNat * 16 + (hexQ (nth b (i + 2))).toNat) :: ·) := by
 rw [decQ_two b i h61 h2, if_neg (by simp; omega)]
theorem hexQ_bd (x : Nat) : -1 ≤ hexQ x ∧ hexQ x < 16 := by
 unfold hexQ
 exact idxI_bd digits _
/-- What stands behind the line. -/
def behindQ (k : Nat) (s : List UInt8) : Option (List UInt8) → List UInt8 × Nat
 | none => ([], 1)
 | some y => if 4000 < (y ++ endQ s).length then ([], 2) else linesQ k (Lib.cut s [10]).2.1 (y ++ endQ s)
theorem linesQ_step (k : Nat) (s out : List UInt8) (h : s ≠ []) : linesQ (k + 1) s out = behindQ k s ((decQ (bareQ (trimQ (Lib.cut s [10]).1))).map (out ++ ·)) := by
 conv => lhs; unfold linesQ
 rw [if_neg (by simpa using h)]
 cases decQ (bareQ (trimQ (Lib.cut s [10]).1)) <;> rfl
theorem linesQ_end (k : Nat) (out : List UInt8) : linesQ k [] out = (out, 0) := by cases k <;> simp [linesQ]
theorem map_app (o : Option (List UInt8)) (out : List UInt8) (c : UInt8) : (o.map (c :: ·)).map (out ++ ·) = o.map ((out ++ [c]) ++ ·) := by
 cases o <;> simp
theorem cut10_len (s : List UInt8) (h : s ≠ []) : (Lib.cut s [10]).1.length ≤ s.length ∧ (Lib.cut s [10]).2.1.length < s.length := by
 have hp : 0 < s.length := List.length_pos_iff.2 h
 unfold Lib.cut
 split
 · simp; omega
 · simp; omega
theorem dropWhile_le (p : UInt8 → Bool) (l : List UInt8) : (l.dropWhile p).length ≤ l.length := (List.dropWhile_sublist p).length_le
theorem trimQ_len (l : List UInt8) : (trimQ l).length ≤ l.length := by
 unfold trimQ Lib.trimRightS
 rw [List.length_reverse]
 have := dropWhile_le (([32, 9, 13] : List UInt8).contains ·) l.reverse
 simpa using this
theorem soft_pos (l : List UInt8) (h : softQ l = true) : 0 < l.length := by
 cases l with
 | nil => simp [softQ, Lib.hasSuffix] at h
 | cons _ _ => simp
end Go.Proofs.YtinfjdfhkfhgjaaGreatDoor

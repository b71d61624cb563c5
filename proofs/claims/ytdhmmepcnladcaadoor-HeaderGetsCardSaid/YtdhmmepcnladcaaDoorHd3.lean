import Derived.Test.YtdhmmepcnladcaaDoorHd2
import Derived.Deep.RegionWith
namespace Go.Proofs.YtdhmmepcnladcaaDoor
open Go.RowKit

/-! ### header.Parse: the plain steps -/
theorem chop_eq (l : List UInt8) : Lib.trimSuffix l [13] = chopF l := rfl
theorem lines_no {k : Nat} {s : List UInt8} {l : List FieldD} (h : (Lib.cut s [10]).2.2 = false) : linesF (k + 1) s l = ([], [], 1) := by
  rw [linesF, if_pos h]
theorem lines_end {k : Nat} {s : List UInt8} {l : List FieldD} (h : (Lib.cut s [10]).2.2 = true) (h2 : chopF (Lib.cut s [10]).1 = []) : linesF (k + 1) s l = if chkF l = 0 then (l, (Lib.cut s [10]).2.1, 0) else ([], [], chkF l) := by
  rw [linesF, if_neg (by rw [h]; simp), if_pos h2]
theorem lines_bad {k : Nat} {s : List UInt8} {l : List FieldD} (h : (Lib.cut s [10]).2.2 = true) (h2 : chopF (Lib.cut s [10]).1 ≠ []) (h3 : goF l (chopF (Lib.cut s [10]).1) = none) : linesF (k + 1) s l = ([], [], 1) := by
  rw [linesF, if_neg (by rw [h]; simp), if_neg h2, h3]
theorem lines_go {k : Nat} {s : List UInt8} {l m : List FieldD} (h : (Lib.cut s [10]).2.2 = true) (h2 : chopF (Lib.cut s [10]).1 ≠ []) (h3 : goF l (chopF (Lib.cut s [10]).1) = some m) : linesF (k + 1) s l = if 20 < m.length then ([], [], 2) else linesF k (Lib.cut s [10]).2.1 m := by
  rw [linesF, if_neg (by rw [h]; simp), if_neg h2, h3]
/-- How many bytes fields hold. -/
def wtF (l : List FieldD) : Nat := (l.map fun f => f.name.length + f.value.length).sum
theorem wtF_app (a b : List FieldD) : wtF (a ++ b) = wtF a + wtF b := by simp [wtF]
theorem wtF_mem : ∀ {l : List FieldD} {f : FieldD}, f ∈ l → f.name.length + f.value.length ≤ wtF l
  | [], _, h => by cases h
  | x :: l, f, h => by
    have e : wtF (x :: l) = x.name.length + x.value.length + wtF l := by simp [wtF]
    rw [e]
    rcases List.mem_cons.1 h with rfl | h
    · omega
    · have := wtF_mem h
      omega
theorem wtF_small {l : List FieldD} {N : Nat} (h : wtF l ≤ N) (hN : N ≤ maxLen) : smallF l := by
  intro f hf
  have := wtF_mem hf
  omega
theorem chop_len (l : List UInt8) : (chopF l).length ≤ l.length := by
  unfold chopF
  split
  · simp
  · exact Nat.le_refl _
theorem cut_sum {s : List UInt8} {c : UInt8} (h : (Lib.cut s [c]).2.2 = true) : s.length = (Lib.cut s [c]).1.length + 1 + (Lib.cut s [c]).2.1.length := by
  have := congrArg List.length (cut_backT s c h)
  simp only [List.length_append, List.length_cons] at this
  omega
theorem more_snoc (init : List FieldD) (f : FieldD) (line : List UInt8) : moreF (init ++ [f]) line = init ++ [{ f with value := Lib.trimS (f.value ++ 32 :: Lib.trimS line [32, 9]) [32] }] := by
  unfold moreF
  rw [List.getLast?_append]
  simp
theorem more_wt (init : List FieldD) (f : FieldD) (line : List UInt8) : wtF (moreF (init ++ [f]) line) ≤ wtF (init ++ [f]) + line.length + 1 := by
  rw [more_snoc, wtF_app, wtF_app]
  have h1 := trim_len (f.value ++ 32 :: Lib.trimS line [32, 9]) [32]
  have h2 := trim_len line [32, 9]
  simp only [List.length_append, List.length_cons] at h1
  simp [wtF]
  omega
theorem fieldC_put (init : List FieldD) (f : FieldD) (v : List UInt8) : (fieldC (init ++ [f])).set (init.length * 2 + 1) (str v) = fieldC (init ++ [{ f with value := v }]) := by
  rw [fieldC_app, fieldC_app, List.set_append_right _ _ (by rw [fieldC_len]; omega), fieldC_len, show init.length * 2 + 1 - init.length * 2 = 1 from by omega]
  rfl
theorem blank_32 {x : Nat} (h : x = 32) : blankF x = true := by subst h; rfl
theorem blank_9 {x : Nat} (h : x = 9) : blankF x = true := by subst h; rfl
theorem blank_no {x : Nat} (h : x ≠ 32) (h2 : x ≠ 9) : blankF x = false := by simp [blankF, h, h2]
theorem goF_blank0 {l : List FieldD} {line : List UInt8} (h : blankF (nth line 0) = true) (h0 : l = []) : goF l line = none := by unfold goF; rw [if_pos h, if_pos h0]
theorem goF_blank {l : List FieldD} {line : List UInt8} (h : blankF (nth line 0) = true) (h0 : l ≠ []) : goF l line = some (moreF l line) := by unfold goF; rw [if_pos h, if_neg h0]
theorem goF_none {l : List FieldD} {line : List UInt8} (h : blankF (nth line 0) = false) (h0 : (Lib.cut line [58]).2.2 = false) : goF l line = none := by unfold goF; rw [if_neg (by rw [h]; simp), if_neg (by rw [h0]; simp)]
theorem goF_new {l : List FieldD} {line : List UInt8} (h : blankF (nth line 0) = false) (h0 : (Lib.cut line [58]).2.2 = true) : goF l line = some (l ++ [⟨(Lib.cut line [58]).1, Lib.trimS (Lib.cut line [58]).2.1 [32, 9]⟩]) := by unfold goF; rw [if_neg (by rw [h]; simp), if_pos h0]
theorem new_wt (l : List FieldD) (line : List UInt8) (h0 : (Lib.cut line [58]).2.2 = true) : wtF (l ++ [⟨(Lib.cut line [58]).1, Lib.trimS (Lib.cut line [58]).2.1 [32, 9]⟩]) ≤ wtF l + line.length := by
  rw [wtF_app]
  have h1 := trim_len (Lib.cut line [58]).2.1 [32, 9]
  have h2 := cut_sum h0
  simp [wtF]
  omega

/-! ### header.Parse: the walk -/
theorem TrimSuffix13 (l : List UInt8) (w : World) (hl : l.length ≤ maxLen) : Calls Tryd.prog 104 #[str l, .string ⟨#[13]⟩] w fun e w' => e = .returned (str (chopF l)) ∧ w' = w :=
  Go.Proofs.Tryd.strings_TrimSuffix ⟨l.toArray⟩ ⟨#[13]⟩ w (by unfold maxLen at hl; simpa [ByteArray.size] using hl)
set_option maxHeartbeats 400000 in
theorem pfail_any (e : Nat) (w : World) : Calls Tryd.prog 103 #[.int .i64 (e : Nat)] w fun r w' => r = .returned (.tuple #[.slice none 0 0, .int .i64 0, .int .i64 (e : Nat)]) ∧ w' = w := by
  go_enter Tryd.func103, Tryd.ntmps103
  go_wp2_with fail
  go_ret3
  exact ⟨rfl, rfl⟩
/-- Fields, where what is behind them begins, what is wrong. -/
def ParseRes (r : List FieldD × Nat × Nat) (w : World) (e : Ending) (w' : World) : Prop :=
  ∃ S c, e = .returned (.tuple #[.slice S r.1.length c, .int .i64 (r.2.1 : Nat), .int .i64 (r.2.2 : Nat)]) ∧ Sl w' w'.heap.size 2 S r.1.length (fieldC r.1) ∧ smallF r.1 ∧ r.1.length ≤ c ∧ c ≤ maxLen ∧ Below w.heap.size w w'
theorem ParseRes.fail (e : Nat) {w w' : World} (hb : Below w.heap.size w w') : ParseRes ([], 0, e) w (.returned (.tuple #[.slice none 0 0, .int .i64 0, .int .i64 (e : Nat)])) w' :=
  ⟨none, 0, rfl, Sl.nil_ _ _ _ _, fun f h => (by cases h), Nat.le_refl _, Nat.zero_le _, hb⟩
/-- What the loop's end makes of it. -/
def finF (n : Nat) (r : List FieldD × List UInt8 × Nat) : List FieldD × Nat × Nat := if r.2.2 = 0 then (r.1, n - r.2.1.length, 0) else ([], 0, r.2.2)
theorem parseF_fin {b : List UInt8} (h : ¬ 40000 < b.length) : parseF b = finF b.length (linesF (b.length + 1) b []) := by unfold parseF finF; rw [if_neg h]
def PLRel (n : Nat) (R : List FieldD × List UInt8 × Nat) (w : World) (lv sv : Value) (wr : World) : Prop :=
  ∃ (k : Nat) (s : List UInt8) (out : List FieldD) (S : Option Addr) (m c : Nat), lv = .slice S m c ∧ sv = str s ∧ Hid (linesF k s out = R ∧ s.length < k ∧ out.length = m ∧ wtF out + s.length ≤ n) ∧ s.length ≤ n ∧ m ≤ 20 ∧ m ≤ c ∧ wr.ownsRow w.heap.size 46 2 (.slice S m c) m (fieldC out) ∧ Below w.heap.size w wr
theorem own_capF {w : World} {base : Nat} {e : TypeId} {size : Nat} {S : Option Addr} {n c : Nat} {xs : List Value} (h : w.ownsRow base e size (.slice S n c) n xs) : c ≤ maxLen := by
  rcases h.2 with ⟨hv, h0⟩ | ⟨g', cap', cur', hv', _, _, _, hcm, _⟩
  · injection hv with _ _ hc; rw [hc]; exact Nat.zero_le _
  · injection hv' with _ _ hcc; rw [hcc]; exact hcm
def strLn : Value → Nat | .string b => b.size | _ => 0
theorem strLn_str (l : List UInt8) : strLn (str l) = l.length := by simp [strLn, str, ByteArray.size]
end Go.Proofs.YtdhmmepcnladcaaDoor

import Derived.Test.YtlbdnohnngkapaaGreatDoorU4
import Derived.Test.YtlbdnohnngkapaaGreatDoorU1
import Derived.SliceStrings
import Derived.Test.YtlbdnohnngkapaaGreatDoorU6
import Derived.Test.YtlbdnohnngkapaaGreatDoorU11
namespace Go.Proofs.YtlbdnohnngkapaaGreatDoor
open Go.RowKit

/-! ### The text of MimeWraps, as it grows -/
def wtext (b ahead : List UInt8) (l : List (List UInt8)) : List UInt8 := ahead ++ l.flatMap (fun s => ([13, 10, 45, 45] ++ b ++ [13, 10]) ++ s)
theorem wtext_nil (b ahead : List UInt8) : wtext b ahead [] = ahead := by simp [wtext]
theorem wtext_snoc (b ahead s : List UInt8) (l : List (List UInt8)) : wtext b ahead (l ++ [s]) = wtext b ahead l ++ (([13, 10, 45, 45] ++ b ++ [13, 10]) ++ s) := by
  unfold wtext
  rw [List.flatMap_append]
  simp
theorem wtext_cons (b ahead s : List UInt8) (l : List (List UInt8)) : wtext b ahead (s :: l) = wtext b (ahead ++ (([13, 10, 45, 45] ++ b ++ [13, 10]) ++ s)) l := by
  unfold wtext
  rw [List.flatMap_cons]
  simp
theorem wtext_end (b behind : List UInt8) : ∀ (l : List (List UInt8)) (ahead : List UInt8), wtext b ahead l ++ ([13, 10, 45, 45] ++ b ++ [45, 45, 13, 10] ++ behind) = wrapT b ahead behind l
  | [], ahead => by
    rw [wtext_nil]
    unfold wrapT
    rw [wrapM]
    simp
  | k :: l, ahead => by
    rw [wtext_cons, wtext_end b behind l]
    unfold wrapT
    rw [wrapM]
    simp
theorem wtext_len (b : List UInt8) : ∀ (l : List (List UInt8)) (ahead : List UInt8), (wtext b ahead l).length = ahead.length + (l.map List.length).sum + l.length * (b.length + 6)
  | [], ahead => by rw [wtext_nil]; simp
  | s :: l, ahead => by
    have e : (l.length + 1) * (b.length + 6) = l.length * (b.length + 6) + (b.length + 6) := by rw [Nat.add_mul, Nat.one_mul]
    rw [wtext_cons, wtext_len b l, List.map_cons, List.sum_cons, List.length_cons, e]
    simp only [List.length_append, List.length_cons, List.length_nil]
    omega
theorem sum_take (l : List (List UInt8)) (k : Nat) : ((l.take k).map List.length).sum ≤ (l.map List.length).sum := by
  have h := congrArg List.sum (congrArg (List.map List.length) (List.take_append_drop k l))
  rw [List.map_append, List.sum_append] at h
  omega
/-- The border: a letter behind '=_'. -/
def bordW (k : Nat) : List UInt8 := [61, 95, UInt8.ofNat (97 + k)]
theorem bordW_ok : ∀ k : Fin 26, bordOk (bordW k.val) := by
  intro k
  refine ⟨by simp [bordW], by simp [bordW], ?_⟩
  have h : ∀ k : Fin 26, ∀ x ∈ bordW k.val, 32 < x.toNat ∧ x.toNat ≤ 126 ∧ x ≠ 34 := by decide +kernel
  exact h k
end Go.Proofs.YtlbdnohnngkapaaGreatDoor

namespace Go.Proofs.YtlbdnohnngkapaaGreatDoor
open Go.ChangeShapes Go.WideShapes Go.ChangeAt Go.RowKit

theorem bulk_strv {H : Type} : ∀ (ss : List ByteArray), ((ss.map (·.data.toList)).map List.length).sum + ss.length ≤ Rows.uptoBulkAll (strs ss : List (DataW H))
  | [] => Nat.le_refl _
  | s :: ss => by
    have ih := bulk_strv (H := H) ss
    show (s.data.toList.length :: (ss.map (·.data.toList)).map List.length).sum + (ss.length + 1) ≤ (s.data.toList.length + 1) + Rows.uptoBulkAll (strs ss : List (DataW H))
    rw [List.sum_cons]
    omega
set_option maxRecDepth 100000 in
/-- A slice of strings that came in, as a list of lists of bytes. -/
theorem open_strv {H : Type} {enc : TypeId × Value → H} {W : World} {base : Nat} {v : Value} {d : DataW H} {pl : List MemPlace}
    (hv : Value.okWide Tryz.prog W .any base 57 v) (h : DataW.Trod enc Tryz.prog W 0 (fun _ => true) true 57 v d pl) :
    ∃ (A : Option Addr) (n c : Nat) (ts : List (List UInt8)), v = .slice A n c ∧ Sl W W.heap.size 1 A n (ts.map str) ∧ n ≤ c ∧ c ≤ maxLen ∧ (∀ x ∈ ts, x.length ≤ maxLen) ∧ (ts.map List.length).sum + ts.length ≤ Rows.uptoBulk d := by
  obtain ⟨a0, len, cap, rfl⟩ := okWide_slice Tryz.underlying57 hv
  obtain ⟨fuel, hf⟩ := h
  rcases open_strings Tryz.underlying57 Tryz.underlying9 (by kernel_rfl) hf with ⟨hcs, _⟩ | ⟨x, l, c, ss, hcs, _, hl, hm, hz, hx, hcell, hsz⟩
  · simp [Value.cells] at hcs
    obtain ⟨rfl, rfl, rfl⟩ := hcs
    exact ⟨none, 0, 0, [], rfl, Sl.nil_ _ _ _ _, Nat.le_refl _, Nat.zero_le _, (fun x h => by cases h), Nat.zero_le _⟩
  · simp [Value.cells] at hcs
    obtain ⟨rfl, rfl, rfl⟩ := hcs
    have hz : ss.length = cap := by simpa using hz
    refine ⟨some x, len, cap, (ss.take len).map (·.data.toList), rfl, ⟨by simp; omega, fun h0 => ?_⟩, hl, hm, ?_, ?_⟩
    · obtain ⟨b, off, spot⟩ := x
      have hspot : spot = none := by simpa [Addr.add] using World.cell?_spot (hcell 0 (by omega))
      subst hspot
      refine ⟨b, off, rfl, ?_, fun j u hu => ?_⟩
      · exact cell_lt (by have := hcell 0 (by omega); exact this)
      · have hj : j < len := by
          rcases Nat.lt_or_ge j len with h' | h'
          · exact h'
          · rw [List.getElem?_eq_none (by simp; omega)] at hu; cases hu
        have hjz : j < ss.length := by omega
        rw [← Go.WideShapes.add_plain, hcell j hjz, ← hu]
        simp [List.getD, hjz, hj, str]
    · intro y hy
      obtain ⟨s, hs, rfl⟩ := List.mem_map.1 hy
      have := hsz s (List.mem_of_mem_take hs)
      simpa using this
    · simp only [Prod.mk.injEq] at hx
      rw [hx.1]
      have := bulk_strv (H := H) (ss.take len)
      rw [List.length_map]
      show _ ≤ Rows.uptoBulkAll (strs (ss.take len) : List (DataW H)) + _ + 1
      omega
end Go.Proofs.YtlbdnohnngkapaaGreatDoor

namespace Go.Proofs.YtlbdnohnngkapaaGreatDoor
open Go.RowKit

theorem strs_data (l : List (List UInt8)) : (l.map fun x => (⟨x.toArray⟩ : ByteArray)).map (fun s => s.data.toList) = l := by
  rw [List.map_map]
  conv => rhs; rw [← List.map_id l]
  exact List.map_congr_left fun _ _ => rfl
theorem JoinS_any (l : List (List UInt8)) (sep : List UInt8) (S : Option Addr) (c B : Nat) (w : World) (h : Sl w B 1 S l.length (l.map str)) (hB : B ≤ w.heap.size) (hc : l.length ≤ c) (hn : l.length ≤ 100000000) (hlen : (Lib.join l sep).length ≤ 100000000) :
    Calls Tryz.prog 62 #[.slice S l.length c, .string ⟨sep.toArray⟩] w fun e w' => e = .returned (str (Lib.join l sep)) ∧ Below w.heap.size w w' := by
  rcases l with _ | ⟨x, r⟩
  · refine (Go.Proofs.Tryz.strings_Join_none S c ⟨sep.toArray⟩ w).mono ?_
    rintro e w' ⟨rfl, rfl⟩
    exact ⟨rfl, Below.refl _ _⟩
  · obtain ⟨b, off, rfl, hb, hcell⟩ := h.2 (by simp)
    have e1 := strs_data (x :: r)
    have hk := Go.Proofs.Tryz.strings_Join b off c ((x :: r).map fun l => (⟨l.toArray⟩ : ByteArray)) ⟨sep.toArray⟩ w (fun j y hy => by
      refine hcell j _ ?_
      rw [List.getElem?_map] at hy ⊢
      cases hq : (x :: r)[j]? with
      | none => rw [hq] at hy; cases hy
      | some z => rw [hq] at hy; simp at hy; subst hy; rfl) (Nat.lt_of_lt_of_le hb hB) (by simp at hn ⊢; omega) (by simpa using hc) (by rw [e1]; show (Lib.join (x :: r) sep).length ≤ _; omega)
    rw [e1] at hk
    simp only [List.length_map] at hk
    exact hk
theorem Contains_big (s m : List UInt8) (w : World) (hM : MaxLenOk w) (hs : s.length ≤ 100000000) : Calls Tryz.prog 61 #[str s, str m] w fun e w' => e = .returned (.bool (hasS s m)) ∧ w = w' := by
  obtain ⟨k, hk⟩ := hM
  refine (Go.Proofs.Tryz.strings_Contains ⟨s.toArray⟩ ⟨m.toArray⟩ k w (by simp [ByteArray.size]; omega) hk).mono ?_
  rintro e w' ⟨rfl, rfl⟩
  exact ⟨rfl, rfl⟩
theorem Clone_strs (l : List (List UInt8)) (S : Option Addr) (n c B : Nat) (w : World) (h : Sl w B 1 S n (l.map str)) (hn : n ≤ 100000000) :
    Calls Tryz.prog 63 #[.slice S n c] w fun e w' => ∃ S' c', e = .returned (.slice S' n c') ∧ w'.ownsRow w.heap.size 9 1 (.slice S' n c') n (l.map str) ∧ Below w.heap.size w w' := by
  have hl : l.length = n := by have := h.len; simpa using this
  have key : ∀ (v' : Value) (w' : World), w'.ownsRow w.heap.size 9 1 v' n (l.map str) → ∃ S' c', v' = .slice S' n c' := by
    intro v' w' ho
    rcases ho.2 with ⟨hv, h0⟩ | ⟨g, cap, cur, hv, _⟩
    · exact ⟨none, 0, by rw [hv, h0]⟩
    · exact ⟨_, _, hv⟩
  cases S with
  | none =>
    have h0 : n = 0 := by
      rcases Nat.eq_zero_or_pos n with h' | h'
      · exact h'
      · obtain ⟨_, _, e, _⟩ := h.2 h'; cases e
    subst h0
    obtain rfl : l = [] := List.eq_nil_of_length_eq_zero hl
    refine (Go.Proofs.Tryz.slices_Clone_string_nil 0 c w).mono ?_
    rintro e w' ⟨rfl, rfl⟩
    exact ⟨none, 0, rfl, ⟨rfl, .inl ⟨rfl, rfl⟩⟩, Below.refl _ _⟩
  | some a =>
    rcases Nat.eq_zero_or_pos n with h0 | h0
    · subst h0
      obtain rfl : l = [] := List.eq_nil_of_length_eq_zero hl
      refine (Go.Proofs.Tryz.slices_Clone_string_zero a c w).mono ?_
      rintro e w' ⟨v', rfl, ho, _, hb⟩
      obtain ⟨S', c', rfl⟩ := key v' w' ho
      exact ⟨S', c', rfl, ho, hb⟩
    · obtain ⟨b, off, ha, _, hcell⟩ := h.2 h0
      injection ha with ha
      subst ha
      refine (Go.Proofs.Tryz.slices_Clone_string b off n c (l.map fun x => (⟨x.toArray⟩ : ByteArray)) w (by simp; omega) (by omega) (fun j hj => by
        have hj' : j < l.length := by simpa using hj
        have := hcell j (str l[j]) (by simp [hj'])
        rw [this]
        simp [List.getD, hj', str])).mono ?_
      rintro e w' ⟨v', rfl, ho, _, hb⟩
      have e2 : ((l.map fun x => (⟨x.toArray⟩ : ByteArray)).take n).map Value.string = l.map str := by
        rw [List.take_of_length_le (by simp; omega), List.map_map]
        exact List.map_congr_left fun _ _ => rfl
      rw [e2] at ho
      obtain ⟨S', c', rfl⟩ := key v' w' ho
      exact ⟨S', c', rfl, ho, hb⟩
theorem mw1_any (x : List UInt8) (A : Option Addr) (n d B : Nat) (w : World) (h : By w B A n x) :
    Calls Tryz.prog 65 #[.slice A n d, str x] w fun e w' => e = .returned (.bool true) ∧ w = w' := by
  have hts := run_toStr (P := Tryz.prog) w 22 9 5 _ A n d x h Tryz.underlying22 Tryz.underlying5 Tryz.underlying9
  have hxx : (x == x) = true := by simp
  clear h
  go_enter Tryz.func65, Tryz.ntmps65
  go_wp2_with fail
  go_ret
  exact ⟨rfl, rfl⟩
set_option maxRecDepth 100000 in
theorem EqualFunc_strs (A A' : Option Addr) (n c c' L B : Nat) (v : Value) (vs : List Value) (xs : List (List UInt8)) (w : World) (hA : SlS (fun b => L ≤ b ∧ b < w.heap.size) w 1 A n vs) (hsp : SpRow L w v vs xs) (hts : Sl w B 1 A' n (xs.map str)) (hm : n ≤ 100000) :
    Calls Tryz.prog 64 #[.slice A n c, .slice A' n c', .func (.func 65) #[] #[]] w fun e w' => e = .returned (.bool true) ∧ w = w' := by
  have hne : ((n : Int) != n) = false := by simp
  have hl : xs.length = n := by have := hts.len; simpa using this
  have HA := Lib.hid hA
  have Hsp := Lib.hid hsp
  have Hts := Lib.hid hts
  have Hl := Lib.hid hl
  clear hA hsp hts hl
  go_enter Tryz.func64, Tryz.ntmps64
  go_wp2_with fail
  go_loop [17] (fun iv => ∃ i : Nat, iv = .int .i64 (i : Nat) ∧ i ≤ n) (fun iv => n - (intOf iv).toNat)
  case atStart => exact ⟨0, rfl, Nat.zero_le _⟩
  case round =>
    obtain ⟨i, rfl, hi⟩ := hrel
    by_cases hin : i < n
    · obtain ⟨x, hx⟩ : ∃ x, xs[i]? = some x := ⟨_, List.getElem?_eq_getElem (by rw [Hl.out]; exact hin)⟩
      obtain ⟨A1, d1, h1, h2, h3, h4⟩ := Hsp.out.2 i x hx
      obtain ⟨b, off, rfl, hb, hc⟩ := HA.out.2 (by omega)
      obtain ⟨b', off', rfl, hb', hc'⟩ := Hts.out.2 (by omega)
      have c1 := hc i _ h1
      have c2 := hc' i (str x) (by rw [List.getElem?_map, hx]; rfl)
      have hk := mw1_any x A1 x.length d1 w.heap.size w (SlS.change h2 (fun b hb => hb.2.1) (fun _ _ => rfl))
      have Hk := Lib.hid hk
      clear hx h1 h2 h3 h4 hb hc hb' hc' hk
      go_wp2_with fail
      refine Hk.out.mono ?_
      rintro e w1 ⟨rfl, rfl⟩
      go_wp2_with fail
      go_round
      case rel => exact ⟨i + 1, by go_num, by omega⟩
      case measure => simp [intOf]; omega
    · go_wp2_with fail
      go_ret
      exact ⟨rfl, rfl⟩
end Go.Proofs.YtlbdnohnngkapaaGreatDoor

namespace Go.Proofs.YtlbdnohnngkapaaGreatDoor
open Go.RowKit

set_option maxHeartbeats 400000 in
theorem at_any (k n : Int) (w : World) (hk : -9223372036854775808 ≤ k ∧ k ≤ 9223372036854775807) (hn : 0 < n) (hn2 : n ≤ 9223372036854775807) :
    Calls Tryz.prog 36 #[.int .i64 k, .int .i64 n] w fun e w' => e = .returned (.int .i64 (k % n)) ∧ w = w' := by
  have h1 : -n < k.tmod n := Int.lt_tmod_of_pos k hn
  have h2 : k.tmod n < n := Int.tmod_lt_of_pos k hn
  have h3 : Hid (k % n = if k.tmod n < 0 then k.tmod n + n else k.tmod n) := by
    show k % n = _
    have e : k = k.tmod n + n * k.tdiv n := (Int.tmod_add_mul_tdiv k n).symm
    generalize k.tmod n = r at *
    generalize k.tdiv n = q at *
    subst e
    rw [Int.add_mul_emod_self_left]
    split
    · rw [← Int.add_emod_right, Int.emod_eq_of_lt (by omega) (by omega)]
    · exact Int.emod_eq_of_lt (by omega) h2
  go_enter Tryz.func36, Tryz.ntmps36
  by_cases h0 : k.tmod n < 0
  · go_wp2_with fail
    go_ret
    exact ⟨by rw [h3.out, if_pos h0]; rfl, rfl⟩
  · go_wp2_with fail
    go_ret
    exact ⟨by rw [h3.out, if_neg (by omega)]; rfl, rfl⟩

end Go.Proofs.YtlbdnohnngkapaaGreatDoor

namespace Go.Proofs.YtlbdnohnngkapaaGreatDoor
open Go.RowKit

theorem Sl.str_atW {w : World} {B n : Nat} {A : Option Addr} {ts : List (List UInt8)} (h : Sl w B 1 A n (ts.map str)) (i : Nat) (hi : i < n) :
    ∃ b off t, A = some ⟨b, off, none⟩ ∧ b < B ∧ ts.drop i = t :: ts.drop (i + 1) ∧ w.cell? ⟨b, off + i, none⟩ = some (str t) := by
  obtain ⟨b, off, u, hA, hb, hu, hc⟩ := Sl.at_ h hi
  have hl : ts.length = n := by have := h.1; simpa using this
  have hil : i < ts.length := by omega
  rw [List.getElem?_map, List.getElem?_eq_getElem hil] at hu
  injection hu with hu
  exact ⟨b, off, ts[i], hA, hb, List.drop_eq_getElem_cons hil, by rw [hc, ← hu]⟩
theorem join_len1 : ∀ l : List (List UInt8), (Lib.join l [32]).length ≤ (l.map List.length).sum + l.length
  | [] => by simp [Lib.join]
  | [x] => by rw [Lib.join_one]; simp
  | x :: y :: r => by
    have ih := join_len1 (y :: r)
    have e : Lib.join (x :: y :: r) [32] = x ++ ([32] ++ Lib.join (y :: r) [32]) := by
      rw [Lib.join_cons, Lib.join_cons]
      simp [Lib.joinTail]
    rw [e, List.map_cons, List.sum_cons, List.length_cons]
    simp only [List.length_append, List.length_cons, List.length_nil] at ih ⊢
    omega
/-- An append whose run is known, behind a guard that lets it. -/
theorem wpList_appRun {P : Program} {w : World} {ops : Array Oper} {rest : List Oper} {o : Oper} {a : Act} {Q : Exit → Act → World → Prop} (hw : Region.wanted o (yielded ops a.tmps) = true) (s x : Operand) (t : TypeId)
    (ho : o.op = .call { callee := .builtin .append, args := #[s, x], argTypes := #[t, t] }) (v1 v2 : Value) (hs : a.eval s = v1) (hx : a.eval x = v2) (v : Value) (w' : World) (hrun : (Builtin.append_ #[t, t] o.type #[v1, v2]).run P w = .ok v w') (h : wpList P ops Q rest (a.put o.dst v) w') : wpList P ops Q (o :: rest) a w := by
  unfold wpList
  rw [if_pos hw]
  refine .inl ?_
  unfold Oper.wp execOp
  simp only [ho, resolve, invoke, builtin, Sem.run_bind, Sem.run_pure, Result.andThen_ok, List.map_toArray, List.map_cons, List.map_nil, hs, hx, hrun]
  exact h
theorem enc_letter : ∀ k : Fin 26, Utf8.encode (97 + (k.val : Int)) = ⟨#[UInt8.ofNat (97 + k.val)]⟩ := by decide +kernel
set_option maxRecDepth 100000 in
set_option maxHeartbeats 4000000 in
theorem mimeWraps_walk (ps : List (List UInt8)) (A : Option Addr) (n c : Nat) (ahead behind : List UInt8) (h : Int) (w : World) (hMx : MaxLenOk w) (hPw : PowOk w) (hts : Sl w w.heap.size 1 A n (ps.map str)) (hn : n ≤ c) (hc : c ≤ maxLen) (hh : -9223372036854775808 ≤ h ∧ h ≤ 9223372036854775807) (hT : (ps.map List.length).sum + ps.length + ahead.length + behind.length ≤ 2000000) :
    Calls Tryz.prog 14 #[.slice A n c, str ahead, str behind, .int .i64 h] w fun e w' => e = .returned (.bool true) ∧ Below w.heap.size w w' := by
  have hpl : ps.length = n := by have := hts.len; simpa using this
  unfold maxLen at hc
  obtain ⟨k, hk⟩ : ∃ k : Nat, h % 26 = (k : Nat) := ⟨(h % 26).toNat, by omega⟩
  have hk26 : k < 26 := by omega
  obtain ⟨bd, hbd⟩ : ∃ bd, bd = bordW k := ⟨_, rfl⟩
  have hbl : bd.length = 3 := by rw [hbd]; rfl
  have henc := enc_letter ⟨k, hk26⟩
  simp only at henc
  obtain ⟨cc, hcc⟩ : ∃ cc, cc = UInt8.ofNat (97 + k) := ⟨_, rfl⟩
  rw [← hcc] at henc
  have hbe : [61, 95, cc] = bd := by rw [hbd, hcc]; rfl
  have hz0 : (0 : Int) ≤ 97 + (k : Int) := by omega
  have hz1 : 97 + (k : Int) < 2147483648 := by omega
  have hk0 : (0 : Int) ≤ (k : Int) := by omega
  have hk1 : (k : Int) ≤ 25 := by omega
  have hw32 : IntKind.i32.wrap (97 + (k : Int)) = 97 + (k : Int) := by rw [IntKind.wrap_i32]; omega
  have hat := at_any h 26 w hh (by decide) (by decide)
  rw [hk] at hat
  have hs9 : Value.string ((⟨#[61, 95]⟩ : ByteArray) ++ ⟨#[cc]⟩) = str bd := by rw [← hbe]; rfl
  have Hs9 := Lib.hid hs9
  have Hat := Lib.hid hat
  have Hbe := Lib.hid hbe
  have Hbd := Lib.hid hbd
  have Hbl := Lib.hid hbl
  have Hts := Lib.hid hts
  have HM := Lib.hid hMx
  have HP := Lib.hid hPw
  have Hpl := Lib.hid hpl
  clear hs9 hat hbe hbd hbl hts hMx hPw hpl hcc hk hk26 hh
  go_enter Tryz.func14, Tryz.ntmps14
  go_wp2_with fail
  refine Hat.out.mono ?_
  rintro e _ ⟨rfl, rfl⟩
  go_upto_region 2 with fail
  rw [Hs9.out]
  obtain ⟨m, hm⟩ : ∃ m, min n 8 = m := ⟨_, rfl⟩
  have hmn : m ≤ n := by omega
  have hm8 : m ≤ 8 := by omega
  have hmi : min (n : Int) 8 = (m : Int) := by omega
  have hmx : max (m : Int) 0 = (m : Int) := by omega
  have Hm := Lib.hid hm
  clear hm
  go_wp2_with fail
  have HT := Lib.hid hT
  have Hmi := Lib.hid hmi
  have Hmx := Lib.hid hmx
  clear hT hmi hmx
  go_loop [10, 28] (fun t iv => ∃ j : Nat, t = str (wtext bd ahead (ps.take j)) ∧ iv = .int .i64 (j : Nat) ∧ j ≤ m) (fun _ iv => m - (intOf iv).toNat)
  case atStart => exact ⟨0, by rw [List.take_zero, wtext_nil], rfl, Nat.zero_le _⟩
  case round =>
    obtain ⟨j, rfl, rfl, hj⟩ := hrel
    have hXl : (wtext bd ahead (ps.take j)).length ≤ 3000000 := by
      have h1 := wtext_len bd (ps.take j) ahead
      have h2 := sum_take ps j
      have h3 : (ps.take j).length ≤ 8 := by rw [List.length_take]; omega
      have h4 := HT.out
      have h5 : (ps.take j).length * (bd.length + 6) ≤ 8 * (bd.length + 6) := Nat.mul_le_mul_right _ h3
      rw [Hbl.out] at h1 h5
      omega
    by_cases hjm : j < m
    · obtain ⟨b, off, x, rfl, hb, hx, hcell⟩ := Hts.out.str_atW j (by omega)
      have hxl : x.length ≤ 3000000 := by
        have h1 : ps.drop j = x :: ps.drop (j + 1) := hx
        have h2 := congrArg List.sum (congrArg (List.map List.length) h1)
        have h3 := congrArg List.sum (congrArg (List.map List.length) (List.take_append_drop j ps))
        rw [List.map_append, List.sum_append] at h3
        rw [List.map_cons, List.sum_cons] at h2
        have h4 := HT.out
        omega
      have hsn : wtext bd ahead (ps.take (j + 1)) = wtext bd ahead (ps.take j) ++ (([13, 10, 45, 45] ++ bd ++ [13, 10]) ++ x) := by
        have : ps.take (j + 1) = ps.take j ++ [x] := by
          have h1 := List.take_append_drop j ps
          rw [hx] at h1
          have h2 : ps.take (j + 1) = (ps.take j ++ x :: ps.drop (j + 1)).take (j + 1) := by rw [h1]
          have hjl : (ps.take j).length = j := by rw [List.length_take, Hpl.out]; omega
          rw [h2, List.take_append, List.take_of_length_le (by omega), hjl, Nat.add_sub_cancel_left]
          rfl
        rw [this, wtext_snoc]
      have Hsn := Lib.hid hsn
      generalize wtext bd ahead (ps.take j) = X at hXl Hsn ⊢
      have hbl3 : bd.length ≤ 3 := by rw [Hbl.out]; omega
      clear hb hx hsn
      go_wp2_with fail
      go_round
      case rel => exact ⟨j + 1, by rw [Hsn.out]; simp, by go_num, by omega⟩
      case measure => simp [intOf]; omega
    · obtain rfl : m = j := by omega
      clear hj
      have hbl3 : bd.length ≤ 3 := by rw [Hbl.out]; omega
      obtain ⟨ps8, hps8⟩ : ∃ x, x = ps.take m := ⟨_, rfl⟩
      rw [← hps8] at hXl ⊢
      obtain ⟨X, hX⟩ : ∃ X, X = wtext bd ahead ps8 := ⟨_, rfl⟩
      rw [← hX] at hXl ⊢
      have hbeh : behind.length ≤ 2000000 := by have := HT.out; omega
      obtain ⟨T, hTT⟩ : ∃ T, T = X ++ 13 :: 10 :: 45 :: 45 :: (bd ++ 45 :: 45 :: 13 :: 10 :: behind) := ⟨_, rfl⟩
      have hTl : T.length ≤ 6000000 := by rw [hTT]; simp; omega
      have hTW : T = wrapT bd ahead behind ps8 := by
        rw [hTT, hX, ← wtext_end]
        simp
      have HTT := Lib.hid hTT
      have HTW := Lib.hid hTW
      have Hps8 := Lib.hid hps8
      have hjl : (Lib.join (ps ++ [ahead]) [32]).length ≤ 100000000 := by
        have h1 := join_len1 (ps ++ [ahead])
        rw [List.map_append, List.sum_append, List.length_append] at h1
        simp at h1
        have := HT.out
        omega
      have hn2 : n ≤ 2000000 := by rw [← Hpl.out]; have := HT.out; omega
      obtain ⟨J, hJ⟩ : ∃ J, J = Lib.join (ps ++ [ahead]) [32] := ⟨_, rfl⟩
      rw [← hJ] at hjl
      have HJ := Lib.hid hJ
      clear hTT hTW hX hps8 hJ
      go_upto_region 9 with fail
      rw [← HTT.out]
      go_wp2_with fail
      refine (bundled_any w HM.out HP.out).mono ?_
      rintro e w1 ⟨rfl, hb1⟩
      have Hb1 := Lib.hid hb1
      clear hb1
      by_cases hlong : 40000 < T.length
      · have hd : decide ((40000 : Int) < (T.length : Int)) = true := by simp; omega
        clear hlong
        go_wp2_with fail
        refine (bundled_any w1 (HM.out.below Hb1.out) (HP.out.below Hb1.out)).mono ?_
        rintro e w2 ⟨rfl, hb2⟩
        have Hb2 := Lib.hid (Hb1.out.trans (hb2.mono Hb1.out.size))
        clear hb2
        go_wp2_with fail
        go_ret
        exact ⟨rfl, Hb2.out⟩
      · have hd : decide ((40000 : Int) < (T.length : Int)) = false := by simp; omega
        have Hlen := Lib.hid (show T.length ≤ 40000 by omega)
        clear hlong
        have hcl := Clone_strs ps A n c w1.heap.size w1 ((Hts.out.below Hb1.out).more Hb1.out.size) (by omega)
        have Hcl := Lib.hid hcl
        clear hcl
        go_wp2_with fail
        refine Hcl.out.mono ?_
        rintro e w2 ⟨S2, c2, rfl, hown2, hb2⟩
        have hb2' := Hb1.out.trans (hb2.mono Hb1.out.size)
        obtain ⟨i0, hi0, hz0, hz1, hz2⟩ := info_parts infoStrM
        obtain ⟨S3, c3, w3, happ, hown3, hgr3, _⟩ := run_app (P := Tryz.prog) (w2.alloc (.cells #[str ahead] 9)) w1.heap.size 57 57 9 i0 _ 1 16 Tryz.underlying57 hi0 hz0 hz1 hz2 rfl (by decide) S2 n c2 (ps.map str) (hown2.alloc _) _ _ 1 1 [str ahead] (Sl.one w2 9 (str ahead)) (by intro u hu; simp at hu; subst hu; rfl) (by unfold maxLen; omega) (by omega) (by have := hb2.size; simp; omega)
        have hb3 : Below w.heap.size w w3 := by
          have h1 := hb2'.alloc hb2'.size (.cells #[str ahead] 9)
          exact h1.grown hgr3 h1.size (fun k hk => Nat.le_trans Hb1.out.size (hown2.lt k hk).1)
        have hjn := JoinS_any (ps ++ [ahead]) [32] S3 c3 w3.heap.size w3 (by have := Sl.of_own hown3; rw [List.map_append, List.length_append, Hpl.out]; exact this) (Nat.le_refl _) (by rw [List.length_append, Hpl.out]; exact own_cap hown3) (by rw [List.length_append, Hpl.out]; simp; omega) (by rw [← HJ.out]; exact hjl)
        rw [List.length_append, Hpl.out, ← HJ.out] at hjn
        have Hjn := Lib.hid hjn
        have Hb3 := Lib.hid hb3
        have Happ := Lib.hid happ
        clear hjn hb3 hown3 hgr3 hown2 hb2 hb2' hi0 hz0 hz1 hz2
        go_wp2_with (at_builtin; refine wpList_appRun (by kernel_rfl) _ _ 57 rfl (.slice S2 n c2) (.slice (some ⟨w2.heap.size, 0, none⟩) 1 1) rfl rfl (.slice S3 (n + 1) c3) w3 Happ.out ?_)
        go_wp2_with fail
        refine Hjn.out.mono ?_
        rintro e w4 ⟨rfl, hb4⟩
        have Hb4 := Lib.hid (Hb3.out.trans (hb4.mono Hb3.out.size))
        have hco := Contains_big J (45 :: 45 :: bd) w4 (HM.out.below Hb4.out) hjl
        obtain ⟨hs, hhs⟩ : ∃ hs, hs = hasS J (45 :: 45 :: bd) := ⟨_, rfl⟩
        rw [← hhs] at hco
        have Hhs := Lib.hid hhs
        have Hco := Lib.hid hco
        clear hb4 hco hhs
        go_wp2_with fail
        refine Hco.out.mono ?_
        rintro e w5 ⟨rfl, rfl⟩
        cases hs with
        | true =>
          go_wp2_with fail
          refine (bundled_any w4 (HM.out.below Hb4.out) (HP.out.below Hb4.out)).mono ?_
          rintro e w6 ⟨rfl, hb6⟩
          have Hb6 := Lib.hid (Hb4.out.trans (hb6.mono Hb4.out.size))
          clear hb6
          go_wp2_with fail
          go_ret
          exact ⟨rfl, Hb6.out⟩
        | false =>
          have hlaw : splitM T bd = (ps8, 0) := by
            rw [HTW.out]
            refine wraps_law (more := ps.drop m) (by rw [Hbd.out]; exact bordW_ok ⟨k, by omega⟩) (by rw [← HTW.out]; exact Hlen.out) ?_
            rw [Hps8.out, List.take_append_drop, ← HJ.out]
            exact Hhs.out.symm
          obtain ⟨A5, c5, w5, hconv, hby5, hc5, hm5, hb5⟩ := run_toBytesM (P := Tryz.prog) w4 9 22 5 T Tryz.underlying9 Tryz.underlying22 Tryz.underlying5 (by unfold maxLen; have := Hlen.out; omega)
          have hsp := Split_any T bd A5 T.length c5 w5 hby5 hc5 hm5 (by rw [Hbl.out]; unfold maxLen; omega)
          rw [hlaw] at hsp
          have Hsp := Lib.hid hsp
          have Hb5 := Lib.hid (Hb4.out.trans (hb5.mono Hb4.out.size))
          clear hlaw hby5 hc5 hm5 hb5 hsp
          go_upto_region 11 with fail
          go_wp2_with fail
          refine Hsp.out.mono ?_
          rintro e w6 ⟨S6, c6, vs6, v6, rfl, hsl6, hsp6, hb6⟩
          have Hb6 := Lib.hid (Hb5.out.trans (hb6.mono Hb5.out.size))
          have hl8 : ps8.length = m := by rw [Hps8.out, List.length_take, Hpl.out]; exact Nat.min_eq_left (by omega)
          simp only [hl8] at hsl6 ⊢
          have hts6 : Sl w6 w.heap.size 1 A m (ps8.map str) := by
            have h1 := (Hts.out.below Hb6.out).upto hmn
            rw [Nat.mul_one, ← List.map_take, ← Hps8.out] at h1
            exact h1
          have hef := EqualFunc_strs S6 A m c6 c w5.heap.size w.heap.size v6 vs6 ps8 w6 hsl6 hsp6 hts6 (by omega)
          have Hef := Lib.hid hef
          have hmi := Hmi.out
          have hmx := Hmx.out
          clear hconv hsl6 hsp6 hb6 hl8 hts6 hef
          go_wp2_with fail
          refine Hef.out.mono ?_
          rintro e w7 ⟨rfl, rfl⟩
          go_wp2_with fail
          go_ret
          exact ⟨rfl, Hb6.out⟩
end Go.Proofs.YtlbdnohnngkapaaGreatDoor

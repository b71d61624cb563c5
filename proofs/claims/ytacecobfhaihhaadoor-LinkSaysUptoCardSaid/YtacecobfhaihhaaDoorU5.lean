import Derived.Test.YtacecobfhaihhaaDoorU4
import Derived.Lib.SlBytesConst
import Derived.Test.YtacecobfhaihhaaDoorU1
import Derived.Test.YtacecobfhaihhaaDoorU3
import Derived.Lib.AppendZerosOnto
import Derived.Lib.Overlaps
import Derived.Lib.SliceRun
import Derived.Laws.CopyOwn
import Derived.Laws.IdiomCopy
import Derived.Deep.RegionLaw
namespace Go.Proofs.YtacecobfhaihhaaDoor
open Go.RowKit

def lkB : List UInt8 := [60, 97, 32, 120, 32, 104, 114, 101, 102, 61, 39, 98, 39, 62, 60, 33, 45, 45, 32, 60, 97, 32, 104, 114, 101, 102, 61, 99, 62, 32, 45, 45, 62, 60, 73, 77, 71, 32, 83, 82, 67, 61, 100, 38, 97, 109, 112, 59, 101, 62]
def lkC : List UInt8 := [60, 97, 32, 120, 32, 104, 114, 101, 102, 61, 39, 113, 39, 62, 60, 33, 45, 45, 32, 60, 97, 32, 104, 114, 101, 102, 61, 99, 62, 32, 45, 45, 62, 60, 73, 77, 71, 32, 83, 82, 67, 61, 100, 38, 97, 109, 112, 59, 101, 62]
theorem lk_find : findE lkB = ([⟨11, 12, [98]⟩, ⟨42, 49, [100, 38, 101]⟩], 0) := by decide +kernel
theorem lk_put : putE lkB [[113], []] = (lkC, 0) := by decide +kernel
set_option maxRecDepth 100000 in
set_option maxHeartbeats 1000000 in
theorem linked_any (w : World) (hM : MaxLenOk w) : Calls Tryd.prog 7 #[] w fun e w' => e = .returned (.bool true) ∧ Below w.heap.size w w' := by
  have kc := fun (C : Array Value) (n c : Nat) => Lib.run_convert_bytes_const (P := Tryd.prog) w 22 5 C n c Tryd.underlying22 Tryd.underlying5
  go_enter Tryd.func7, Tryd.ntmps7
  go_wp2_with fail
  generalize hW1 : w.alloc _ = W1
  have hb1 : Below w.heap.size w W1 := by rw [← hW1]; exact (Below.refl _ w).alloc (Nat.le_refl _) _
  have hby1 : By W1 W1.heap.size (some ⟨w.heap.size, 0, none⟩) 50 lkB := by rw [← hW1]; exact By.block w lkB rfl rfl
  have hf := Find_any (some ⟨w.heap.size, 0, none⟩) 50 50 lkB W1 (hM.below hb1) hby1 (Nat.le_refl _) (by unfold maxLen; omega)
  rw [lk_find] at hf
  clear hW1 kc
  refine hf.mono ?_
  clear hf
  rintro e w2 ⟨S, c2, rfl, hown2, hb2⟩
  have hbel2 := hb1.trans (hb2.mono hb1.size)
  have hbw3 : Below w2.heap.size w2 (w2.alloc (.cells #[str [113], str []] 9)) := (Below.refl _ w2).alloc (Nat.le_refl _) _
  have hbel3 := hbel2.trans (hbw3.mono hbel2.size)
  have hby3 := ((hby1.below hb2).below (hbw3.mono hb2.size)).more (Nat.le_trans hb2.size hbw3.size)
  have hp := Put_any (some ⟨w.heap.size, 0, none⟩) (some ⟨w2.heap.size, 0, none⟩) 50 50 2 2 lkB [[113], []] (w2.alloc (.cells #[str [113], str []] 9)) (hM.below hbel3) hby3 (Nat.le_refl _) (by unfold maxLen; omega)
    ((Sl.row w2 9 1 2 ([[113], []].map str) rfl).more (by simp)) (by decide)
  rw [lk_put] at hp
  have Hp := Lib.hid hp
  have hown3 := own_below hown2 hbw3
  clear hp hown2 hbw3 hb2
  go_wp2_with fail
  refine Hp.out.mono ?_
  clear Hp
  rintro e w4 ⟨S4, c4, rfl, hown4, hb4⟩
  have hbel4 := hbel3.trans (hb4.mono hbel3.size)
  have hown34 := own_below hown3 hb4
  have hbA : Below w4.heap.size w4 (w4.alloc (.cells #[.int .i64 11, .int .i64 12, str [98], .int .i64 42, .int .i64 49, str [100, 38, 101]] 33)) := (Below.refl _ w4).alloc (Nat.le_refl _) _
  have hslA := (Sl.of_own hown34).below hbA
  have hslB : Sl (w4.alloc (.cells #[.int .i64 11, .int .i64 12, str [98], .int .i64 42, .int .i64 49, str [100, 38, 101]] 33)) (w4.heap.size + 1) 3 (some ⟨w4.heap.size, 0, none⟩) 2 (linkC [⟨11, 12, [98]⟩, ⟨42, 49, [100, 38, 101]⟩]) := Sl.row w4 33 3 2 _ rfl
  have heq := Equal_links S (some ⟨w4.heap.size, 0, none⟩) 2 c2 2 2 _ _ [⟨11, 12, [98]⟩, ⟨42, 49, [100, 38, 101]⟩] [⟨11, 12, [98]⟩, ⟨42, 49, [100, 38, 101]⟩] _ hslA hslB (by omega) (by omega)
  rw [beq_self_eq_true] at heq
  have hby4 := (By.of_own hown4).below hbA
  have hts := fun k => run_toStr (P := Tryd.prog) ((w4.alloc (.cells #[.int .i64 11, .int .i64 12, str [98], .int .i64 42, .int .i64 49, str [100, 38, 101]] 33)).drewN k) 22 9 5 _ S4 lkC.length c4 lkC hby4 Tryd.underlying22 Tryd.underlying5 Tryd.underlying9
  have Heq := Lib.hid heq
  have hbelA := hbel4.trans (hbA.mono hbel4.size)
  clear hown4 hown34 hslA hslB heq hby4 hown3
  go_wp2_with fail
  refine Heq.out.mono ?_
  rintro e w5 ⟨rfl, q, rfl⟩
  go_wp2_with fail
  go_ret
  exact ⟨rfl, belN hbelA q⟩
end Go.Proofs.YtacecobfhaihhaaDoor

namespace Go.Proofs.YtacecobfhaihhaaDoor

/-- The 64 letters. -/
def letters : List UInt8 := [65, 66, 67, 68, 69, 70, 71, 72, 73, 74, 75, 76, 77, 78, 79, 80, 81, 82, 83, 84, 85, 86, 87, 88, 89, 90, 97, 98, 99, 100, 101, 102, 103, 104, 105, 106, 107, 108, 109, 110, 111, 112, 113, 114, 115, 116, 117, 118, 119, 120, 121, 122, 48, 49, 50, 51, 52, 53, 54, 55, 56, 57, 43, 47]
theorem letters_len : letters.length = 64 := by decide

/-- Three bytes as one number; what lacks is 0. -/
def val3 (l : List UInt8) : Nat := nth l 0 * 65536 + nth l 1 * 256 + nth l 2
/-- The number behind i rounds. -/
def valTo (l : List UInt8) : Nat → Nat
  | 0 => 0
  | i + 1 => valTo l i * 256 + nth l i
theorem valTo_three (l : List UInt8) : valTo l 3 = val3 l := by simp only [valTo, val3]; omega
theorem valTo_lt (l : List UInt8) (i : Nat) : valTo l i < 256 ^ i := by
  induction i with
  | zero => simp [valTo]
  | succ i ih =>
    have := nth_lt l i
    simp only [valTo, Nat.pow_succ]
    omega
/-- Letter i of four, of n bytes with the number v. -/
def quadL (n v i : Nat) : UInt8 := if n < i then 61 else letters.getD (v / 2 ^ (18 - 6 * i) % 64) 0
def quad (l : List UInt8) : List UInt8 := (List.range 4).map (quadL (min 3 l.length) (val3 l))
def brk (wide : Nat) : List UInt8 := if wide = 76 then [13, 10] else []
def after (wide : Nat) : Nat := if wide = 76 then 4 else wide + 4
/-- base.Text, where so many letters stand in the line already. -/
def enc (wide : Nat) (l : List UInt8) : List UInt8 :=
  match l with
  | [] => []
  | a :: t => brk wide ++ quad (a :: t) ++ enc (after wide) (t.drop 2)
termination_by l.length
decreasing_by simp; omega
theorem enc_nil (wide : Nat) : enc wide [] = [] := by rw [enc]
theorem enc_step (wide : Nat) (l : List UInt8) (h : 0 < l.length) : enc wide l = brk wide ++ quad l ++ enc (after wide) (l.drop (min 3 l.length)) := by
  cases l with
  | nil => simp at h
  | cons a t =>
    rw [enc]
    congr 2
    match t with
    | [] => rfl
    | [_] => rfl
    | _ :: _ :: t' => simp
theorem quad_len (l : List UInt8) : (quad l).length = 4 := by simp [quad]
theorem quad_take (l : List UInt8) (i : Nat) (h : i < 4) : (quad l).take (i + 1) = (quad l).take i ++ [quadL (min 3 l.length) (val3 l) i] := by
  rw [List.take_succ_eq_append_getElem (by rw [quad_len]; exact h)]
  simp [quad]
theorem quadL_gt {n v i : Nat} (h : n < i) : quadL n v i = 61 := by simp [quadL, h]
theorem quadL_le {n v i : Nat} (h : ¬ n < i) : quadL n v i = UInt8.ofNat (nth letters (v / 2 ^ (18 - 6 * i) % 64)) := by simp [quadL, h, nth]
theorem enc_len (k : Nat) : ∀ (wide : Nat) (l : List UInt8), l.length ≤ k → (enc wide l).length ≤ 6 * l.length := by
  induction k with
  | zero => intro wide l h; have : l = [] := List.eq_nil_of_length_eq_zero (by omega); subst this; simp [enc_nil]
  | succ k ih =>
    intro wide l h
    rcases Nat.eq_zero_or_pos l.length with h0 | h0
    · have : l = [] := List.eq_nil_of_length_eq_zero h0; subst this; simp [enc_nil]
    · rw [enc_step wide l h0]
      have hb : (brk wide).length ≤ 2 := by unfold brk; split <;> simp
      have := ih (after wide) (l.drop (min 3 l.length)) (by simp; omega)
      simp only [List.length_append, quad_len, List.length_drop] at this ⊢
      omega
end Go.Proofs.YtacecobfhaihhaaDoor

namespace Go.Proofs.YtacecobfhaihhaaDoor
open Go.RowKit

/-- 'b[k:]' at []byte. -/
theorem cut_bytes (w : World) (A : Option Addr) (n c : Nat) (ki : IntKind) (k : Int) (h0 : 0 ≤ k) (h1 : k ≤ n) :
    (Instr.slice 22 (.slice A n c) (some (.int ki k)) none none).run Tryd.prog w = .ok (.slice (cutA A c k.toNat 1) (n - k.toNat) (c - k.toNat)) w :=
  run_cut w _ _ 1 Tryd.underlying22 (Tryd.sizeOf5 w) A n c ki k h0 h1

attribute [local go_sem high] cut_bytes

/-! ### slices.Equal at []byte -/
theorem take_step (l l' : List UInt8) (k : Nat) (h : k < l.length) (h' : k < l'.length) (ht : l.take k = l'.take k) (hn : nth l k = nth l' k) : l.take (k + 1) = l'.take (k + 1) := by
  rw [List.take_succ_eq_append_getElem h, List.take_succ_eq_append_getElem h', ht]
  rw [nth_of l k h, nth_of l' k h'] at hn
  rw [UInt8.toNat_inj.1 hn]
theorem ne_of_nth (l l' : List UInt8) (k : Nat) (hn : nth l k ≠ nth l' k) : (l == l') = false := by
  rw [beq_eq_false_iff_ne]; rintro rfl; exact hn rfl
set_option maxHeartbeats 400000 in
theorem Equal_bytes (A A' : Option Addr) (n c n' c' : Nat) (B B' : Nat) (l l' : List UInt8) (w : World) (hb : By w B A n l) (hb' : By w B' A' n' l') (hm : n ≤ maxLen) :
    Calls Tryd.prog 11 #[.slice A n c, .slice A' n' c'] w fun e w' => e = .returned (.bool (l == l')) ∧ ∃ q, w' = w.drewN q := by
  unfold maxLen at hm
  by_cases hnn : n = n'
  · subst hnn
    have hl := hb.len
    have hl' := hb'.len
    have Hl := Lib.hid hl; have Hl' := Lib.hid hl'
    clear hl hl'
    go_enter Tryd.func11, Tryd.ntmps11
    go_wp2_with fail
    go_loopw [13] (fun iv wr => ∃ k q : Nat, k ≤ n ∧ iv = .int .i64 k ∧ Hid (l.take k = l'.take k) ∧ wr = w.drewN q) (fun iv _ => n - (intOf iv).toNat)
    case atStart => exact ⟨0, 0, by omega, rfl, rfl, rfl⟩
    case round =>
      obtain ⟨k, q, hk, rfl, ht, rfl⟩ := hrel
      by_cases hkn : k < n
      · obtain ⟨b, off, rfl, _, hc⟩ := hb.at_ hkn
        obtain ⟨b', off', rfl, _, hc'⟩ := hb'.at_ hkn
        by_cases hx : nth l k = nth l' k
        · have hd : ((nth l k : Int) != (nth l' k : Int)) = false := by simp [hx]
          have Hx := Lib.hid hx; clear hx
          go_wp2_with fail
          go_quiet (fail)
          go_wp2_with fail
          exact ⟨⟨k + 1, _, by omega, by go_num, take_step l l' k (by rw [Hl.out]; exact hkn) (by rw [Hl'.out]; exact hkn) ht.out Hx.out, rfl⟩, by simp [intOf]; omega⟩
        · have hd : ((nth l k : Int) != (nth l' k : Int)) = true := by simp; omega
          have Hx := Lib.hid (ne_of_nth l l' k hx)
          clear hx
          go_wp2_with fail
          go_quiet (fail)
          go_wp2_with fail
          go_ret
          exact ⟨by rw [Hx.out]; rfl, _, World.drewN_drewN _ _ _⟩
      · go_wp2_with fail
        go_ret
        have : l = l' := by
          have h := ht.out
          rwa [List.take_of_length_le (by rw [Hl.out]; omega), List.take_of_length_le (by rw [Hl'.out]; omega)] at h
        exact ⟨by rw [this]; simp, _, rfl⟩
  · have hd : ((n : Int) != (n' : Int)) = true := by simp; omega
    have hll : (l == l') = false := by
      rw [beq_eq_false_iff_ne]
      rintro rfl
      exact hnn (hb.len.symm.trans hb'.len)
    have Hll := Lib.hid hll; clear hll
    go_enter Tryd.func11, Tryd.ntmps11
    go_wp2_with fail
    go_ret
    exact ⟨by rw [Hll.out]; rfl, 0, rfl⟩
end Go.Proofs.YtacecobfhaihhaaDoor

namespace Go.Proofs.YtacecobfhaihhaaDoor

/-! ### Texts put into their places, from the last one on -/
def repB (out : List UInt8) (l : LinkD) (t : List UInt8) : List UInt8 := if t = [] then out else out.take l.frm ++ (t ++ out.drop l.til)
def repL (b : List UInt8) : List LinkD → List (List UInt8) → List UInt8
  | l :: ls, t :: ts => repB (repL b ls ts) l t
  | [], _ => b
  | _ :: _, [] => b
theorem repL_eq : ∀ (l : List (List UInt8 × List UInt8)) (ts : List (List UInt8)) (pre b : List UInt8), ts.length = l.length → b = pre ++ weaveL l (l.map (·.1)) → repL b (linksL pre.length l) ts = pre ++ weaveL l (picks l ts)
  | [], ts, pre, b, h, hb => by
    rw [linksL, repL, hb]
    cases ts <;> rfl
  | x :: l, [], pre, b, h, _ => by simp at h
  | x :: l, t :: ts, pre, b, h, hb => by
    have e : b = (pre ++ x.1 ++ x.2) ++ weaveL l (l.map (·.1)) := by rw [hb, List.map_cons, weaveL]; simp
    have ih := repL_eq l ts (pre ++ x.1 ++ x.2) b (by simpa using h) e
    have hl : (pre ++ x.1 ++ x.2).length = pre.length + x.1.length + x.2.length := by simp; omega
    rw [hl] at ih
    rw [linksL, repL, ih, picks, weaveL]
    unfold repB pick
    by_cases ht : t = []
    · rw [if_pos ht, if_pos ht]; simp
    · rw [if_neg ht, if_neg ht]
      simp only
      have e2 : pre ++ x.1 ++ x.2 ++ weaveL l (picks l ts) = pre ++ (x.1 ++ (x.2 ++ weaveL l (picks l ts))) := by simp
      rw [e2, List.take_left]
      have e3 : pre ++ (x.1 ++ (x.2 ++ weaveL l (picks l ts))) = (pre ++ x.1) ++ (x.2 ++ weaveL l (picks l ts)) := by simp
      rw [e3, List.drop_left' (by simp)]
theorem repL_put (b : List UInt8) (ts : List (List UInt8)) (h : ts.length = (pcs b).2.length) : repL b (links 0 (pcs b)) ts = putL b 0 [] (links 0 (pcs b)) ts := by
  rw [putL_weave b ts h]
  have := repL_eq (pcs b).2 ts (pcs b).1 b h (pcs_app b)
  unfold links
  rw [Nat.zero_add, this]
  rfl
/-- Each link of a page lies behind the one ahead of it. -/
def risL (n : Nat) : Nat → List LinkD → Prop
  | _, [] => True
  | p, l :: ls => p ≤ l.frm ∧ l.frm ≤ l.til ∧ l.til ≤ n ∧ risL n l.til ls
end Go.Proofs.YtacecobfhaihhaaDoor

namespace Go.Proofs.YtacecobfhaihhaaDoor
open Go.RowKit

/-! ### The document's Put: texts put in from the last one on -/
theorem sumL_cons (t : List UInt8) (ts : List (List UInt8)) : sumL (t :: ts) = t.length + sumL ts := by simp [sumL]
theorem repB_len (out : List UInt8) (x : LinkD) (t : List UInt8) (h : x.frm ≤ x.til) (h2 : x.til ≤ out.length) : (repB out x t).length ≤ out.length + t.length := by
  unfold repB
  split
  · omega
  · rw [List.length_append, List.length_append, List.length_take, List.length_drop]
    omega
theorem repL_long (b : List UInt8) : ∀ (ls : List LinkD) (ts : List (List UInt8)) (at_ : Nat), ts.length = ls.length → LOk at_ b.length ls → at_ ≤ (repL b ls ts).length
  | [], _, at_, _, h => by rw [repL]; exact h
  | x :: ls, [], at_, hl, h => by simp at hl
  | x :: ls, t :: ts, at_, hl, h => by
    obtain ⟨h1, h2, h3⟩ := h
    have ih := repL_long b ls ts x.til (by simpa using hl) h3
    rw [repL]
    unfold repB
    split
    · omega
    · rw [List.length_append, List.length_take]
      omega
theorem repL_len (b : List UInt8) : ∀ (ls : List LinkD) (ts : List (List UInt8)) (at_ : Nat), ts.length = ls.length → LOk at_ b.length ls → (repL b ls ts).length ≤ b.length + sumL ts
  | [], _, at_, _, h => by rw [repL]; omega
  | x :: ls, [], at_, hl, h => by simp at hl
  | x :: ls, t :: ts, at_, hl, h => by
    obtain ⟨h1, h2, h3⟩ := h
    have ih := repL_len b ls ts x.til (by simpa using hl) h3
    have il := repL_long b ls ts x.til (by simpa using hl) h3
    have := repB_len (repL b ls ts) x t h2 il
    rw [repL, sumL_cons]
    omega
theorem LOk.drop : ∀ (ls : List LinkD) (i at_ n : Nat), LOk at_ n ls → ∃ at2, LOk at2 n (ls.drop i)
  | _ls, 0, at_, _n, h => ⟨at_, h⟩
  | [], _i + 1, at_, _n, h => ⟨at_, h⟩
  | x :: ls, i + 1, _at_, n, h => LOk.drop ls i x.til n h.2.2
/-- One round of the loop, which goes down. -/
theorem repL_step {b : List UInt8} {ls : List LinkD} {ts : List (List UInt8)} {at_ : Nat} (hok : LOk at_ b.length ls) (hl : ts.length = ls.length) (i : Nat) (hi : i < ls.length) :
    ∃ x t, ls.drop i = x :: ls.drop (i + 1) ∧ ts.drop i = t :: ts.drop (i + 1) ∧ ls[i]? = some x ∧ ts[i]? = some t ∧
      repL b (ls.drop i) (ts.drop i) = repB (repL b (ls.drop (i + 1)) (ts.drop (i + 1))) x t ∧ x.frm ≤ x.til ∧ x.til ≤ (repL b (ls.drop (i + 1)) (ts.drop (i + 1))).length ∧ (repL b (ls.drop (i + 1)) (ts.drop (i + 1))).length ≤ b.length + sumL ts := by
  have hd := List.drop_eq_getElem_cons hi
  have hi2 : i < ts.length := by omega
  have hd2 := List.drop_eq_getElem_cons hi2
  refine ⟨ls[i], ts[i], hd, hd2, List.getElem?_eq_getElem hi, List.getElem?_eq_getElem hi2, ?_, ?_, ?_, ?_⟩
  · rw [hd, hd2, repL]
  · obtain ⟨a2, h⟩ := LOk.drop ls i at_ _ hok
    rw [hd] at h
    exact h.2.1
  · obtain ⟨a2, h⟩ := LOk.drop ls i at_ _ hok
    rw [hd] at h
    exact repL_long b _ _ _ (by simp; omega) h.2.2
  · obtain ⟨a2, h⟩ := LOk.drop ls (i + 1) at_ _ hok
    have h1 := repL_len b _ (ts.drop (i + 1)) _ (by simp; omega) h
    have h2 : sumL ts = sumL (ts.take (i + 1)) + sumL (ts.drop (i + 1)) := by
      conv => lhs; rw [← List.take_append_drop (i + 1) ts]
      unfold sumL
      rw [List.map_append, List.sum_append]
    omega
theorem put_repL {l : List UInt8} {ls : List LinkD} (h : findB l = some ls) (ts : List (List UInt8)) (hl : ts.length = ls.length) : putL l 0 [] ls ts = repL l ls ts := by
  rw [findB_eq] at h
  split at h
  · cases h
  · have h := Option.some.inj h
    subst h
    rw [links_len] at hl
    exact (repL_put l ts hl).symm
/-- What the document asks of a text. -/
def okT2 (b : UInt8) : Bool := decide (33 ≤ b.toNat) && decide (b.toNat ≤ 126) && !([34, 39, 60, 62, 38, 61].contains b)
theorem okT2_bad : ∀ b : Fin 256, okT2 (UInt8.ofNat b.val) = !(badPut b.val) := by decide +kernel
end Go.Proofs.YtacecobfhaihhaaDoor

namespace Go.Proofs.YtacecobfhaihhaaDoor
open Go.RowKit

/-! ### Bytes copied within memory of the call's own -/
/-- A block of bytes. -/
def Bf (w : World) (g : Nat) (cur : List Value) : Prop := w.heap[g]? = some (.cells cur.toArray 5 (0, 0))
theorem Bf.lt {w : World} {g : Nat} {cur : List Value} (h : Bf w g cur) : g < w.heap.size := (Array.getElem?_eq_some_iff.1 h).1
theorem Bf.cell {w : World} {g : Nat} {cur : List Value} (h : Bf w g cur) (j : Nat) : w.cell? ⟨g, j, none⟩ = cur[j]? := by
  unfold Bf at h
  simp [World.cell?, h]
theorem Bf.fz {w : World} {g : Nat} {cur : List Value} (h : Bf w g cur) (j : Nat) : w.frozen? ⟨g, j, none⟩ = false := by
  unfold Bf at h
  simp [World.frozen?, h]
theorem Bf.drew {w : World} {g : Nat} {cur : List Value} (h : Bf w g cur) : Bf w.drew g cur := h
theorem Bf.own {w : World} {g base n c : Nat} {cur : List Value} {l : List UInt8} (h : Bf w g cur) (hb : base ≤ g) (hn : n ≤ c) (hc : c ≤ maxLen) (hs : cur.length = c) (ht : cur.take n = Lib.byteCells l) (hl : l.length = n) :
    w.ownsRow base 5 1 (.slice (some ⟨g, 0, none⟩) n c) n (Lib.byteCells l) :=
  ⟨by rw [Nat.mul_one]; simpa [Lib.byteCells] using hl, .inr ⟨g, c, cur.toArray, rfl, hb, h, hn, hc, by simp; omega, by rw [Nat.mul_one]; exact ht⟩⟩
theorem own_bf {w : World} {base n c : Nat} {S : Option Addr} {l : List UInt8} (h : w.ownsRow base 5 1 (.slice S n c) n (Lib.byteCells l)) (hn : 0 < n) :
    ∃ g cur, S = some ⟨g, 0, none⟩ ∧ Bf w g cur ∧ base ≤ g ∧ n ≤ c ∧ c ≤ maxLen ∧ cur.length = c ∧ cur.take n = Lib.byteCells l := by
  rcases h.2 with ⟨h1, h2⟩ | ⟨g, cap, cur, h1, h2, h3, h4, h5, h6, h7⟩
  · omega
  · injection h1 with h1 _ h8
    subst h1; subst h8
    refine ⟨g, cur.toList, rfl, ?_, h2, h4, h5, by simp; omega, by rw [Nat.mul_one] at h7; exact h7⟩
    unfold Bf
    rw [Array.toArray_toList]
    exact h3
theorem Bf.set {w : World} {g : Nat} {cur cs : List Value} (h : Bf w g cur) : Bf (w.setRow g cs.toArray) g cs := setRow_heap w g cur.toArray cs.toArray 5 (0, 0) h
theorem Bf.cellSet {w : World} {g : Nat} {cur : List Value} (h : Bf w g cur) (o : Nat) (v : Value) : Bf (w.setCell ⟨g, o, none⟩ v) g (cur.set o v) := by
  unfold Bf at h ⊢
  simp only [World.setCell, Array.getElem?_modify, if_pos, h, Option.map_some]
  simp
theorem Bf.sets {g : Nat} : ∀ (vs : List Value) (o : Nat) (w : World) (cur : List Value), Bf w g cur → o + vs.length ≤ cur.length → Bf (w.setCells g o vs) g (cur.take o ++ vs ++ cur.drop (o + vs.length))
  | [], o, w, cur, h, _ => by simpa [World.setCells] using h
  | v :: vs, o, w, cur, h, hl => by
    rw [List.length_cons] at hl
    have ih := Bf.sets vs (o + 1) (w.setCell ⟨g, o, none⟩ v) _ (h.cellSet o v) (by simp; omega)
    rw [World.setCells]
    have e : (cur.set o v).take (o + 1) ++ vs ++ (cur.set o v).drop (o + 1 + vs.length) = cur.take o ++ (v :: vs) ++ cur.drop (o + (v :: vs).length) := by
      have h1 : (cur.set o v).take (o + 1) = cur.take o ++ [v] := by
        rw [List.take_add_one, List.take_set_of_le (Nat.le_refl _)]
        simp [show o < cur.length by omega]
      have h2 : (cur.set o v).drop (o + 1 + vs.length) = cur.drop (o + (v :: vs).length) := by
        rw [List.drop_set_of_lt (by omega), List.length_cons]
        congr 1
        omega
      rw [h1, h2]
      simp
    rw [← e]
    exact ih
theorem below_sets {B g : Nat} (hB : B ≤ g) : ∀ (vs : List Value) (o : Nat) (w0 w : World), Below B w0 w → Below B w0 (w.setCells g o vs)
  | [], _, _, _, h => by rw [World.setCells]; exact h
  | v :: vs, o, w0, w, h => by rw [World.setCells]; exact below_sets hB vs (o + 1) w0 _ (h.setCell hB v)
theorem infoByteR : (Tryd.prog.info? 5).map (·.size) = some 1 := by kernel_rfl
/-- copy into the block. -/
theorem copyB {w : World} {g : Nat} {cur : List Value} (h : Bf w g cur) (ty : TypeId) (o dLen dCap : Nat) (a : Addr) (sLen sCap : Nat) (cs : List Value) (hn : cs.length = Nat.min sLen dLen) (hsrc : ∀ j v, cs[j]? = some v → w.cell? (a.add j) = some v)
    (hfit : o + cs.length ≤ cur.length) (h1 : ∀ v ∈ cs, v.oneCell' = true) :
    (Builtin.copy_ #[22, 22] ty #[.slice (some ⟨g, o, none⟩) dLen dCap, .slice (some a) sLen sCap]).run Tryd.prog w = .ok (goInt cs.length) (w.setRow g (cur.take o ++ cs ++ cur.drop (o + cs.length)).toArray) :=
  run_copy_row (P := Tryd.prog) w 22 22 ty 5 g o dLen dCap a sLen sCap cur.toArray 5 cs Tryd.underlying22 infoByteR h hn hsrc (by simpa using hfit) h1
/-- The model's overlaps: the second slice lies in plain memory of another block. -/
theorem overlaps_second {P : Program} (w : World) (tS tR e : TypeId) (ht : P.underlying tS = some (.slice e)) (size : Nat) (hz : ∀ w, (Go.sizeOf e).run P w = .ok size w)
    (a b : Addr) (la ca lb cb : Nat) (hne : a.block ≠ b.block) (tA tB : TypeId) (kA kB : Nat)
    (hsa : w.shape? a.block = some (tA, kA)) (hsb : w.shape? b.block = some (tB, kB)) (hkA : kA ≠ 0)
    (hfb : w.frozen? b = false) (hfe : w.frozen? { block := b.block, off := kB } = false) :
    (Extern.SlicesOverlaps.overlaps #[tS, tS] #[tR] #[.slice (some a) la ca, .slice (some b) lb cb]).run P w = .ok (.bool false) w := by
  have hnb : (a.block != b.block) = true := by simpa using hne
  have hnb' : (a.block == b.block) = false := by simpa using hne
  conv => lhs; arg 2; whnf
  have e0 : ∀ (α : Type) (k : Program → Sem α), Sem.run P (Sem.program k) w = Sem.run P (k P) w := fun _ _ => rfl
  rw [e0]
  simp only [Sem.run_bind', Sem.run_pure', Result.andThen_ok]
  have ht2 : P.underlying (#[tS, tS][0]) = some (TypeDesc.slice e) := ht
  rw [ht2]
  simp only [Sem.run_pure, Result.andThen_ok]
  by_cases h0 : la = 0 ∨ lb = 0 ∨ size = 0
  · simp [hz, h0]
  · cases kA with
    | zero => exact absurd rfl hkA
    | succ kA =>
      simp [hz, h0, hnb, hnb', frozen, noView, viewAt, mayBeOne, stringish, shape, Sem.run, hsa, hsb, hfb, hfe]
end Go.Proofs.YtacecobfhaihhaaDoor

namespace Go.Proofs.YtacecobfhaihhaaDoor
open Go.RowKit

/-! ### slices.Insert at []byte -/
theorem step_copyR {ops : Array Oper} {o : Oper} {a : Act} {w : World} {K : Act → World → Prop} {Q : Exit → Act → World → Prop} {E : Prop}
    (hg : o.guard = none) (d x : Operand) (dT sT : TypeId) (hop : o.op = Op.call { callee := Callee.builtin Builtin.copy, args := #[d, x], argTypes := #[dT, sT] })
    (v u : Value) (hd : a.eval d = v) (hx : a.eval x = u) {v' : Value} {w' : World} (hr : (Builtin.copy_ #[dT, sT] o.type #[v, u]).run Tryd.prog w = .ok v' w') (hK : K (a.put o.dst v') w') :
    if Region.wanted o (yielded ops a.tmps) = true then Oper.wp Tryd.prog o a w K Q else E := by
  have hw : Region.wanted o (yielded ops a.tmps) = true := by simp [Region.wanted, hg]
  rw [if_pos hw]
  unfold Oper.wp
  simp [execOp, hop, resolve, invoke, builtin, hd, hx, hr, Result.andThen]
  exact hK
theorem byteCells_take (l : List UInt8) (k : Nat) : Lib.byteCells (l.take k) = (Lib.byteCells l).take k := by simp [Lib.byteCells, List.map_take]
theorem byteCells_drop (l : List UInt8) (k : Nat) : Lib.byteCells (l.drop k) = (Lib.byteCells l).drop k := by simp [Lib.byteCells, List.map_drop]
/-- What the block holds ahead of its end. -/
theorem cur_at {cur : List Value} {l : List UInt8} {n : Nat} (h : cur.take n = Lib.byteCells l) (_hl : l.length = n) (k j : Nat) (v : Value) (hv : (Lib.byteCells (l.drop k))[j]? = some v) : cur[k + j]? = some v := by
  rw [byteCells_drop, List.getElem?_drop, ← h, List.getElem?_take] at hv
  split at hv
  · exact hv
  · cases hv
theorem cur_take {cur : List Value} {l : List UInt8} {n : Nat} (h : cur.take n = Lib.byteCells l) (k : Nat) (hk : k ≤ n) : cur.take k = Lib.byteCells (l.take k) := by
  rw [byteCells_take, ← h, List.take_take, Nat.min_eq_left hk]
/-- First what lies behind, then what is put in. -/
theorem back_then {cur : List Value} {l t r : List UInt8} {n i k : Nat} (h : cur.take n = Lib.byteCells l) (hi : i ≤ n) (hin : n ≤ cur.length) (hk : k = i + t.length) (hf : k + r.length ≤ cur.length) :
    let cur1 := cur.take k ++ Lib.byteCells r ++ cur.drop (k + (Lib.byteCells r).length)
    let cur2 := cur1.take i ++ Lib.byteCells t ++ cur1.drop (i + (Lib.byteCells t).length)
    cur1.length = cur.length ∧ cur2.length = cur.length ∧ cur2.take (k + r.length) = Lib.byteCells (l.take i ++ (t ++ r)) := by
  subst hk
  simp only [byteCells_len]
  have e1 : (cur.take (i + t.length)).length = i + t.length := by rw [List.length_take]; omega
  have hl1 : (cur.take (i + t.length) ++ Lib.byteCells r ++ cur.drop (i + t.length + r.length)).length = cur.length := by
    rw [List.length_append, List.length_append, e1, byteCells_len, List.length_drop]; omega
  have e2 : (cur.take (i + t.length) ++ Lib.byteCells r ++ cur.drop (i + t.length + r.length)).take i = Lib.byteCells (l.take i) := by
    rw [List.append_assoc, List.take_append_of_le_length (by omega), List.take_take, Nat.min_eq_left (by omega), cur_take h i hi]
  have e3 : (cur.take (i + t.length) ++ Lib.byteCells r ++ cur.drop (i + t.length + r.length)).drop (i + t.length) = Lib.byteCells r ++ cur.drop (i + t.length + r.length) := by
    rw [List.append_assoc, List.drop_left' e1]
  have hli : (Lib.byteCells (l.take i)).length = i := by rw [← cur_take h i hi, List.length_take]; omega
  refine ⟨hl1, ?_, ?_⟩
  · rw [e2, e3, List.length_append, List.length_append, List.length_append, hli, byteCells_len, byteCells_len, List.length_drop]; omega
  · rw [e2, e3]
    have e4 : Lib.byteCells (l.take i) ++ Lib.byteCells t ++ (Lib.byteCells r ++ cur.drop (i + t.length + r.length)) = Lib.byteCells (l.take i ++ (t ++ r)) ++ cur.drop (i + t.length + r.length) := by
      simp [Lib.byteCells]
    have e5 : i + t.length + r.length = (Lib.byteCells (l.take i ++ (t ++ r))).length := by
      rw [byteCells_len] at hli
      rw [byteCells_len, List.length_append, List.length_append, hli]; omega
    rw [e4, e5, List.take_left]
/-- First what is put in, then what lies behind. -/
theorem front_then {cur : List Value} {l t r : List UInt8} {n i : Nat} (h : cur.take n = Lib.byteCells l) (hi : i ≤ n) (_hin : n ≤ cur.length) (hf : i + t.length + r.length ≤ cur.length) :
    let cur1 := cur.take i ++ Lib.byteCells t ++ cur.drop (i + (Lib.byteCells t).length)
    let cur2 := cur1.take (i + t.length) ++ Lib.byteCells r ++ cur1.drop (i + t.length + (Lib.byteCells r).length)
    cur1.length = cur.length ∧ cur2.length = cur.length ∧ cur2.take (i + t.length + r.length) = Lib.byteCells (l.take i ++ (t ++ r)) ∧ cur1.drop (i + t.length) = cur.drop (i + t.length) := by
  simp only [byteCells_len]
  have hli : (cur.take i).length = i := by rw [List.length_take]; omega
  have hl0 : (cur.take i ++ Lib.byteCells t).length = i + t.length := by rw [List.length_append, hli, byteCells_len]
  have hl1 : (cur.take i ++ Lib.byteCells t ++ cur.drop (i + t.length)).length = cur.length := by
    rw [List.length_append, hl0, List.length_drop]; omega
  have e2 : (cur.take i ++ Lib.byteCells t ++ cur.drop (i + t.length)).take (i + t.length) = cur.take i ++ Lib.byteCells t := List.take_left' hl0
  have e3 : (cur.take i ++ Lib.byteCells t ++ cur.drop (i + t.length)).drop (i + t.length) = cur.drop (i + t.length) := List.drop_left' hl0
  refine ⟨hl1, ?_, ?_, e3⟩
  · rw [e2, List.length_append, List.length_append, hl0, byteCells_len, List.length_drop, hl1]; omega
  · rw [e2, cur_take h i hi]
    have e4 : Lib.byteCells (l.take i) ++ Lib.byteCells t ++ Lib.byteCells r = Lib.byteCells (l.take i ++ (t ++ r)) := by simp [Lib.byteCells]
    rw [e4]
    refine List.take_left' ?_
    rw [← e4, List.length_append, ← cur_take h i hi, hl0, byteCells_len]
theorem overlaps_any (w : World) (a b : Addr) (la ca lb cb : Nat) (hne : a.block ≠ b.block) (tA tB : TypeId) (kA kB : Nat)
    (hsa : w.shape? a.block = some (tA, kA)) (hsb : w.shape? b.block = some (tB, kB)) (hkA : kA ≠ 0) (hfb : w.frozen? b = false) (hfe : w.frozen? { block := b.block, off := kB } = false) :
    (callFunc 88 #[.slice (some a) la ca, .slice (some b) lb cb]).run Tryd.prog w = .ok (.value (.bool false)) w := by
  rw [run_callFunc_extern Tryd.func88 (by kernel_rfl) (by kernel_rfl) (by kernel_rfl) (e := Extern.SlicesOverlaps.overlaps #[22, 22] #[4]) (by kernel_rfl),
    overlaps_second w 22 4 5 Tryd.underlying22 1 (fun w => by kernel_rfl) a b la ca lb cb hne tA tB kA kB hsa hsb hkA hfb hfe]
  rfl
theorem Bf.shape {w : World} {g : Nat} {cur : List Value} (h : Bf w g cur) : w.shape? g = some (5, cur.length) := by
  unfold Bf at h
  unfold World.shape?
  simp [h]
theorem shape_of_cell {w : World} {b o : Nat} {v : Value} (h : w.cell? ⟨b, o, none⟩ = some v) : ∃ t k, w.shape? b = some (t, k) ∧ k ≠ 0 := by
  unfold World.cell? at h
  unfold World.shape?
  cases hb : w.heap[b]? with
  | none => simp [hb] at h
  | some ob =>
    simp only [hb] at h ⊢
    cases ob with
    | cells cs t fr =>
      refine ⟨t, cs.size, by simp, ?_⟩
      intro e
      have : cs = #[] := Array.size_eq_zero_iff.1 e
      subst this
      simp at h
    | _ => simp at h
end Go.Proofs.YtacecobfhaihhaaDoor

namespace Go.Proofs.YtacecobfhaihhaaDoor
open Go.RowKit

/-- What is asked of slices.Insert, slices.Replace at bytes. -/
structure RepIn (w : World) (base g n c i vb voff m : Nat) (cur : List Value) (l t : List UInt8) : Prop where
  buf : Bf w g cur
  bas : base ≤ g
  nc : n ≤ c
  cm : c ≤ maxLen
  cl : cur.length = c
  tk : cur.take n = Lib.byteCells l
  ln : l.length = n
  i_n : i ≤ n
  m0 : 0 < m
  tl : t.length = m
  val : ∀ j v, (Lib.byteCells t)[j]? = some v → w.cell? ⟨vb, voff + j, none⟩ = some v
  ne : vb ≠ g
  big : n + m ≤ 70368744177664
def RepOut (w : World) (base : Nat) (r : List UInt8) (e : Ending) (w' : World) : Prop :=
  ∃ S' c', e = .returned (.slice S' r.length c') ∧ w'.ownsRow base 5 1 (.slice S' r.length c') r.length (Lib.byteCells r) ∧ Below base w w'
theorem zeroU8 (w : World) : (zeroValue 5).run Tryd.prog w = .ok (.int .u8 0) w := by kernel_rfl
theorem zeros_list (n : Nat) : Builtin.zeroCells (Value.int .u8 0).cells n = (List.replicate n (Value.int .u8 0)).toArray := by
  apply Array.ext
  · simp [Builtin.zeroCells, Value.cells]
  · intro i h1 h2
    simp [Builtin.zeroCells, Value.cells, Nat.mod_one]
/-- A new row of bytes: what stood ahead, then zeros. -/
theorem growZ {w : World} {g : Nat} {cur : List Value} (hb : Bf w g cur) (base i c tot : Nat) (kv : Int) (hbase : base ≤ w.heap.size) (hc : cur.length = c) (hi : i ≤ c) (hit : i < tot) (hgt : c < tot) (hk : kv = (tot : Int) - (i : Int)) (hbig : tot ≤ 70368744177664) :
    ∃ (C : Nat) (cur0 : List Value) (W0 : World), (∀ ty, (Builtin.append_ #[22, 3] ty #[.slice (some ⟨g, 0, none⟩) i c, .int .i64 kv]).run Tryd.prog w = .ok (.slice (some ⟨w.heap.size, 0, none⟩) tot C) W0) ∧ Bf W0 w.heap.size cur0 ∧ cur0.length = C ∧ tot ≤ C ∧ C ≤ maxLen ∧
      cur0.take i = cur.take i ∧ Below base w W0 ∧ (∀ a : Addr, a.block < w.heap.size → W0.cell? a = w.cell? a) := by
  obtain ⟨i0, hi0, hz0, hz1, hz2⟩ := info_parts infoByte
  have hlt : (cur.take i).length = i := by rw [List.length_take]; omega
  have hold : (Builtin.firstCells i0.size i (.slice (some ⟨g, 0, none⟩) i c)).run Tryd.prog w.drew = .ok (cur.take i).toArray w.drew := by
    rw [hz1]
    exact run_firstCells_some w.drew 1 i ⟨g, 0, none⟩ i c (cur.take i) (by omega) (fun j v hj => by
      rw [Addr.add_lit, Nat.zero_add]
      show w.cell? _ = _
      rw [hb.cell, ← hj, List.getElem?_take]
      split
      · rfl
      · rename_i hn
        rw [List.getElem?_take, if_neg hn] at hj
        cases hj)
  have hik : i + (tot - i) = tot := by omega
  have hkk : kv = ((tot - i : Nat) : Int) := by omega
  obtain ⟨C, hC⟩ : ∃ C, C = grownCap w tot c 5 := ⟨_, rfl⟩
  have hC1 : tot ≤ C := by rw [hC]; exact grownCap_ge w _ _ _
  have hC2 : C ≤ maxLen := by rw [hC]; exact grownCap_le_maxLen w tot c _ (by unfold maxLen; omega)
  refine ⟨C, cur.take i ++ List.replicate (tot - i) (.int .u8 0) ++ List.replicate (C - tot) (.int .u8 0), w.drew.alloc (.cells (cur.take i ++ List.replicate (tot - i) (Value.int .u8 0) ++ List.replicate (C - tot) (Value.int .u8 0)).toArray 5), fun ty => ?_, ?_, ?_, hC1, hC2, ?_, ?_, ?_⟩
  · have h := Lib.run_append_grow_zeros w 22 3 ty 5 i0 _ .i64 .i64 Tryd.underlying22 Tryd.underlying3 hi0 hz0 (some ⟨g, 0, none⟩) i c (cur.take i) hold (tot - i) (by omega) (by omega) (by omega) (by omega) (by rw [hz2]; omega) (by rw [hz2, hik]; exact growslice_fits hgt (by omega))
    rw [hik, ← hC, zeros_list, zeros_list] at h
    rw [hkk, h, List.append_toArray, List.append_toArray]
  · exact heap_alloc_new w.drew _
  · rw [List.length_append, List.length_append, hlt, List.length_replicate, List.length_replicate]; omega
  · rw [List.append_assoc, List.take_left' hlt]
  · exact (Below.refl _ w).drew.alloc hbase _
  · intro a ha
    exact World.cell?_alloc_lt w.drew _ a ha
set_option maxRecDepth 100000 in
set_option maxHeartbeats 4000000 in
theorem Insert_any (base g n c i vb voff m vc : Nat) (cur : List Value) (l t : List UInt8) (w : World) (h : RepIn w base g n c i vb voff m cur l t) :
    Calls Tryd.prog 87 #[.slice (some ⟨g, 0, none⟩) n c, .int .i64 (i : Nat), .slice (some ⟨vb, voff, none⟩) m vc] w (RepOut w base (l.take i ++ (t ++ l.drop i))) := by
  obtain ⟨hb, hbase, hnc, hcm, hcl, htk, hln, hin, hm, htl, hval, hne, hbig⟩ := h
  obtain ⟨i0, hi0, hz0, hz1, hz2⟩ := info_parts infoByte
  unfold RepOut
  have hrl : (l.take i ++ (t ++ l.drop i)).length = n + m := by simp; omega
  rw [hrl]
  have hown := hb.own hbase hnc hcm hcl htk hln
  have hsl : Sl w (vb + 1) 1 (some ⟨vb, voff, none⟩) m (Lib.byteCells t) := ⟨by rw [byteCells_len]; omega, fun _ => ⟨vb, voff, rfl, by omega, hval⟩⟩
  have hone := oneCell_byteCells t
  have h63 : n + m ≤ maxLen := by unfold maxLen; omega
  have h47 : (n + m) * 1 ≤ 140737488355328 := by omega
  have hbw : base ≤ w.heap.size := by have := hb.lt; omega
  have hz1' : ¬ ((m : Int) = 0) := by omega
  have i0' : (0 : Int) ≤ (i : Int) := by omega
  have i1' : (i : Int) ≤ (n : Int) := by omega
  have hcm' : c ≤ 9223372036854775807 := by unfold maxLen at hcm; omega
  by_cases hie : i = n
  · subst hie
    have he : l.take i ++ (t ++ l.drop i) = l ++ t := by rw [List.take_of_length_le (by omega), List.drop_of_length_le (by omega), List.append_nil]
    rw [he]
    have Hown := Lib.hid hown
    have Hsl := Lib.hid hsl
    clear hown hsl hval htk hb hcl hrl he
    go_enter Tryd.func87, Tryd.ntmps87
    go_wp2_with (at_builtin; refine wpList_app rfl _ _ 22 rfl base 5 i0 _ 1 1 Tryd.underlying22 hi0 hz0 hz1 hz2 rfl (by decide) (some ⟨g, 0, none⟩) i c (Lib.byteCells l) rfl Hown.out _ _ m vc (Lib.byteCells t) rfl Hsl.out hone h63 h47 hbw ?_)
    all_goals (intro S' c' w' hown' hb' hg'; go_wp2_with fail; go_ret; refine ⟨S', c', rfl, ?_, hb'⟩; rw [byteCells_append]; exact hown')
  · have hlt : i < n := by omega
    have hz2' : ¬ ((i : Int) = (n : Int)) := by omega
    have hci : ¬ (c = i) := by omega
    have wadd : IntKind.i64.wrap ((n : Int) + (m : Int)) = (n : Int) + (m : Int) := by rw [IntKind.wrap_i64]; omega
    have wim : IntKind.i64.wrap ((i : Int) + (m : Int)) = (i : Int) + (m : Int) := by rw [IntKind.wrap_i64]; omega
    have tim : ((i : Int) + (m : Int)).toNat = i + m := by omega
    have im0 : (0 : Int) ≤ (i : Int) + (m : Int) := by omega
    have im1 : (i : Int) + (m : Int) ≤ (n : Int) + (m : Int) := by omega
    have tnm : ((n : Int) + (m : Int)).toNat = n + m := by omega
    have nm0 : (0 : Int) ≤ (n : Int) + (m : Int) := by omega
    have in1 : (i : Int) ≤ (n : Int) + (m : Int) := by omega
    have hdl : (Lib.byteCells (l.drop i)).length = n - i := by rw [byteCells_len, List.length_drop, hln]
    have htc : (Lib.byteCells t).length = m := by rw [byteCells_len, htl]
    by_cases hroom : n + m ≤ c
    · have nm1 : (n : Int) + (m : Int) ≤ (c : Int) := by omega
      have dgt : decide ((c : Int) < (n : Int) + (m : Int)) = false := by simp; omega
      have ngt : ¬ ((c : Int) < (n : Int) + (m : Int)) := by omega
      have hcim : ¬ (c = i + m) := by omega
      obtain ⟨hl1, hl2, hl3⟩ := back_then (t := t) (r := l.drop i) htk hin (by omega) (k := i + m) (by omega) (by rw [List.length_drop]; omega)
      obtain ⟨cur1, hc1⟩ : ∃ x, x = cur.take (i + m) ++ Lib.byteCells (l.drop i) ++ cur.drop (i + m + (Lib.byteCells (l.drop i)).length) := ⟨_, rfl⟩
      rw [← hc1] at hl1 hl2 hl3
      obtain ⟨cur2, hc2⟩ : ∃ x, x = cur1.take i ++ Lib.byteCells t ++ cur1.drop (i + (Lib.byteCells t).length) := ⟨_, rfl⟩
      rw [← hc2] at hl2 hl3
      obtain ⟨W1, hW1⟩ : ∃ W1, W1 = w.drew.setRow g cur1.toArray := ⟨_, rfl⟩
      have hbd : Bf w.drew g cur := hb
      have hb1 : Bf W1 g cur1 := by rw [hW1]; exact hbd.set
      have hcp1 : ∀ ty dc sc, (Builtin.copy_ #[22, 22] ty #[.slice (some ⟨g, i + m, none⟩) (n + m - (i + m)) dc, .slice (some ⟨g, i, none⟩) (n + m - i) sc]).run Tryd.prog w.drew = .ok (goInt (Lib.byteCells (l.drop i)).length) W1 := fun ty dc sc => by
        rw [hW1, hc1]
        exact copyB hbd ty (i + m) _ dc ⟨g, i, none⟩ _ sc _ (by rw [hdl]; simp only [Nat.min_def]; split <;> omega) (fun j v hj => by rw [Addr.add_lit, hbd.cell]; exact cur_at htk hln i j v hj) (by rw [hdl]; omega) (oneCell_byteCells _)
      obtain ⟨W2, hW2⟩ : ∃ W2, W2 = W1.setRow g cur2.toArray := ⟨_, rfl⟩
      have hb2 : Bf W2 g cur2 := by rw [hW2]; exact hb1.set
      have hcp2 : ∀ ty dc, (Builtin.copy_ #[22, 22] ty #[.slice (some ⟨g, i, none⟩) (n + m - i) dc, .slice (some ⟨vb, voff, none⟩) m vc]).run Tryd.prog W1 = .ok (goInt (Lib.byteCells t).length) W2 := fun ty dc => by
        rw [hW2, hc2]
        exact copyB hb1 ty i _ dc ⟨vb, voff, none⟩ _ vc _ (by rw [htc]; simp only [Nat.min_def]; split <;> omega) (fun j v hj => by rw [Addr.add_lit, hW1, cell_setRow_other _ _ _ _ (by exact hne)]; exact hval j v hj) (by rw [htc, hl1]; omega) (oneCell_byteCells _)
      have hv0 : ∃ v, w.cell? ⟨vb, voff, none⟩ = some v := by
        have := hval 0 ((Lib.byteCells t)[0]'(by omega)) (List.getElem?_eq_getElem (by omega))
        exact ⟨_, by simpa using this⟩
      obtain ⟨v0, hv0⟩ := hv0
      obtain ⟨tA, kA, hsa, hkA⟩ := shape_of_cell hv0
      have hov : ∀ la ca lb cb, (callFunc 88 #[.slice (some ⟨vb, voff, none⟩) la ca, .slice (some ⟨g, i + m, none⟩) lb cb]).run Tryd.prog w = .ok (.value (.bool false)) w := fun la ca lb cb =>
        overlaps_any w ⟨vb, voff, none⟩ ⟨g, i + m, none⟩ la ca lb cb hne tA 5 kA cur.length hsa hb.shape hkA (hb.fz _) (hb.fz _)
      have hfin : W2.ownsRow base 5 1 (.slice (some ⟨g, 0, none⟩) (n + m) c) (n + m) (Lib.byteCells (l.take i ++ (t ++ l.drop i))) :=
        hb2.own hbase hroom hcm (by omega) (by rw [← hl3]; congr 1; rw [List.length_drop]; omega) hrl
      have hbel : Below base w W2 := by
        rw [hW2, hW1]
        exact below_setRow (below_setRow (Below.refl _ _).drew hbase _) hbase _
      have Hfin := Lib.hid (And.intro hfin hbel)
      have mixed : Tryd.prog.follows Departure.mixedOrders = true := by kernel_rfl
      clear hfin hbel hown hsl hval htk hb hbd hb1 hb2 hc1 hc2 hW1 hW2 hl1 hl2 hl3 hv0 hsa
      go_enter Tryd.func87, Tryd.ntmps87
      go_wp2_with (simp only [hov])
      go_region_law_o (refine step_copyR rfl _ _ 22 22 rfl _ _ (by simp [Act.eval, Act.put]) (by simp [Act.eval, Act.put]) (hcp1 _ _ _) ?_)
      go_wp2_with fail
      go_ret
      exact ⟨_, _, rfl, Hfin.out.1, Hfin.out.2⟩
    · have hgt : c < n + m := by omega
      have dgt : decide ((c : Int) < (n : Int) + (m : Int)) = true := by simp; omega
      have ngt : (c : Int) < (n : Int) + (m : Int) := by omega
      have wsub : IntKind.i64.wrap ((n : Int) + (m : Int) - (i : Int)) = (n : Int) + (m : Int) - (i : Int) := by rw [IntKind.wrap_i64]; omega
      obtain ⟨C, cur0, W0, hrz, hb0, hcl0, hC1, hC2, htk0, hbel0, hold⟩ := growZ hb base i c (n + m) ((n : Int) + (m : Int) - (i : Int)) hbw hcl (by omega) (by omega) hgt (by omega) hbig
      have hvw : vb < w.heap.size := by
        have := hval 0 ((Lib.byteCells t)[0]'(by omega)) (List.getElem?_eq_getElem (by omega))
        exact World.block_lt_of_cell? _ _ this
      have hgw := hb.lt
      have htk1 : cur0.take i = Lib.byteCells (l.take i) := by rw [htk0]; exact cur_take htk i hin
      obtain ⟨hl1, hl2, hl3, _⟩ := front_then (t := t) (r := l.drop i) htk1 (Nat.le_refl _) (by omega) (by rw [List.length_drop]; omega)
      rw [htl, List.take_take, Nat.min_self] at hl3
      rw [htl] at hl2
      obtain ⟨cur1, hc1⟩ : ∃ x, x = cur0.take i ++ Lib.byteCells t ++ cur0.drop (i + (Lib.byteCells t).length) := ⟨_, rfl⟩
      rw [← hc1] at hl1 hl2 hl3
      obtain ⟨cur2, hc2⟩ : ∃ x, x = cur1.take (i + m) ++ Lib.byteCells (l.drop i) ++ cur1.drop (i + m + (Lib.byteCells (l.drop i)).length) := ⟨_, rfl⟩
      rw [← hc2] at hl2 hl3
      obtain ⟨G, hG⟩ : ∃ G, G = w.heap.size := ⟨_, rfl⟩
      rw [← hG] at hrz hb0 hold hvw hgw
      obtain ⟨W1, hW1⟩ : ∃ W1, W1 = W0.setRow G cur1.toArray := ⟨_, rfl⟩
      have hb1 : Bf W1 G cur1 := by rw [hW1]; exact hb0.set
      have hcp1 : ∀ ty dc, (Builtin.copy_ #[22, 22] ty #[.slice (some ⟨G, i, none⟩) (n + m - i) dc, .slice (some ⟨vb, voff, none⟩) m vc]).run Tryd.prog W0 = .ok (goInt (Lib.byteCells t).length) W1 := fun ty dc => by
        rw [hW1, hc1]
        exact copyB hb0 ty i _ dc ⟨vb, voff, none⟩ _ vc _ (by rw [htc]; simp only [Nat.min_def]; split <;> omega) (fun j v hj => by rw [Addr.add_lit, hold _ hvw]; exact hval j v hj) (by rw [htc, hcl0]; omega) (oneCell_byteCells _)
      obtain ⟨W2, hW2⟩ : ∃ W2, W2 = W1.drew.setRow G cur2.toArray := ⟨_, rfl⟩
      have hb1d : Bf W1.drew G cur1 := hb1
      have hb2 : Bf W2 G cur2 := by rw [hW2]; exact hb1d.set
      have hcp2 : ∀ ty dc sc, (Builtin.copy_ #[22, 22] ty #[.slice (some ⟨G, i + m, none⟩) (n + m - (i + m)) dc, .slice (some ⟨g, i, none⟩) (n - i) sc]).run Tryd.prog W1.drew = .ok (goInt (Lib.byteCells (l.drop i)).length) W2 := fun ty dc sc => by
        rw [hW2, hc2]
        exact copyB hb1d ty (i + m) _ dc ⟨g, i, none⟩ _ sc _ (by rw [hdl]; simp only [Nat.min_def]; split <;> omega) (fun j v hj => by
          rw [Addr.add_lit]
          have e : W1.drew.cell? ⟨g, i + j, none⟩ = w.cell? ⟨g, i + j, none⟩ := by
            show W1.cell? _ = _
            rw [hW1, cell_setRow_other _ _ _ _ (by show g ≠ G; omega)]
            exact hold _ hgw
          rw [e, hb.cell]
          exact cur_at htk hln i j v hj) (by rw [hdl, hl1, hcl0]; omega) (oneCell_byteCells _)
      have hCi : ¬ (C = i) := by omega
      have hCim : ¬ (C = i + m) := by omega
      have hC3 : C ≤ 9223372036854775807 := by unfold maxLen at hC2; omega
      have hfin : W2.ownsRow base 5 1 (.slice (some ⟨G, 0, none⟩) (n + m) C) (n + m) (Lib.byteCells (l.take i ++ (t ++ l.drop i))) :=
        hb2.own (by omega) hC1 hC2 (by rw [hl2, hcl0]) (by rw [← hl3]; congr 1; rw [List.length_drop]; omega) hrl
      have hbel : Below base w W2 := by
        rw [hW2, hW1]
        exact below_setRow (below_setRow hbel0 (by omega) _).drew (by omega) _
      have Hfin := Lib.hid (And.intro hfin hbel)
      have mixed : Tryd.prog.follows Departure.mixedOrders = true := by kernel_rfl
      clear hfin hbel hbel0 hown hsl hval htk htk0 htk1 hb hb0 hb1 hb1d hb2 hc1 hc2 hW1 hW2 hl1 hl2 hl3 hold hG
      go_enter Tryd.func87, Tryd.ntmps87
      go_wp2_with (at_builtin; refine Lib.wpList_append_run _ rfl _ _ _ _ rfl _ _ rfl rfl _ _ (hrz _) ?_)
      go_region_law_o (refine step_copyR rfl _ _ 22 22 rfl _ _ (by simp [Act.eval, Act.put]) (by simp [Act.eval, Act.put]) (hcp2 _ _ _) ?_)
      go_wp2_with fail
      go_ret
      exact ⟨_, _, rfl, Hfin.out.1, Hfin.out.2⟩
end Go.Proofs.YtacecobfhaihhaaDoor

namespace Go.Proofs.YtacecobfhaihhaaDoor
open Go.RowKit

/-! ### slices.Replace at []byte -/
theorem clearNone (w : World) (ty : TypeId) (A : Option Addr) (c : Nat) : (Builtin.clear_ #[22] ty #[.slice A 0 c]).run Tryd.prog w = .ok (.tuple #[]) w := by
  cases A <;> simp [Builtin.clear_, run_underlying Tryd.underlying22]
theorem clearB {w : World} {g : Nat} {cur : List Value} (h : Bf w g cur) (ty : TypeId) (o n c : Nat) (hn : 0 < n) (hl : o + n ≤ cur.length) :
    (Builtin.clear_ #[22] ty #[.slice (some ⟨g, o, none⟩) n c]).run Tryd.prog w = .ok (.tuple #[]) (w.setCells g o (List.replicate n (.int .u8 0))) :=
  Lib.run_clear_slice w 22 5 ty (.int .u8 0) Tryd.underlying22 zeroU8 rfl rfl g o n c hn (fun j hj => by rw [h.cell, List.getElem?_eq_getElem (by omega)]; rfl) (fun j _ => h.fz _)
theorem overlaps_first (w : World) (a b : Addr) (la ca lb cb : Nat) (hne : a.block ≠ b.block) (tA tB : TypeId) (kA kB : Nat)
    (hsa : w.shape? a.block = some (tA, kA)) (hsb : w.shape? b.block = some (tB, kB)) (hkB : kB ≠ 0) (hfa : w.frozen? a = false) (hfe : w.frozen? { block := a.block, off := kA } = false) :
    (callFunc 88 #[.slice (some a) la ca, .slice (some b) lb cb]).run Tryd.prog w = .ok (.value (.bool false)) w := by
  rw [run_callFunc_extern Tryd.func88 (by kernel_rfl) (by kernel_rfl) (by kernel_rfl) (e := Extern.SlicesOverlaps.overlaps #[22, 22] #[4]) (by kernel_rfl),
    Lib.run_overlaps_apart w 22 4 5 Tryd.underlying22 1 (fun w => by kernel_rfl) a b la ca lb cb hne tA tB kA kB hsa hsb hkB hfa hfe]
  rfl
theorem appRoom {w : World} {g : Nat} {cur : List Value} (h : Bf w g cur) (ty : TypeId) (i c vb voff m vc : Nat) (t : List UInt8) (hc : cur.length = c) (htl : t.length = m) (hf : i + m ≤ c) (hval : ∀ j v, (Lib.byteCells t)[j]? = some v → w.cell? ⟨vb, voff + j, none⟩ = some v) :
    (Builtin.append_ #[22, 22] ty #[.slice (some ⟨g, 0, none⟩) i c, .slice (some ⟨vb, voff, none⟩) m vc]).run Tryd.prog w = .ok (.slice (some ⟨g, 0, none⟩) (i + m) c) (w.setRow g (cur.take i ++ Lib.byteCells t ++ cur.drop (i + (Lib.byteCells t).length)).toArray) := by
  obtain ⟨i0, hi0, hz0, hz1, hz2⟩ := info_parts infoByte
  have hr := run_append_room (P := Tryd.prog) w 22 ty 5 i0 Tryd.underlying22 hi0 g i c cur.toArray h ⟨vb, voff, none⟩ m vc (Lib.byteCells t) (by rw [byteCells_len, hz1, htl, Nat.mul_one]) (fun j u hj => by rw [Addr.add_lit]; exact hval j u hj) (oneCell_byteCells t) hf (by rw [byteCells_len, htl, hz1]; simp; omega)
  rw [hz1, Nat.mul_one] at hr
  exact hr
end Go.Proofs.YtacecobfhaihhaaDoor

namespace Go.Proofs.YtacecobfhaihhaaDoor
open Go.RowKit
set_option maxRecDepth 100000 in
set_option maxHeartbeats 4000000 in
theorem Rep_eq (base g n c i j vb voff m vc : Nat) (cur : List Value) (l t : List UInt8) (w : World) (h : RepIn w base g n c i vb voff m cur l t) (hij : i = j) :
    Calls Tryd.prog 48 #[.slice (some ⟨g, 0, none⟩) n c, .int .i64 (i : Nat), .int .i64 (j : Nat), .slice (some ⟨vb, voff, none⟩) m vc] w (RepOut w base (l.take i ++ (t ++ l.drop j))) := by
  have h' := h
  have hI := fun X => Insert_any base g n c i vb voff m vc cur l t X
  have hI := hI w h
  obtain ⟨hb, hbase, hnc, hcm, hcl, htk, hln, hin, hm, htl, hval, hne, hbig⟩ := h
  unfold RepOut
  have hbw : base ≤ w.heap.size := by have := hb.lt; omega
  have i0' : (0 : Int) ≤ (i : Int) := by omega
  have i1' : (i : Int) ≤ (n : Int) := by omega
  have j0' : (0 : Int) ≤ (j : Int) := by omega
  have j1' : (j : Int) ≤ (n : Int) := by omega
  have ij' : (i : Int) ≤ (j : Int) := by omega
  have nc' : (n : Int) ≤ (c : Int) := by omega
  have jc' : (j : Int) ≤ (c : Int) := by omega
  have ic' : (i : Int) ≤ (c : Int) := by omega
  have hcm' : c ≤ 9223372036854775807 := by unfold maxLen at hcm; omega
  subst hij
  have hid1 : ((i : Int) == (i : Int)) = true := by simp
  unfold RepOut at hI
  obtain ⟨N, hN⟩ : ∃ N, N = (l.take i ++ (t ++ l.drop i)).length := ⟨_, rfl⟩
  rw [← hN] at hI ⊢
  have HI := Lib.hid hI
  clear hI h' hb hval htk hN
  by_cases hci : c = i
  · subst hci
    go_enter Tryd.func48, Tryd.ntmps48
    go_wp2_with fail
    refine HI.out.mono ?_
    rintro e w' ⟨S', c', rfl, h1, h2⟩
    go_wp2_with fail
    go_ret
    exact ⟨S', c', rfl, h1, h2⟩
  · go_enter Tryd.func48, Tryd.ntmps48
    go_wp2_with fail
    refine HI.out.mono ?_
    rintro e w' ⟨S', c', rfl, h1, h2⟩
    go_wp2_with fail
    go_ret
    exact ⟨S', c', rfl, h1, h2⟩
set_option maxRecDepth 100000 in
set_option maxHeartbeats 4000000 in
theorem Rep_end (base g n c i j vb voff m vc : Nat) (cur : List Value) (l t : List UInt8) (w : World) (h : RepIn w base g n c i vb voff m cur l t) (hij : i < j) (hjn : j = n) :
    Calls Tryd.prog 48 #[.slice (some ⟨g, 0, none⟩) n c, .int .i64 (i : Nat), .int .i64 (j : Nat), .slice (some ⟨vb, voff, none⟩) m vc] w (RepOut w base (l.take i ++ (t ++ l.drop j))) := by
  obtain ⟨hb, hbase, hnc, hcm, hcl, htk, hln, hin, hm, htl, hval, hne, hbig⟩ := h
  unfold RepOut
  have hbw : base ≤ w.heap.size := by have := hb.lt; omega
  have i0' : (0 : Int) ≤ (i : Int) := by omega
  have i1' : (i : Int) ≤ (n : Int) := by omega
  have j0' : (0 : Int) ≤ (j : Int) := by omega
  have j1' : (j : Int) ≤ (n : Int) := by omega
  have ij' : (i : Int) ≤ (j : Int) := by omega
  have nc' : (n : Int) ≤ (c : Int) := by omega
  have jc' : (j : Int) ≤ (c : Int) := by omega
  have ic' : (i : Int) ≤ (c : Int) := by omega
  have hcm' : c ≤ 9223372036854775807 := by unfold maxLen at hcm; omega
  subst hjn
  have hci : ¬ (c = i) := by omega
  have hneq : ((i : Int) == (j : Int)) = false := by simp; omega
  have hneq' : ¬ ((i : Int) = (j : Int)) := by omega
  have htc : (Lib.byteCells t).length = m := by rw [byteCells_len, htl]
  obtain ⟨i0, hi0, hz0, hz1, hz2⟩ := info_parts infoByte
  have hrl : (l.take i ++ (t ++ l.drop j)).length = i + m := by simp; omega
  have he : l.take i ++ (t ++ l.drop j) = l.take i ++ t := by rw [List.drop_of_length_le (by omega), List.append_nil]
  rw [hrl, he]
  rw [he] at hrl
  by_cases hs : i + m < j
  · have hs1 : (i : Int) + (m : Int) < (j : Int) := by omega
    have ds : decide ((i : Int) + (m : Int) < (j : Int)) = true := by simpa using hs1
    have im0 : (0 : Int) ≤ (i : Int) + (m : Int) := by omega
    have im1 : (i : Int) + (m : Int) ≤ (j : Int) := by omega
    have tim : ((i : Int) + (m : Int)).toNat = i + m := by omega
    have hcim : ¬ (c = i + m) := by omega
    obtain ⟨cur1, hc1⟩ : ∃ x, x = cur.take i ++ Lib.byteCells t ++ cur.drop (i + (Lib.byteCells t).length) := ⟨_, rfl⟩
    obtain ⟨W1, hW1⟩ : ∃ W1, W1 = w.setRow g cur1.toArray := ⟨_, rfl⟩
    have hap : ∀ ty, (Builtin.append_ #[22, 22] ty #[.slice (some ⟨g, 0, none⟩) i c, .slice (some ⟨vb, voff, none⟩) m vc]).run Tryd.prog w = .ok (.slice (some ⟨g, 0, none⟩) (i + m) c) W1 := fun ty => by
      rw [hW1, hc1]
      exact appRoom hb ty i c vb voff m vc t hcl htl (by omega) hval
    have hb1 : Bf W1 g cur1 := by rw [hW1]; exact hb.set
    have hl1 : cur1.length = c := by rw [hc1, List.length_append, List.length_append, List.length_take, List.length_drop, htc]; omega
    have ht1 : cur1.take (i + m) = Lib.byteCells (l.take i ++ t) := by
      rw [hc1, List.take_left' (by rw [List.length_append, List.length_take, htc]; omega), cur_take htk i hin]
      simp [Lib.byteCells]
    obtain ⟨W2, hW2⟩ : ∃ W2, W2 = W1.setCells g (i + m) (List.replicate (j - (i + m)) (.int .u8 0)) := ⟨_, rfl⟩
    have hcl1 : ∀ ty dc, (Builtin.clear_ #[22] ty #[.slice (some ⟨g, i + m, none⟩) (j - (i + m)) dc]).run Tryd.prog W1 = .ok (.tuple #[]) W2 := fun ty dc => by
      rw [hW2]
      exact clearB hb1 ty (i + m) _ dc (by omega) (by omega)
    have hb2 := Bf.sets (List.replicate (j - (i + m)) (.int .u8 0)) (i + m) W1 cur1 hb1 (by rw [List.length_replicate]; omega)
    rw [← hW2] at hb2
    have hfin : W2.ownsRow base 5 1 (.slice (some ⟨g, 0, none⟩) (i + m) c) (i + m) (Lib.byteCells (l.take i ++ t)) := by
      refine hb2.own hbase (by omega) hcm ?_ ?_ hrl
      · rw [List.length_append, List.length_append, List.length_take, List.length_drop, List.length_replicate]; omega
      · rw [List.append_assoc, List.take_left' (by rw [List.length_take]; omega)]
        exact ht1
    have hbel : Below base w W2 := by
      rw [hW2, hW1]
      exact below_sets hbase _ _ _ _ (below_setRow (Below.refl _ _) hbase _)
    have Hfin := Lib.hid (And.intro hfin hbel)
    clear hfin hbel hval htk hb hb1 hb2 hc1 hW1 hW2 hl1 ht1
    go_enter Tryd.func48, Tryd.ntmps48
    go_wp2_with (at_builtin; refine Lib.wpList_append_run _ rfl _ _ _ _ rfl _ _ rfl rfl _ _ (hap _) ?_)
    go_ret
    exact ⟨_, _, rfl, Hfin.out.1, Hfin.out.2⟩
  · have hs1 : ¬ ((i : Int) + (m : Int) < (j : Int)) := by omega
    have ds : decide ((i : Int) + (m : Int) < (j : Int)) = false := by simpa using hs1
    have hown : w.ownsRow base 5 1 (.slice (some ⟨g, 0, none⟩) i c) i (Lib.byteCells (l.take i)) := hb.own hbase (by omega) hcm hcl (cur_take htk i hin) (by rw [List.length_take]; omega)
    have hsl : Sl w (vb + 1) 1 (some ⟨vb, voff, none⟩) m (Lib.byteCells t) := ⟨by rw [byteCells_len]; omega, fun _ => ⟨vb, voff, rfl, by omega, hval⟩⟩
    have hone := oneCell_byteCells t
    have h63 : i + m ≤ maxLen := by unfold maxLen; omega
    have h47 : (i + m) * 1 ≤ 140737488355328 := by omega
    have Hown := Lib.hid hown
    have Hsl := Lib.hid hsl
    clear hown hsl hval htk hb hcl hrl he
    go_enter Tryd.func48, Tryd.ntmps48
    go_wp2_with (at_builtin; refine wpList_app rfl _ _ 22 rfl base 5 i0 _ 1 1 Tryd.underlying22 hi0 hz0 hz1 hz2 rfl (by decide) (some ⟨g, 0, none⟩) i c (Lib.byteCells (l.take i)) rfl Hown.out _ _ m vc (Lib.byteCells t) rfl Hsl.out hone h63 h47 hbw ?_)
    intro S' c' w' hown' hb' hg'
    go_wp2_with fail
    go_ret
    refine ⟨S', c', rfl, ?_, hb'⟩
    rw [byteCells_append]
    exact hown'
set_option maxRecDepth 100000 in
set_option maxHeartbeats 4000000 in
theorem Rep_grow (base g n c i j vb voff m vc : Nat) (cur : List Value) (l t : List UInt8) (w : World) (h : RepIn w base g n c i vb voff m cur l t) (hij : i < j) (hjn : j < n) (hgt : c < i + m + (n - j)) :
    Calls Tryd.prog 48 #[.slice (some ⟨g, 0, none⟩) n c, .int .i64 (i : Nat), .int .i64 (j : Nat), .slice (some ⟨vb, voff, none⟩) m vc] w (RepOut w base (l.take i ++ (t ++ l.drop j))) := by
  obtain ⟨hb, hbase, hnc, hcm, hcl, htk, hln, hin, hm, htl, hval, hne, hbig⟩ := h
  unfold RepOut
  have hbw : base ≤ w.heap.size := by have := hb.lt; omega
  have i0' : (0 : Int) ≤ (i : Int) := by omega
  have i1' : (i : Int) ≤ (n : Int) := by omega
  have j0' : (0 : Int) ≤ (j : Int) := by omega
  have j1' : (j : Int) ≤ (n : Int) := by omega
  have ij' : (i : Int) ≤ (j : Int) := by omega
  have nc' : (n : Int) ≤ (c : Int) := by omega
  have jc' : (j : Int) ≤ (c : Int) := by omega
  have ic' : (i : Int) ≤ (c : Int) := by omega
  have hcm' : c ≤ 9223372036854775807 := by unfold maxLen at hcm; omega
  have hci : ¬ (c = i) := by omega
  have hneq : ((i : Int) == (j : Int)) = false := by simp; omega
  have hneq' : ¬ ((i : Int) = (j : Int)) := by omega
  have htc : (Lib.byteCells t).length = m := by rw [byteCells_len, htl]
  have hjn1 : ((j : Int) == (n : Int)) = false := by simp; omega
  have hjn2 : ¬ ((j : Int) = (n : Int)) := by omega
  have hcj : ¬ (c = j) := by omega
  obtain ⟨q, hq⟩ : ∃ q, q = n - j := ⟨_, rfl⟩
  have hq1 : n - j = q := hq.symm
  have Hq := Lib.hid hq
  have hq0 : ¬ (q = 0) := by omega
  have hm0 : ¬ (m = 0) := by omega
  have wim : IntKind.i64.wrap ((i : Int) + (m : Int)) = (i : Int) + (m : Int) := by rw [IntKind.wrap_i64]; omega
  have wimq : IntKind.i64.wrap ((i : Int) + (m : Int) + (q : Int)) = (i : Int) + (m : Int) + (q : Int) := by rw [IntKind.wrap_i64]; omega
  have tim : ((i : Int) + (m : Int)).toNat = i + m := by omega
  have im0 : (0 : Int) ≤ (i : Int) + (m : Int) := by omega
  have im1 : (i : Int) + (m : Int) ≤ (i : Int) + (m : Int) + (q : Int) := by omega
  have im2 : (i : Int) ≤ (i : Int) + (m : Int) + (q : Int) := by omega
  have ttot : ((i : Int) + (m : Int) + (q : Int)).toNat = i + m + q := by omega
  have tot0 : (0 : Int) ≤ (i : Int) + (m : Int) + (q : Int) := by omega
  have hdl : (Lib.byteCells (l.drop j)).length = q := by rw [byteCells_len, List.length_drop, hln, hq]
  have hrl : (l.take i ++ (t ++ l.drop j)).length = i + m + q := by simp; omega
  rw [hrl]
  have mixed : Tryd.prog.follows Departure.mixedOrders = true := by kernel_rfl
  have HH := Lib.hid (And.intro hb (And.intro hcl (And.intro htk hval)))
  rw [hq1] at hgt
  have dgt : decide ((c : Int) < (i : Int) + (m : Int) + (q : Int)) = true := by simp; omega
  have ngt : (c : Int) < (i : Int) + (m : Int) + (q : Int) := by omega
  have wsub : IntKind.i64.wrap ((i : Int) + (m : Int) + (q : Int) - (i : Int)) = (i : Int) + (m : Int) + (q : Int) - (i : Int) := by rw [IntKind.wrap_i64]; omega
  clear hb hcl htk hval hq
  go_enter Tryd.func48, Tryd.ntmps48
  go_wp2_with fail
  go_quiet (fail)
  generalize hW0' : World.drewN w _ = W0'
  obtain ⟨hb, hcl, htk, hval⟩ := HH.out
  have hq := Hq.out
  have hbd : Bf W0' g cur := by rw [← hW0']; exact hb
  have hbelD : Below base w W0' := by rw [← hW0']; exact belN (Below.refl _ _) _
  have hsD : W0'.heap.size = w.heap.size := by rw [← hW0']; rfl
  have hcD : ∀ a, W0'.cell? a = w.cell? a := fun a => by rw [← hW0']; rfl
  rw [← hsD] at hbw
  obtain ⟨C, cur0, W0, hrz, hb0, hcl0, hC1, hC2, htk0, hbel0, hold⟩ := growZ hbd base i c (i + m + q) ((i : Int) + (m : Int) + (q : Int) - (i : Int)) hbw hcl (by omega) (by omega) hgt (by omega) (by omega)
  have hvw : vb < W0'.heap.size := by
    have := hval 0 ((Lib.byteCells t)[0]'(by omega)) (List.getElem?_eq_getElem (by omega))
    rw [hsD]
    exact World.block_lt_of_cell? _ _ this
  have hgw := hbd.lt
  have htk1 : cur0.take i = Lib.byteCells (l.take i) := by rw [htk0]; exact cur_take htk i hin
  obtain ⟨hl1, hl2, hl3, _⟩ := front_then (t := t) (r := l.drop j) htk1 (Nat.le_refl _) (by omega) (by rw [List.length_drop]; omega)
  rw [htl, List.take_take, Nat.min_self] at hl3
  rw [htl] at hl2
  obtain ⟨cur1, hc1⟩ : ∃ x, x = cur0.take i ++ Lib.byteCells t ++ cur0.drop (i + (Lib.byteCells t).length) := ⟨_, rfl⟩
  rw [← hc1] at hl1 hl2 hl3
  obtain ⟨cur2, hc2⟩ : ∃ x, x = cur1.take (i + m) ++ Lib.byteCells (l.drop j) ++ cur1.drop (i + m + (Lib.byteCells (l.drop j)).length) := ⟨_, rfl⟩
  rw [← hc2] at hl2 hl3
  obtain ⟨G, hG⟩ : ∃ G, G = W0'.heap.size := ⟨_, rfl⟩
  rw [← hG] at hrz hb0 hold hvw hgw
  obtain ⟨W1, hW1⟩ : ∃ W1, W1 = W0.setRow G cur1.toArray := ⟨_, rfl⟩
  have hb1 : Bf W1 G cur1 := by rw [hW1]; exact hb0.set
  have hcp1 : ∀ ty dc, (Builtin.copy_ #[22, 22] ty #[.slice (some ⟨G, i, none⟩) (i + m + q - i) dc, .slice (some ⟨vb, voff, none⟩) m vc]).run Tryd.prog W0 = .ok (goInt (Lib.byteCells t).length) W1 := fun ty dc => by
    rw [hW1, hc1]
    exact copyB hb0 ty i _ dc ⟨vb, voff, none⟩ _ vc _ (by rw [htc]; simp only [Nat.min_def]; split <;> omega) (fun k v hk => by rw [Addr.add_lit, hold _ hvw, hcD]; exact hval k v hk) (by rw [htc, hcl0]; omega) (oneCell_byteCells _)
  obtain ⟨W2, hW2⟩ : ∃ W2, W2 = W1.drew.setRow G cur2.toArray := ⟨_, rfl⟩
  have hb1d : Bf W1.drew G cur1 := hb1
  have hb2 : Bf W2 G cur2 := by rw [hW2]; exact hb1d.set
  have hcp2 : ∀ ty dl dc sl sc, dl = q → sl = q → (Builtin.copy_ #[22, 22] ty #[.slice (some ⟨G, i + m, none⟩) dl dc, .slice (some ⟨g, j, none⟩) sl sc]).run Tryd.prog W1.drew = .ok (goInt (Lib.byteCells (l.drop j)).length) W2 := fun ty dl dc sl sc hdl1 hsl1 => by
    rw [hdl1, hsl1, hW2, hc2]
    exact copyB hb1d ty (i + m) _ dc ⟨g, j, none⟩ _ sc _ (by rw [hdl]; simp only [Nat.min_def]; split <;> omega) (fun k v hk => by
      rw [Addr.add_lit]
      have e : W1.drew.cell? ⟨g, j + k, none⟩ = W0'.cell? ⟨g, j + k, none⟩ := by
        show W1.cell? _ = _
        rw [hW1, cell_setRow_other _ _ _ _ (by show g ≠ G; omega)]
        exact hold _ hgw
      rw [e, hbd.cell]
      exact cur_at htk hln j k v hk) (by rw [hdl, hl1, hcl0]; omega) (oneCell_byteCells _)
  have hCi : ¬ (C = i) := by omega
  have hCim : ¬ (C = i + m) := by omega
  have hC3 : C ≤ 9223372036854775807 := by unfold maxLen at hC2; omega
  have hfin : W2.ownsRow base 5 1 (.slice (some ⟨G, 0, none⟩) (i + m + q) C) (i + m + q) (Lib.byteCells (l.take i ++ (t ++ l.drop j))) :=
    hb2.own (by omega) hC1 hC2 (by rw [hl2, hcl0]) (by rw [← hl3]; congr 1; rw [List.length_drop]; omega) hrl
  have hbel : Below base w W2 := by
    rw [hW2, hW1]
    exact hbelD.trans ((below_setRow (below_setRow hbel0 (by omega) _).drew (by omega) _))
  have Hfin := Lib.hid (And.intro hfin hbel)
  clear hfin hbel hbel0 hbelD hval htk htk0 htk1 hb hbd hb0 hb1 hb1d hb2 hc1 hc2 hW1 hW2 hl1 hl2 hl3 hold hG hsD hcD hW0' hq
  go_wp2_with (at_builtin; refine Lib.wpList_append_run _ rfl _ _ _ _ rfl _ _ rfl rfl _ _ (hrz _) ?_)
  go_region_law_o (refine step_copyR rfl _ _ 22 22 rfl _ _ (by simp [Act.eval, Act.put]) (by simp [Act.eval, Act.put]) (hcp2 _ _ _ _ _ (by omega) (by omega)) ?_)
  go_wp2_with fail
  go_ret
  exact ⟨_, _, rfl, Hfin.out.1, Hfin.out.2⟩
set_option maxRecDepth 100000 in
set_option maxHeartbeats 4000000 in
theorem Rep_less (base g n c i j vb voff m vc : Nat) (cur : List Value) (l t : List UInt8) (w : World) (h : RepIn w base g n c i vb voff m cur l t) (hij : i < j) (hjn : j < n) (hgt : i + m + (n - j) ≤ c) (hle : i + m ≤ j) :
    Calls Tryd.prog 48 #[.slice (some ⟨g, 0, none⟩) n c, .int .i64 (i : Nat), .int .i64 (j : Nat), .slice (some ⟨vb, voff, none⟩) m vc] w (RepOut w base (l.take i ++ (t ++ l.drop j))) := by
  obtain ⟨hb, hbase, hnc, hcm, hcl, htk, hln, hin, hm, htl, hval, hne, hbig⟩ := h
  unfold RepOut
  have hbw : base ≤ w.heap.size := by have := hb.lt; omega
  have i0' : (0 : Int) ≤ (i : Int) := by omega
  have i1' : (i : Int) ≤ (n : Int) := by omega
  have j0' : (0 : Int) ≤ (j : Int) := by omega
  have j1' : (j : Int) ≤ (n : Int) := by omega
  have ij' : (i : Int) ≤ (j : Int) := by omega
  have nc' : (n : Int) ≤ (c : Int) := by omega
  have jc' : (j : Int) ≤ (c : Int) := by omega
  have ic' : (i : Int) ≤ (c : Int) := by omega
  have hcm' : c ≤ 9223372036854775807 := by unfold maxLen at hcm; omega
  have hci : ¬ (c = i) := by omega
  have hneq : ((i : Int) == (j : Int)) = false := by simp; omega
  have hneq' : ¬ ((i : Int) = (j : Int)) := by omega
  have htc : (Lib.byteCells t).length = m := by rw [byteCells_len, htl]
  have hjn1 : ((j : Int) == (n : Int)) = false := by simp; omega
  have hjn2 : ¬ ((j : Int) = (n : Int)) := by omega
  have hcj : ¬ (c = j) := by omega
  obtain ⟨q, hq⟩ : ∃ q, q = n - j := ⟨_, rfl⟩
  have hq1 : n - j = q := hq.symm
  have Hq := Lib.hid hq
  have hq0 : ¬ (q = 0) := by omega
  have hm0 : ¬ (m = 0) := by omega
  have wim : IntKind.i64.wrap ((i : Int) + (m : Int)) = (i : Int) + (m : Int) := by rw [IntKind.wrap_i64]; omega
  have wimq : IntKind.i64.wrap ((i : Int) + (m : Int) + (q : Int)) = (i : Int) + (m : Int) + (q : Int) := by rw [IntKind.wrap_i64]; omega
  have tim : ((i : Int) + (m : Int)).toNat = i + m := by omega
  have im0 : (0 : Int) ≤ (i : Int) + (m : Int) := by omega
  have im1 : (i : Int) + (m : Int) ≤ (i : Int) + (m : Int) + (q : Int) := by omega
  have im2 : (i : Int) ≤ (i : Int) + (m : Int) + (q : Int) := by omega
  have ttot : ((i : Int) + (m : Int) + (q : Int)).toNat = i + m + q := by omega
  have tot0 : (0 : Int) ≤ (i : Int) + (m : Int) + (q : Int) := by omega
  have hdl : (Lib.byteCells (l.drop j)).length = q := by rw [byteCells_len, List.length_drop, hln, hq]
  have hrl : (l.take i ++ (t ++ l.drop j)).length = i + m + q := by simp; omega
  rw [hrl]
  have mixed : Tryd.prog.follows Departure.mixedOrders = true := by kernel_rfl
  have HH := Lib.hid (And.intro hb (And.intro hcl (And.intro htk hval)))
  rw [hq1] at hgt
  have dgt : decide ((c : Int) < (i : Int) + (m : Int) + (q : Int)) = false := by simp; omega
  have ngt : ¬ ((c : Int) < (i : Int) + (m : Int) + (q : Int)) := by omega
  have tot1 : (i : Int) + (m : Int) + (q : Int) ≤ (c : Int) := by omega
  have hcim : ¬ (c = i + m) := by omega
  have dle : decide ((i : Int) + (m : Int) ≤ (j : Int)) = true := by simp; omega
  have nle : (i : Int) + (m : Int) ≤ (j : Int) := by omega
  have totn : (i : Int) + (m : Int) + (q : Int) ≤ (n : Int) := by omega
  clear hb hcl htk hval hq
  by_cases hct : c = i + m + q
  · subst hct
    go_enter Tryd.func48, Tryd.ntmps48
    go_wp2_with fail
    go_quiet (fail)
    generalize hW0 : World.drewN w _ = W0
    obtain ⟨hb, hcl, htk, hval⟩ := HH.out
    have hq := Hq.out
    obtain ⟨hl1, hl2, hl3, hl4⟩ := front_then (t := t) (r := l.drop j) htk hin (by omega) (by rw [List.length_drop]; omega)
    rw [htl] at hl2 hl3 hl4
    obtain ⟨cur1, hc1⟩ : ∃ x, x = cur.take i ++ Lib.byteCells t ++ cur.drop (i + (Lib.byteCells t).length) := ⟨_, rfl⟩
    rw [← hc1] at hl1 hl2 hl3 hl4
    obtain ⟨cur2, hc2⟩ : ∃ x, x = cur1.take (i + m) ++ Lib.byteCells (l.drop j) ++ cur1.drop (i + m + (Lib.byteCells (l.drop j)).length) := ⟨_, rfl⟩
    rw [← hc2] at hl2 hl3
    have hb0 : Bf W0 g cur := by rw [← hW0]; exact hb
    have hcD : ∀ a, W0.cell? a = w.cell? a := fun a => by rw [← hW0]; rfl
    obtain ⟨W1, hW1⟩ : ∃ W1, W1 = W0.setRow g cur1.toArray := ⟨_, rfl⟩
    have hb1 : Bf W1 g cur1 := by rw [hW1]; exact hb0.set
    have hcp1 : ∀ ty dc, (Builtin.copy_ #[22, 22] ty #[.slice (some ⟨g, i, none⟩) (i + m + q - i) dc, .slice (some ⟨vb, voff, none⟩) m vc]).run Tryd.prog W0 = .ok (goInt (Lib.byteCells t).length) W1 := fun ty dc => by
      rw [hW1, hc1]
      exact copyB hb0 ty i _ dc ⟨vb, voff, none⟩ _ vc _ (by rw [htc]; simp only [Nat.min_def]; split <;> omega) (fun k v hk => by rw [Addr.add_lit, hcD]; exact hval k v hk) (by rw [htc]; omega) (oneCell_byteCells _)
    obtain ⟨W2, hW2⟩ : ∃ W2, W2 = W1.drew.setRow g cur2.toArray := ⟨_, rfl⟩
    have hb1d : Bf W1.drew g cur1 := hb1
    have hb2 : Bf W2 g cur2 := by rw [hW2]; exact hb1d.set
    have hcp2 : ∀ ty dl dc sl sc, dl = q → sl = q → (Builtin.copy_ #[22, 22] ty #[.slice (some ⟨g, i + m, none⟩) dl dc, .slice (some ⟨g, j, none⟩) sl sc]).run Tryd.prog W1.drew = .ok (goInt (Lib.byteCells (l.drop j)).length) W2 := fun ty dl dc sl sc hdl1 hsl1 => by
      rw [hdl1, hsl1, hW2, hc2]
      exact copyB hb1d ty (i + m) _ dc ⟨g, j, none⟩ _ sc _ (by rw [hdl]; simp only [Nat.min_def]; split <;> omega) (fun k v hk => by
        rw [Addr.add_lit, hb1d.cell]
        have h1 := cur_at htk hln j k v hk
        have e : j + k = (i + m) + (j + k - (i + m)) := by omega
        rw [e, ← List.getElem?_drop, hl4, List.getElem?_drop, ← e]
        exact h1) (by rw [hdl, hl1]; omega) (oneCell_byteCells _)
    have hcl3 : ∃ W3 : World, (∀ ty dc, (Builtin.clear_ #[22] ty #[.slice (some ⟨g, i + m + q, none⟩) (n - (i + m + q)) dc]).run Tryd.prog W2 = .ok (.tuple #[]) W3) ∧ (∀ A ty dc, n - (i + m + q) = 0 → (Builtin.clear_ #[22] ty #[.slice A (n - (i + m + q)) dc]).run Tryd.prog W2 = .ok (.tuple #[]) W3) ∧ W3.ownsRow base 5 1 (.slice (some ⟨g, 0, none⟩) (i + m + q) (i + m + q)) (i + m + q) (Lib.byteCells (l.take i ++ (t ++ l.drop j))) ∧ Below base w W3 := by
      have hbel2 : Below base w W2 := by
        rw [hW2, hW1, ← hW0]
        exact below_setRow (below_setRow (belN (Below.refl _ _) _) hbase _).drew hbase _
      have hl3' : cur2.take (i + m + q) = Lib.byteCells (l.take i ++ (t ++ l.drop j)) := by rw [← hl3]; congr 1; rw [List.length_drop]; omega
      by_cases hz : n - (i + m + q) = 0
      · refine ⟨W2, fun ty dc => ?_, fun A ty dc h0 => ?_, hb2.own hbase hgt hcm (by rw [hl2]; exact hcl) hl3' hrl, hbel2⟩
        · rw [hz]; exact clearNone _ _ _ _
        · rw [hz]; exact clearNone _ _ _ _
      · refine ⟨W2.setCells g (i + m + q) (List.replicate (n - (i + m + q)) (.int .u8 0)), fun ty dc => clearB hb2 ty _ _ dc (by omega) (by omega), fun A ty dc h0 => absurd h0 hz, ?_, below_sets hbase _ _ _ _ hbel2⟩
        have hb3 := Bf.sets (List.replicate (n - (i + m + q)) (.int .u8 0)) (i + m + q) W2 cur2 hb2 (by rw [List.length_replicate]; omega)
        refine hb3.own hbase hgt hcm ?_ ?_ hrl
        · rw [List.length_append, List.length_append, List.length_take, List.length_drop, List.length_replicate]; omega
        · rw [List.append_assoc, List.take_left' (by rw [List.length_take]; omega)]
          exact hl3'
    obtain ⟨W3, hclA, hclB, hfin, hbel⟩ := hcl3
    have Hfin := Lib.hid (And.intro hfin hbel)
    clear hfin hbel hval htk hb hb0 hb1 hb1d hb2 hc1 hc2 hW0 hW1 hW2 hl1 hl2 hl3 hl4 hcD hq
    have hz : n - (i + m + q) = 0 := by omega
    have hclC := fun A ty dc => hclB A ty dc hz
    have hclD := hclC
    rw [hz] at hclD
    clear hclB hclA
    go_wp2_with fail
    go_region_law_o (refine step_copyR rfl _ _ 22 22 rfl _ _ (by simp [Act.eval, Act.put]) (by simp [Act.eval, Act.put]) (hcp2 _ _ _ _ _ (by omega) (by omega)) ?_)
    go_wp2_with fail
    go_ret
    exact ⟨_, _, rfl, Hfin.out.1, Hfin.out.2⟩
  · have hct' := hct
    go_enter Tryd.func48, Tryd.ntmps48
    go_wp2_with fail
    go_quiet (fail)
    generalize hW0 : World.drewN w _ = W0
    obtain ⟨hb, hcl, htk, hval⟩ := HH.out
    have hq := Hq.out
    obtain ⟨hl1, hl2, hl3, hl4⟩ := front_then (t := t) (r := l.drop j) htk hin (by omega) (by rw [List.length_drop]; omega)
    rw [htl] at hl2 hl3 hl4
    obtain ⟨cur1, hc1⟩ : ∃ x, x = cur.take i ++ Lib.byteCells t ++ cur.drop (i + (Lib.byteCells t).length) := ⟨_, rfl⟩
    rw [← hc1] at hl1 hl2 hl3 hl4
    obtain ⟨cur2, hc2⟩ : ∃ x, x = cur1.take (i + m) ++ Lib.byteCells (l.drop j) ++ cur1.drop (i + m + (Lib.byteCells (l.drop j)).length) := ⟨_, rfl⟩
    rw [← hc2] at hl2 hl3
    have hb0 : Bf W0 g cur := by rw [← hW0]; exact hb
    have hcD : ∀ a, W0.cell? a = w.cell? a := fun a => by rw [← hW0]; rfl
    obtain ⟨W1, hW1⟩ : ∃ W1, W1 = W0.setRow g cur1.toArray := ⟨_, rfl⟩
    have hb1 : Bf W1 g cur1 := by rw [hW1]; exact hb0.set
    have hcp1 : ∀ ty dc, (Builtin.copy_ #[22, 22] ty #[.slice (some ⟨g, i, none⟩) (i + m + q - i) dc, .slice (some ⟨vb, voff, none⟩) m vc]).run Tryd.prog W0 = .ok (goInt (Lib.byteCells t).length) W1 := fun ty dc => by
      rw [hW1, hc1]
      exact copyB hb0 ty i _ dc ⟨vb, voff, none⟩ _ vc _ (by rw [htc]; simp only [Nat.min_def]; split <;> omega) (fun k v hk => by rw [Addr.add_lit, hcD]; exact hval k v hk) (by rw [htc]; omega) (oneCell_byteCells _)
    obtain ⟨W2, hW2⟩ : ∃ W2, W2 = W1.drew.setRow g cur2.toArray := ⟨_, rfl⟩
    have hb1d : Bf W1.drew g cur1 := hb1
    have hb2 : Bf W2 g cur2 := by rw [hW2]; exact hb1d.set
    have hcp2 : ∀ ty dl dc sl sc, dl = q → sl = q → (Builtin.copy_ #[22, 22] ty #[.slice (some ⟨g, i + m, none⟩) dl dc, .slice (some ⟨g, j, none⟩) sl sc]).run Tryd.prog W1.drew = .ok (goInt (Lib.byteCells (l.drop j)).length) W2 := fun ty dl dc sl sc hdl1 hsl1 => by
      rw [hdl1, hsl1, hW2, hc2]
      exact copyB hb1d ty (i + m) _ dc ⟨g, j, none⟩ _ sc _ (by rw [hdl]; simp only [Nat.min_def]; split <;> omega) (fun k v hk => by
        rw [Addr.add_lit, hb1d.cell]
        have h1 := cur_at htk hln j k v hk
        have e : j + k = (i + m) + (j + k - (i + m)) := by omega
        rw [e, ← List.getElem?_drop, hl4, List.getElem?_drop, ← e]
        exact h1) (by rw [hdl, hl1]; omega) (oneCell_byteCells _)
    have hcl3 : ∃ W3 : World, (∀ ty dc, (Builtin.clear_ #[22] ty #[.slice (some ⟨g, i + m + q, none⟩) (n - (i + m + q)) dc]).run Tryd.prog W2 = .ok (.tuple #[]) W3) ∧ (∀ A ty dc, n - (i + m + q) = 0 → (Builtin.clear_ #[22] ty #[.slice A (n - (i + m + q)) dc]).run Tryd.prog W2 = .ok (.tuple #[]) W3) ∧ W3.ownsRow base 5 1 (.slice (some ⟨g, 0, none⟩) (i + m + q) c) (i + m + q) (Lib.byteCells (l.take i ++ (t ++ l.drop j))) ∧ Below base w W3 := by
      have hbel2 : Below base w W2 := by
        rw [hW2, hW1, ← hW0]
        exact below_setRow (below_setRow (belN (Below.refl _ _) _) hbase _).drew hbase _
      have hl3' : cur2.take (i + m + q) = Lib.byteCells (l.take i ++ (t ++ l.drop j)) := by rw [← hl3]; congr 1; rw [List.length_drop]; omega
      by_cases hz : n - (i + m + q) = 0
      · refine ⟨W2, fun ty dc => ?_, fun A ty dc h0 => ?_, hb2.own hbase hgt hcm (by rw [hl2]; exact hcl) hl3' hrl, hbel2⟩
        · rw [hz]; exact clearNone _ _ _ _
        · rw [hz]; exact clearNone _ _ _ _
      · refine ⟨W2.setCells g (i + m + q) (List.replicate (n - (i + m + q)) (.int .u8 0)), fun ty dc => clearB hb2 ty _ _ dc (by omega) (by omega), fun A ty dc h0 => absurd h0 hz, ?_, below_sets hbase _ _ _ _ hbel2⟩
        have hb3 := Bf.sets (List.replicate (n - (i + m + q)) (.int .u8 0)) (i + m + q) W2 cur2 hb2 (by rw [List.length_replicate]; omega)
        refine hb3.own hbase hgt hcm ?_ ?_ hrl
        · rw [List.length_append, List.length_append, List.length_take, List.length_drop, List.length_replicate]; omega
        · rw [List.append_assoc, List.take_left' (by rw [List.length_take]; omega)]
          exact hl3'
    obtain ⟨W3, hclA, hclB, hfin, hbel⟩ := hcl3
    have Hfin := Lib.hid (And.intro hfin hbel)
    clear hfin hbel hval htk hb hb0 hb1 hb1d hb2 hc1 hc2 hW0 hW1 hW2 hl1 hl2 hl3 hl4 hcD hq
    clear hclB
    go_wp2_with fail
    go_region_law_o (refine step_copyR rfl _ _ 22 22 rfl _ _ (by simp [Act.eval, Act.put]) (by simp [Act.eval, Act.put]) (hcp2 _ _ _ _ _ (by omega) (by omega)) ?_)
    go_wp2_with fail
    go_ret
    exact ⟨_, _, rfl, Hfin.out.1, Hfin.out.2⟩
set_option maxRecDepth 100000 in
set_option maxHeartbeats 4000000 in
theorem Rep_more (base g n c i j vb voff m vc : Nat) (cur : List Value) (l t : List UInt8) (w : World) (h : RepIn w base g n c i vb voff m cur l t) (hij : i < j) (hjn : j < n) (hgt : i + m + (n - j) ≤ c) (hle : j < i + m) :
    Calls Tryd.prog 48 #[.slice (some ⟨g, 0, none⟩) n c, .int .i64 (i : Nat), .int .i64 (j : Nat), .slice (some ⟨vb, voff, none⟩) m vc] w (RepOut w base (l.take i ++ (t ++ l.drop j))) := by
  obtain ⟨hb, hbase, hnc, hcm, hcl, htk, hln, hin, hm, htl, hval, hne, hbig⟩ := h
  unfold RepOut
  have hbw : base ≤ w.heap.size := by have := hb.lt; omega
  have i0' : (0 : Int) ≤ (i : Int) := by omega
  have i1' : (i : Int) ≤ (n : Int) := by omega
  have j0' : (0 : Int) ≤ (j : Int) := by omega
  have j1' : (j : Int) ≤ (n : Int) := by omega
  have ij' : (i : Int) ≤ (j : Int) := by omega
  have nc' : (n : Int) ≤ (c : Int) := by omega
  have jc' : (j : Int) ≤ (c : Int) := by omega
  have ic' : (i : Int) ≤ (c : Int) := by omega
  have hcm' : c ≤ 9223372036854775807 := by unfold maxLen at hcm; omega
  have hci : ¬ (c = i) := by omega
  have hneq : ((i : Int) == (j : Int)) = false := by simp; omega
  have hneq' : ¬ ((i : Int) = (j : Int)) := by omega
  have htc : (Lib.byteCells t).length = m := by rw [byteCells_len, htl]
  have hjn1 : ((j : Int) == (n : Int)) = false := by simp; omega
  have hjn2 : ¬ ((j : Int) = (n : Int)) := by omega
  have hcj : ¬ (c = j) := by omega
  obtain ⟨q, hq⟩ : ∃ q, q = n - j := ⟨_, rfl⟩
  have hq1 : n - j = q := hq.symm
  have Hq := Lib.hid hq
  have hq0 : ¬ (q = 0) := by omega
  have hm0 : ¬ (m = 0) := by omega
  have wim : IntKind.i64.wrap ((i : Int) + (m : Int)) = (i : Int) + (m : Int) := by rw [IntKind.wrap_i64]; omega
  have wimq : IntKind.i64.wrap ((i : Int) + (m : Int) + (q : Int)) = (i : Int) + (m : Int) + (q : Int) := by rw [IntKind.wrap_i64]; omega
  have tim : ((i : Int) + (m : Int)).toNat = i + m := by omega
  have im0 : (0 : Int) ≤ (i : Int) + (m : Int) := by omega
  have im1 : (i : Int) + (m : Int) ≤ (i : Int) + (m : Int) + (q : Int) := by omega
  have im2 : (i : Int) ≤ (i : Int) + (m : Int) + (q : Int) := by omega
  have ttot : ((i : Int) + (m : Int) + (q : Int)).toNat = i + m + q := by omega
  have tot0 : (0 : Int) ≤ (i : Int) + (m : Int) + (q : Int) := by omega
  have hdl : (Lib.byteCells (l.drop j)).length = q := by rw [byteCells_len, List.length_drop, hln, hq]
  have hrl : (l.take i ++ (t ++ l.drop j)).length = i + m + q := by simp; omega
  rw [hrl]
  have mixed : Tryd.prog.follows Departure.mixedOrders = true := by kernel_rfl
  have HH := Lib.hid (And.intro hb (And.intro hcl (And.intro htk hval)))
  rw [hq1] at hgt
  have dgt : decide ((c : Int) < (i : Int) + (m : Int) + (q : Int)) = false := by simp; omega
  have ngt : ¬ ((c : Int) < (i : Int) + (m : Int) + (q : Int)) := by omega
  have tot1 : (i : Int) + (m : Int) + (q : Int) ≤ (c : Int) := by omega
  have hcim : ¬ (c = i + m) := by omega
  have dle : decide ((i : Int) + (m : Int) ≤ (j : Int)) = false := by simp; omega
  have nle : ¬ ((i : Int) + (m : Int) ≤ (j : Int)) := by omega
  clear hb hcl htk hval hq
  go_enter Tryd.func48, Tryd.ntmps48
  go_wp2_with fail
  go_quiet (fail)
  generalize hW0 : World.drewN w _ = W0
  obtain ⟨hb, hcl, htk, hval⟩ := HH.out
  have hq := Hq.out
  obtain ⟨hl1, hl2, hl3⟩ := back_then (t := t) (r := l.drop j) htk hin (by omega) (k := i + m) (by omega) (by rw [List.length_drop]; omega)
  obtain ⟨cur1, hc1⟩ : ∃ x, x = cur.take (i + m) ++ Lib.byteCells (l.drop j) ++ cur.drop (i + m + (Lib.byteCells (l.drop j)).length) := ⟨_, rfl⟩
  rw [← hc1] at hl1 hl2 hl3
  obtain ⟨cur2, hc2⟩ : ∃ x, x = cur1.take i ++ Lib.byteCells t ++ cur1.drop (i + (Lib.byteCells t).length) := ⟨_, rfl⟩
  rw [← hc2] at hl2 hl3
  have hb0 : Bf W0 g cur := by rw [← hW0]; exact hb
  have hcD : ∀ a, W0.cell? a = w.cell? a := fun a => by rw [← hW0]; rfl
  obtain ⟨W1, hW1⟩ : ∃ W1, W1 = W0.drew.setRow g cur1.toArray := ⟨_, rfl⟩
  have hb0d : Bf W0.drew g cur := hb0
  have hb1 : Bf W1 g cur1 := by rw [hW1]; exact hb0d.set
  have hcp1 : ∀ ty dl dc sl sc, dl = q → sl = q → (Builtin.copy_ #[22, 22] ty #[.slice (some ⟨g, i + m, none⟩) dl dc, .slice (some ⟨g, j, none⟩) sl sc]).run Tryd.prog W0.drew = .ok (goInt (Lib.byteCells (l.drop j)).length) W1 := fun ty dl dc sl sc hdl1 hsl1 => by
    rw [hdl1, hsl1, hW1, hc1]
    exact copyB hb0d ty (i + m) _ dc ⟨g, j, none⟩ _ sc _ (by rw [hdl]; simp only [Nat.min_def]; split <;> omega) (fun k v hk => by rw [Addr.add_lit, hb0d.cell]; exact cur_at htk hln j k v hk) (by rw [hdl]; omega) (oneCell_byteCells _)
  obtain ⟨W2, hW2⟩ : ∃ W2, W2 = W1.setRow g cur2.toArray := ⟨_, rfl⟩
  have hb2 : Bf W2 g cur2 := by rw [hW2]; exact hb1.set
  have hcp2 : ∀ ty dc, (Builtin.copy_ #[22, 22] ty #[.slice (some ⟨g, i, none⟩) (i + m + q - i) dc, .slice (some ⟨vb, voff, none⟩) m vc]).run Tryd.prog W1 = .ok (goInt (Lib.byteCells t).length) W2 := fun ty dc => by
    rw [hW2, hc2]
    exact copyB hb1 ty i _ dc ⟨vb, voff, none⟩ _ vc _ (by rw [htc]; simp only [Nat.min_def]; split <;> omega) (fun k v hk => by rw [Addr.add_lit, hW1, cell_setRow_other _ _ _ _ (by exact hne)]; show W0.cell? _ = _; rw [hcD]; exact hval k v hk) (by rw [htc, hl1]; omega) (oneCell_byteCells _)
  have hv0 : ∃ v, W0.cell? ⟨vb, voff, none⟩ = some v := by
    have := hval 0 ((Lib.byteCells t)[0]'(by omega)) (List.getElem?_eq_getElem (by omega))
    exact ⟨_, by rw [hcD]; simpa using this⟩
  obtain ⟨v0, hv0⟩ := hv0
  obtain ⟨tB, kB, hsb, hkB⟩ := shape_of_cell hv0
  have hov : ∀ la ca lb cb, (callFunc 88 #[.slice (some ⟨g, i + m, none⟩) la ca, .slice (some ⟨vb, voff, none⟩) lb cb]).run Tryd.prog W0 = .ok (.value (.bool false)) W0 := fun la ca lb cb =>
    overlaps_first W0 ⟨g, i + m, none⟩ ⟨vb, voff, none⟩ la ca lb cb (Ne.symm hne) 5 tB cur.length kB hb0.shape hsb hkB (hb0.fz _) (hb0.fz _)
  have hfin : W2.ownsRow base 5 1 (.slice (some ⟨g, 0, none⟩) (i + m + q) c) (i + m + q) (Lib.byteCells (l.take i ++ (t ++ l.drop j))) :=
    hb2.own hbase hgt hcm (by rw [hl2]; exact hcl) (by rw [← hl3]; congr 1; rw [List.length_drop]; omega) hrl
  have hbel : Below base w W2 := by
    rw [hW2, hW1, ← hW0]
    exact below_setRow (below_setRow (belN (Below.refl _ _) _).drew hbase _) hbase _
  have Hfin := Lib.hid (And.intro hfin hbel)
  clear hfin hbel hval htk hb hb0 hb0d hb1 hb2 hc1 hc2 hW0 hW1 hW2 hl1 hl2 hl3 hcD hq hv0 hsb
  go_wp2_with (simp only [hov])
  go_region_law_o (refine step_copyR rfl _ _ 22 22 rfl _ _ (by simp [Act.eval, Act.put]) (by simp [Act.eval, Act.put]) (hcp1 _ _ _ _ _ (by omega) (by omega)) ?_)
  go_wp2_with fail
  go_ret
  exact ⟨_, _, rfl, Hfin.out.1, Hfin.out.2⟩
/-- slices.Replace at bytes. -/
theorem Replace_any (base g n c i j vb voff m vc : Nat) (cur : List Value) (l t : List UInt8) (w : World) (h : RepIn w base g n c i vb voff m cur l t) (hij : i ≤ j) (hjn : j ≤ n) :
    Calls Tryd.prog 48 #[.slice (some ⟨g, 0, none⟩) n c, .int .i64 (i : Nat), .int .i64 (j : Nat), .slice (some ⟨vb, voff, none⟩) m vc] w (RepOut w base (l.take i ++ (t ++ l.drop j))) := by
  rcases Nat.eq_or_lt_of_le hij with h1 | h1
  · exact Rep_eq base g n c i j vb voff m vc cur l t w h h1
  · rcases Nat.eq_or_lt_of_le hjn with h2 | h2
    · exact Rep_end base g n c i j vb voff m vc cur l t w h h1 h2
    · rcases Nat.lt_or_ge c (i + m + (n - j)) with h3 | h3
      · exact Rep_grow base g n c i j vb voff m vc cur l t w h h1 h2 h3
      · rcases Nat.lt_or_ge j (i + m) with h4 | h4
        · exact Rep_more base g n c i j vb voff m vc cur l t w h h1 h2 h3 h4
        · exact Rep_less base g n c i j vb voff m vc cur l t w h h1 h2 h3 h4
end Go.Proofs.YtacecobfhaihhaaDoor

namespace Go.Proofs.YtacecobfhaihhaaDoor
open Go.RowKit

/-! ### Are all bytes within bounds? -/
def okB (lo hi : Nat) (but : List UInt8) (x : Nat) : Bool := !(decide (x < lo) || decide (hi < x) || decide (0 ≤ Lib.indexByte but (x : Int).toNat.toUInt8))
theorem all_miss (l : List UInt8) (p : Nat → Bool) (k : Nat) (hk : k < l.length) (h : p (nth l k) = false) : l.all (fun b => p b.toNat) = false := by
  rw [List.all_eq_false]
  exact ⟨l[k], List.getElem_mem hk, by rw [← nth_of l k hk, h]; simp⟩
theorem all_hit (l : List UInt8) (p : Nat → Bool) (h : ∀ j, j < l.length → p (nth l j) = true) : l.all (fun b => p b.toNat) = true := by
  rw [List.all_eq_true]
  intro x hx
  obtain ⟨j, hj, rfl⟩ := List.getElem_of_mem hx
  rw [← nth_of l j hj, h j hj]
set_option maxRecDepth 100000 in
set_option maxHeartbeats 1000000 in
theorem between_any (l : List UInt8) (lo hi : Nat) (but : ByteArray) (w : World) (hl : l.length ≤ maxLen) (_h1 : lo < 256) (_h2 : hi < 256) :
    Calls Tryd.prog 47 #[str l, .int .u8 (lo : Nat), .int .u8 (hi : Nat), .string but] w fun e w' => e = .returned (.bool (l.all (fun b => okB lo hi but.data.toList b.toNat))) ∧ w' = w := by
  unfold maxLen at hl
  have hm := fun k => all_miss l (okB lo hi but.data.toList) k
  have ha := all_hit l (okB lo hi but.data.toList)
  generalize l.all (fun b => okB lo hi but.data.toList b.toNat) = r at hm ha ⊢
  obtain ⟨n, hn⟩ : ∃ n, n = l.length := ⟨_, rfl⟩
  rw [← hn] at hm ha hl
  have Hn := Lib.hid hn
  have Hm := Lib.hid hm
  have Ha := Lib.hid ha
  clear hn hm ha
  go_enter Tryd.func47, Tryd.ntmps47
  go_wp2_with fail
  rw [← Hn.out]
  go_loopw [12] (fun iv wr => ∃ k : Nat, k ≤ n ∧ iv = .int .i64 k ∧ wr = w ∧ Hid (∀ j, j < k → okB lo hi but.data.toList (nth l j) = true)) (fun iv _ => n - (intOf iv).toNat)
  case atStart => exact ⟨0, by omega, rfl, rfl, Lib.hid fun j hj => absurd hj (by omega)⟩
  case round =>
    obtain ⟨k, hk, rfl, rfl, hz⟩ := hrel
    by_cases hkn : k < n
    · have hkl : k < l.length := by rw [← Hn.out]; exact hkn
      have hmk := Hm.out k hkn
      have hx : nth l k < 256 := nth_lt l k
      by_cases c1 : nth l k < lo
      · have d1 : decide (((nth l k : Nat) : Int) < lo) = true := by simp; omega
        have hr : Hid (r = false) := hmk (by simp [okB, c1])
        clear hmk
        go_wp2_with fail
        go_ret
        exact ⟨by rw [hr.out]; rfl, rfl⟩
      · have d1 : decide (((nth l k : Nat) : Int) < lo) = false := by simp; omega
        by_cases c2 : hi < nth l k
        · have d2 : decide ((hi : Int) < (nth l k : Nat)) = true := by simp; omega
          have hr : Hid (r = false) := hmk (by simp [okB, c2])
          clear hmk
          go_wp2_with fail
          go_ret
          exact ⟨by rw [hr.out]; rfl, rfl⟩
        · have d2 : decide ((hi : Int) < (nth l k : Nat)) = false := by simp; omega
          have hib := fun W => Go.Proofs.Tryd.strings_IndexByte but (nth l k : Nat) W
          have hok : okB lo hi but.data.toList (nth l k) = !decide (0 ≤ Lib.indexByte but.data.toList ((nth l k : Nat) : Int).toNat.toUInt8) := by simp [okB, c1, c2]
          generalize Lib.indexByte but.data.toList ((nth l k : Nat) : Int).toNat.toUInt8 = z at hib hok
          have Hib := Lib.hid hib
          have Hok := Lib.hid hok
          clear hib hok
          by_cases c3 : 0 ≤ z
          · have d3 : decide (0 ≤ z) = true := by simpa using c3
            have hr : Hid (r = false) := hmk (by rw [Hok.out, d3]; rfl)
            clear hmk
            go_wp2_with fail
            refine (Hib.out _).mono ?_
            rintro e w1 ⟨rfl, rfl⟩
            go_wp2_with fail
            go_ret
            exact ⟨by rw [hr.out]; rfl, rfl⟩
          · have d3 : decide (0 ≤ z) = false := by simpa using c3
            clear hmk
            go_wp2_with fail
            refine (Hib.out _).mono ?_
            rintro e w1 ⟨rfl, rfl⟩
            go_wp2_with fail
            refine ⟨⟨k + 1, by omega, by go_num, trivial, Lib.hid fun j hj => ?_⟩, by simp [intOf]; omega⟩
            rcases Nat.lt_or_ge j k with h | h
            · exact hz.out j h
            · rw [show j = k from by omega, Hok.out, d3]; rfl
    · have hr : Hid (r = true) := Ha.out fun j hj => hz.out j (by omega)
      go_wp2_with fail
      go_ret
      exact ⟨by rw [hr.out]; rfl, rfl⟩

end Go.Proofs.YtacecobfhaihhaaDoor

namespace Go.Proofs.YtacecobfhaihhaaDoor
open Go.RowKit
theorem wpOp_store {P : Program} {k : Nat} {K : Act → World → Prop} {w : World} {ops : Array Oper} {o : Oper} {a : Act} {Q : Exit → Act → World → Prop} (hi : ops[k]? = some o) (hw : Region.wanted o (yielded ops a.tmps) = true) (w' : World)
    (hrun : (execOp a.eval o).run P w = .ok .skip w') (h : K (a.put o.dst undef) w') : wpOp P ops Q k K a w := by
  unfold wpOp
  simp only [hi, hw, if_true]
  refine .inl ?_
  unfold Oper.wp
  rw [hrun, Oper.upon_skip]
  exact h
end Go.Proofs.YtacecobfhaihhaaDoor

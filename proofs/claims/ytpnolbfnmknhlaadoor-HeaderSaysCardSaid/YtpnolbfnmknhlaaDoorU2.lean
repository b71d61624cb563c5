import Derived.Test.YtpnolbfnmknhlaaDoorU1
import Derived.Lib.IndexBytes
import Derived.Lib.IndexMore
import Derived.Shelf.Strings.SlTrimAscii
import Derived.Lib.SmallJoins
import Derived.Laws.StructEq
import Derived.Deep.Slices
import Derived.Deep.Fields
import Derived.Test.YtpnolbfnmknhlaaDoorCards
import Derived.Test.YtpnolbfnmknhlaaDoorTie
import Derived.Deep.DeepHandedRow
import Derived.Lay
import Derived.Deep.DeepWitnessRowRef
import Derived.Shelf.Strings.CaseAny
import Derived.LaidSub
import Derived.LaidMore
import Derived.MakeChecks
import Derived.Lib.LaidU8T
import Derived.Lib.CaseU
import Derived.Shelf.Unicode.CaseLaid
import Derived.Test.YtpnolbfnmknhlaaDoorShelf
import Derived.Deep.LoopGhost
import Derived.Deep.DeepMust
import Derived.WalkKit
import Derived.ChangeSame
import Derived.Lib.LaidCase
set_option maxRecDepth 100000
set_option maxHeartbeats 40000000
namespace Go.Proofs.YtpnolbfnmknhlaaDoor
open Go.RowKit
theorem own_below {w w' : World} {base : Nat} {e : TypeId} {size : Nat} {v : Value} {n : Nat} {xs : List Value} (h : w.ownsRow base e size v n xs) (hb : Below w.heap.size w w') : w'.ownsRow base e size v n xs :=
 h.kept (row := none) ⟨hb.os, hb.tape, hb.output, hb.size, fun k hk _ => hb.block k hk⟩ (by cases h : v.ownBlock <;> simp)
theorem own_cap {w : World} {base : Nat} {e : TypeId} {size : Nat} {S : Option Addr} {n c : Nat} {xs : List Value} (h : w.ownsRow base e size (.slice S n c) n xs) : n ≤ c := by
 rcases h.2 with ⟨hv, h0⟩ | ⟨g', cap', cur', hv', _, _, hnc', _⟩
 · omega
 · injection hv' with _ _ hcc; omega
theorem cut_one_yes {l : List UInt8} {c : UInt8} {k : Nat} (h : Lib.indexByte l c = (k : Int)) : Lib.cut l [c] = (l.take k, l.drop (k + 1), true) := by
 unfold Lib.cut
 rw [Lib.index_one, h, if_pos (by omega)]
 simp
theorem cut_one_no {l : List UInt8} {c : UInt8} (h : Lib.indexByte l c < 0) : Lib.cut l [c] = (l, [], false) := by
 unfold Lib.cut
 rw [Lib.index_one, if_neg (by omega)]
theorem sliteCut_one (l : List UInt8) (c : UInt8) (w : World) (hl : l.length ≤ maxLen) :
 Calls Tryd.prog 46 #[str l, .string ⟨#[c]⟩] w fun e w' => e = .returned (.tuple #[str (Lib.cut l [c]).1, str (Lib.cut l [c]).2.1, .bool (Lib.cut l [c]).2.2]) ∧ ∃ q, w' = w.drewN q := by
 unfold maxLen at hl
 have hge := Lib.indexByte_ge l c
 by_cases h0 : 0 ≤ Lib.indexByte l c
 · obtain ⟨k, hk⟩ := Int.eq_ofNat_of_zero_le h0
   have hlt : k < l.length := by
    have := (Lib.indexByte_some hk).1
    rcases Nat.lt_or_ge k l.length with h | h
    · exact h
    · rw [List.getElem?_eq_none h] at this; cases this
   have hidx := fun W => Go.Proofs.Tryd.stringslite_Index_one ⟨l.toArray⟩ c W
   rw [show (⟨l.toArray⟩ : ByteArray).data.toList = l from rfl, hk] at hidx
   rw [cut_one_yes hk]
   have Hidx := Lib.hid hidx
   clear hidx hk h0 hge
   go_enter Tryd.func46, Tryd.ntmps46
   go_wp2_with fail
   refine (Hidx.out _).mono ?_
   rintro e w1 ⟨rfl, rfl⟩
   go_wp2_with fail
   have i1 : IntKind.i64.wrap ((k : Int) + 1) = (k : Int) + 1 := IntWalk.i64_in _ (by omega)
   have i2 : 0 ≤ (k : Int) + 1 := by omega
   have i3 : ((k : Int) + 1).toNat = k + 1 := by omega
   have i4 : (k : Int) + 1 ≤ l.length := by omega
   have i5 : (k : Int) ≤ l.length := by omega
   go_quiet (fail)
   clear i1 i2 i3 i4 i5
   go_wp2_with fail
   go_ret3
   exact ⟨rfl, _, rfl⟩
 · have hidx := fun W => Go.Proofs.Tryd.stringslite_Index_one ⟨l.toArray⟩ c W
   rw [show (⟨l.toArray⟩ : ByteArray).data.toList = l from rfl, show Lib.indexByte l c = -1 by omega] at hidx
   rw [cut_one_no (by omega)]
   have Hidx := Lib.hid hidx
   clear hidx hge h0
   go_enter Tryd.func46, Tryd.ntmps46
   go_wp2_with fail
   refine (Hidx.out _).mono ?_
   rintro e w1 ⟨rfl, rfl⟩
   go_wp2_with fail
   go_ret3
   exact ⟨rfl, 0, rfl⟩
theorem Cut_one (l : List UInt8) (c : UInt8) (w : World) (hl : l.length ≤ maxLen) :
 Calls Tryd.prog 22 #[str l, .string ⟨#[c]⟩] w fun e w' => e = .returned (.tuple #[str (Lib.cut l [c]).1, str (Lib.cut l [c]).2.1, .bool (Lib.cut l [c]).2.2]) ∧ ∃ q, w' = w.drewN q := by
 have h := sliteCut_one l c w hl
 generalize Lib.cut l [c] = x at h ⊢
 obtain ⟨a, b, d⟩ := x
 go_enter Tryd.func22, Tryd.ntmps22
 go_wp2_with fail
 refine h.mono ?_
 rintro e w1 ⟨rfl, q, rfl⟩
 go_wp2_with fail
 go_ret3
 exact ⟨rfl, q, rfl⟩
theorem HasPrefix_any (l p : List UInt8) (w : World) : Calls Tryd.prog 27 #[str l, .string ⟨p.toArray⟩] w fun e w' => e = .returned (.bool (Lib.hasPrefix l p)) ∧ w = w' := by
 refine (Go.Proofs.Tryd.strings_HasPrefix ⟨l.toArray⟩ ⟨p.toArray⟩ w).mono ?_
 rintro e w1 ⟨rfl, rfl⟩
 exact ⟨rfl, rfl⟩
theorem IndexByte_tspec (x : Nat) (w : World) :
 Calls Tryd.prog 34 #[.string ⟨#[40, 41, 60, 62, 64, 44, 59, 58, 92, 34, 47, 91, 93, 63, 61]⟩, .int .u8 (x : Int)] w fun e w' => e = .returned (.int .i64 (idxB tspec x)) ∧ w = w' := by
 refine (Go.Proofs.Tryd.strings_IndexByte ⟨tspec.toArray⟩ (x : Int) w).mono ?_
 rintro e w' ⟨rfl, rfl⟩
 exact ⟨rfl, rfl⟩
theorem token1_any (x : Nat) (hx : x < 256) (w : World) : Calls Tryd.prog 33 #[.int .u8 (x : Int)] w fun e w' => e = .returned (.bool (badTok x)) ∧ w = w' := by
 by_cases h1 : x ≤ 32
 · rw [show badTok x = true by simp [badTok, h1]]
   go_enter Tryd.func33, Tryd.ntmps33
   go_wp2_with fail
   go_ret
   exact ⟨rfl, rfl⟩
 · by_cases h2 : 126 < x
   · rw [show badTok x = true by simp [badTok, h2]]
     go_enter Tryd.func33, Tryd.ntmps33
     go_wp2_with fail
     go_ret
     exact ⟨rfl, rfl⟩
   · have e : badTok x = decide (0 ≤ idxB tspec x) := by simp [badTok, h1, h2]
     have d1 : decide ((x : Int) ≤ 32) = false := by simp; omega
     have d2 : decide ((126 : Int) < x) = false := by simp; omega
     rw [e]
     clear e
     go_enter Tryd.func33, Tryd.ntmps33
     go_wp2_with fail
     refine (IndexByte_tspec x _).mono ?_
     rintro e w1 ⟨rfl, rfl⟩
     go_wp2_with fail
     all_goals
      go_ret
      exact ⟨rfl, rfl⟩
theorem predTok (w : World) : PredB 33 #[] badTok w := fun W x hx _ =>
 (token1_any x hx W).mono fun _e _w' ⟨h1, h2⟩ => ⟨h1, h2 ▸ Below.refl _ _⟩
theorem Token_any (l : List UInt8) (w : World) (hl : l.length ≤ maxLen) : Calls Tryd.prog 10 #[str l] w fun e w' => e = .returned (.bool (tokB l)) ∧ Below w.heap.size w w' := by
 unfold maxLen at hl
 by_cases h0 : l = []
 · subst h0
   rw [show tokB [] = false from rfl]
   go_enter Tryd.func10, Tryd.ntmps10
   go_wp2_with fail
   go_ret
   exact ⟨rfl, Below.refl _ _⟩
 · have h1 : (l == []) = false := by simpa using h0
   by_cases h30 : l.length ≤ 30
   · have e : tokB l = !l.any (fun b => badTok b.toNat) := by simp [tokB, h1, h30]
     rw [e]
     clear e h0
     obtain ⟨A, c, w1, hconv, hby, hnc, hb1, hlt1⟩ := run_toBytes (P := Tryd.prog) w 9 23 5 l Tryd.underlying9 Tryd.underlying23 Tryd.underlying5
     have hcf := ContainsFunc_bytes 33 #[] (enters_of Tryd.func33 (by kernel_rfl) rfl) badTok A l.length c _ l w1 hby (Nat.le_refl _) (by unfold maxLen; omega) (predTok w1)
     generalize l.any (fun b => badTok b.toNat) = r at hcf ⊢
     have Hcf := Lib.hid hcf
     clear hcf hby
     go_enter Tryd.func10, Tryd.ntmps10
     go_wp2_with fail
     refine Hcf.out.mono ?_
     rintro e w2 ⟨rfl, hb2⟩
     go_wp2_with fail
     go_ret
     exact ⟨rfl, hb1.trans (hb2.mono hb1.size)⟩
   · have e : tokB l = false := by simp [tokB, h30]
     rw [e]
     clear e h0
     go_enter Tryd.func10, Tryd.ntmps10
     go_wp2_with fail
     go_ret
     exact ⟨rfl, Below.refl _ _⟩
theorem HasSuffix_any (l p : List UInt8) (w : World) (hl : l.length ≤ maxLen) : Calls Tryd.prog 37 #[str l, .string ⟨p.toArray⟩] w fun e w' => e = .returned (.bool (Lib.hasSuffix l p)) ∧ w = w' := by
 refine (Go.Proofs.Tryd.strings_HasSuffix ⟨l.toArray⟩ ⟨p.toArray⟩ w (by unfold maxLen at hl; simpa [ByteArray.size] using hl)).mono ?_
 rintro e w1 ⟨rfl, rfl⟩
 exact ⟨rfl, rfl⟩
theorem TrimRight_any (l cs : List UInt8) (w : World) (hl : l.length ≤ maxLen) (hc : cs.length < 4294967281) (ha : cs.all (fun b => decide (b.toNat < 128)) = true) :
 Calls Tryd.prog 28 #[str l, .string ⟨cs.toArray⟩] w fun e w' => e = .returned (str (Lib.trimRightS l cs)) ∧ Below w.heap.size w w' :=
 Any.strings_TrimRight_laid Go.Proofs.Tryd.lays162 (by kernel_rfl) ⟨l.toArray⟩ ⟨cs.toArray⟩ w (by unfold maxLen at hl; simpa [ByteArray.size] using hl) (by simpa [ByteArray.size] using hc) (ascii_of_all ha)
/-- A row of bytes of the call's own, that may be written. -/
def OwnB (w : World) (g : Nat) (l : List UInt8) : Prop := ∃ (cs : Array Value) (fr : Nat × Nat), w.heap[g]? = some (.cells cs 5 fr) ∧ l.length ≤ cs.size ∧ cs.toList.take l.length = Lib.byteCells l ∧ ∀ o, o < l.length → ¬ (fr.1 ≤ o ∧ o < fr.2)
theorem OwnB.by_ {w : World} {g : Nat} {l : List UInt8} (h : OwnB w g l) : By w w.heap.size (some ⟨g, 0, none⟩) l.length l := by
 obtain ⟨cs, fr, h1, h2, h3, _⟩ := h
 refine Sl.of_block h1 (by simp [Lib.byteCells]) fun j u hu => ?_
 rw [Nat.zero_add]
 rw [← h3, List.getElem?_take] at hu
 split at hu
 · simpa using hu
 · cases hu
theorem OwnB.fz {w : World} {g : Nat} {l : List UInt8} (h : OwnB w g l) (o : Nat) (ho : o < l.length) : w.frozen? ⟨g, o, none⟩ = false := by
 obtain ⟨cs, fr, h1, _, _, h4⟩ := h
 have := h4 o ho
 unfold World.frozen?
 rw [h1]
 simp
 omega
theorem OwnB.set {w : World} {g : Nat} {l : List UInt8} (h : OwnB w g l) (k : Nat) (x : UInt8) : OwnB (w.setCell ⟨g, k, none⟩ (.int .u8 (x.toNat : Int))) g (l.set k x) := by
 obtain ⟨cs, fr, h1, h2, h3, h4⟩ := h
 refine ⟨_, fr, Go.Joins.block_setCell h1 _, by simpa using h2, ?_, by simpa using h4⟩
 rw [List.length_set, Array.toList_setIfInBounds, List.take_set, h3]
 simp [Lib.byteCells, List.map_set]
theorem OwnB.below {w w' : World} {g : Nat} {l : List UInt8} (h : OwnB w g l) (hb : Below (g + 1) w w') : OwnB w' g l := by
 obtain ⟨cs, fr, h1, h2⟩ := h
 exact ⟨cs, fr, (hb.block g (by omega)).trans h1, h2⟩
theorem run_toOwn {P : Program} (w : World) (src dst e : TypeId) (l : List UInt8) (hs : P.underlying src = some .string) (hd : P.underlying dst = some (.slice e)) (he : P.underlying e = some (.int .u8)) (hee : e = 5) :
 ∃ c w', (convert src dst (str l)).run P w = .ok (.slice (some ⟨w.heap.size, 0, none⟩) l.length c) w' ∧ OwnB w' w.heap.size l ∧ l.length ≤ c ∧ Below w.heap.size w w' ∧ w'.heap.size = w.heap.size + 1 := by
 subst hee
 refine ⟨_, _, run_bytes_of_string w src dst _ ⟨l.toArray⟩ hs hd he, ⟨_, _, heap_alloc_new w.drew _, ?_, ?_, ?_⟩, grownCap_ge _ _ _ _, (Below.drew (Below.refl _ w)).alloc (Nat.le_refl _) _, by simp⟩
 · simp [bytesRow]
 · simp [bytesRow, Lib.byteCells]
 · intro o ho
   simp [bytesRow]
   omega
theorem low_at (l : List UInt8) (k : Nat) (h : k < l.length) : (l.take k).map lowB ++ l.drop k = ((l.take k).map lowB ++ l.drop k) ∧ ((l.take (k + 1)).map lowB ++ l.drop (k + 1) = ((l.take k).map lowB ++ l.drop k).set k (lowB l[k])) := by
 refine ⟨rfl, ?_⟩
 have hk : ((l.take k).map lowB).length = k := by simp; omega
 rw [List.set_append_right _ _ (by omega), hk, Nat.sub_self, List.drop_eq_getElem_cons h, List.set_cons_zero, List.take_add_one, List.getElem?_eq_getElem h, List.map_append, List.append_assoc]
 rfl
def LowRel (w : World) (n : Nat) (l : List UInt8) (iv : Value) (wr : World) : Prop :=
 ∃ k : Nat, k ≤ n ∧ iv = .int .i64 k ∧ Below w.heap.size w wr ∧ OwnB wr w.heap.size ((l.take k).map lowB ++ l.drop k)
def fieldC (l : List FieldD) : List Value := l.flatMap FieldD.cells
theorem fieldC_len (l : List FieldD) : (fieldC l).length = l.length * 2 := by
 induction l with
 | nil => rfl
 | cons a l ih => unfold fieldC at ih ⊢; rw [List.flatMap_cons, List.length_append, ih]; simp [FieldD.cells]; omega
theorem fieldC_app (a b : List FieldD) : fieldC (a ++ b) = fieldC a ++ fieldC b := by simp [fieldC]
theorem infoField : (Tryd.prog.info? 38).map (fun i => (i.zero, i.size, i.bytes)) = some (some (.agg #[.string ⟨#[]⟩, .string ⟨#[]⟩]), 2, 32) := by kernel_rfl
theorem Sl.field {w : World} {B n : Nat} {A : Option Addr} {ls : List FieldD} (h : Sl w B 2 A n (fieldC ls)) (i : Nat) (hi : i < n) :
 ∃ b off x, A = some ⟨b, off, none⟩ ∧ b < B ∧ ls.drop i = x :: ls.drop (i + 1) ∧ w.cell? ⟨b, off + i * 2, none⟩ = some (str x.name) ∧ w.cell? ⟨b, off + i * 2 + 1, none⟩ = some (str x.value) := by
 obtain ⟨b, off, hA, hb, hc⟩ := h.2 (by omega)
 have hl : ls.length = n := by have := h.1; rw [fieldC_len] at this; omega
 have hil : i < ls.length := by omega
 have hd := List.drop_eq_getElem_cons hil
 have hsplit : fieldC ls = fieldC (ls.take i) ++ fieldC (ls.drop i) := by rw [← fieldC_app, List.take_append_drop]
 have hat : ∀ k, k < 2 → (fieldC ls)[i * 2 + k]? = [str ls[i].name, str ls[i].value][k]? := by
  intro k hk
  have e : (fieldC (ls.take i)).length = i * 2 := by rw [fieldC_len, List.length_take, Nat.min_eq_left (by omega)]
  rw [hsplit, List.getElem?_append_right (by omega), e, Nat.add_sub_cancel_left, hd]
  show ((fieldC (ls[i] :: ls.drop (i + 1))))[k]? = _
  rw [show fieldC (ls[i] :: ls.drop (i + 1)) = [str ls[i].name, str ls[i].value] ++ fieldC (ls.drop (i + 1)) from rfl, List.getElem?_append_left (by simpa using hk)]
 exact ⟨b, off, ls[i], hA, hb, hd, hc _ _ (hat 0 (by omega)), hc _ _ (hat 1 (by omega))⟩
/-- Fields whose texts are strings of Go. -/
def smallF (l : List FieldD) : Prop := ∀ f ∈ l, f.name.length ≤ maxLen ∧ f.value.length ≤ maxLen
theorem smallF.at_ {l : List FieldD} (h : smallF l) {i : Nat} {x : FieldD} (hx : l.drop i = x :: l.drop (i + 1)) : x.name.length ≤ maxLen ∧ x.value.length ≤ maxLen :=
 h x (List.mem_of_mem_drop (i := i) (by rw [hx]; simp))
theorem Trim_any (l cs : List UInt8) (w : World) (hl : l.length ≤ maxLen) (hc : cs.length < 4294967281) (ha : cs.all (fun b => decide (b.toNat < 128)) = true) :
 Calls Tryd.prog 24 #[str l, .string ⟨cs.toArray⟩] w fun e w' => e = .returned (str (Lib.trimS l cs)) ∧ Below w.heap.size w w' :=
 Any.strings_Trim_laid Go.Proofs.Tryd.lays160 (by kernel_rfl) ⟨l.toArray⟩ ⟨cs.toArray⟩ w (by unfold maxLen at hl; simpa [ByteArray.size] using hl) (by simpa [ByteArray.size] using hc) (ascii_of_all ha)
theorem value1_h (x : Nat) (hx : x < 256) (w : World) : Calls Tryd.prog 36 #[.int .u8 (x : Int)] w fun e w' => e = .returned (.bool (badVal x)) ∧ w = w' := by
 go_enter Tryd.func36, Tryd.ntmps36
 go_wp2_with fail
 all_goals
  go_ret
  refine ⟨congrArg (fun b => Ending.returned (.bool b)) (?_ : _ = badVal x), rfl⟩
  rw [Bool.eq_iff_iff]
  simp [badVal]
  try omega
theorem predValH (w : World) : PredB 36 #[] badVal w := fun W x hx _ =>
 (value1_h x hx W).mono fun _e _w' ⟨h1, h2⟩ => ⟨h1, h2 ▸ Below.refl _ _⟩
theorem Value_any (l : List UInt8) (w : World) (hl : l.length ≤ maxLen) : Calls Tryd.prog 12 #[str l] w fun e w' => e = .returned (.bool (valB l)) ∧ Below w.heap.size w w' := by
 have htr := fun W => Trim_any l [32] W hl (by decide) (by decide)
 unfold maxLen at hl
 by_cases h9 : l.length ≤ 900
 · have d9 : decide ((l.length : Int) ≤ 900) = true := by simp; omega
   have d9b : decide (l.length ≤ 900) = true := by simpa using h9
   generalize hT : Lib.trimS l [32] = T at htr
   have Htr := Lib.hid htr
   by_cases hs : l = T
   · have e : valB l = !l.any (fun b => badVal b.toNat) := by
      have : (l == Lib.trimS l [32]) = true := by rw [hT]; simpa using hs
      simp [valB, h9, this]
     rw [e]
     have hlT : (l == T) = true := by simpa using hs
     clear e hs hT htr
     have hby := fun W => run_toBytes (P := Tryd.prog) W 9 23 5 l Tryd.underlying9 Tryd.underlying23 Tryd.underlying5
     generalize hr : l.any (fun b => badVal b.toNat) = r
     have Hr := Lib.hid hr
     have Hby := Lib.hid hby
     clear hby hr
     go_enter Tryd.func12, Tryd.ntmps12
     go_wp2_with fail
     refine (Htr.out _).mono ?_
     rintro e w1 ⟨rfl, hb1⟩
     obtain ⟨A, c, w2, hconv, hby2, hnc, hb2, hlt2⟩ := Hby.out w1
     have hcf := ContainsFunc_bytes 36 #[] (enters_of Tryd.func36 (by kernel_rfl) rfl) badVal A l.length c _ l w2 hby2 (Nat.le_refl _) (by unfold maxLen; omega) (predValH w2)
     rw [Hr.out] at hcf
     have Hcf := Lib.hid hcf
     clear hcf hby2
     go_wp2_with fail
     refine Hcf.out.mono ?_
     rintro e w3 ⟨rfl, hb3⟩
     go_wp2_with fail
     go_ret
     exact ⟨rfl, hb1.trans ((hb2.trans (hb3.mono hb2.size)).mono hb1.size)⟩
   · have e : valB l = false := by
      have : (l == Lib.trimS l [32]) = false := by rw [hT]; simpa using hs
      simp [valB, this]
     rw [e]
     have hlT : (l == T) = false := by simpa using hs
     clear e hs hT htr
     go_enter Tryd.func12, Tryd.ntmps12
     go_wp2_with fail
     refine (Htr.out _).mono ?_
     rintro e w1 ⟨rfl, hb1⟩
     go_wp2_with fail
     go_ret
     exact ⟨rfl, hb1⟩
 · have e : valB l = false := by simp [valB, h9]
   have d9 : decide ((l.length : Int) ≤ 900) = false := by simp; omega
   rw [e]
   clear e htr
   go_enter Tryd.func12, Tryd.ntmps12
   go_wp2_with fail
   go_ret
   exact ⟨rfl, Below.refl _ _⟩
theorem box2_new (w : World) (t : TypeId) (u v : Value) : (w.alloc (.cells #[u, v] t)).cell? ⟨w.heap.size, 0, none⟩ = some u ∧ (w.alloc (.cells #[u, v] t)).cell? ⟨w.heap.size, 1, none⟩ = some v := by
 have h := heap_alloc_new w (.cells #[u, v] t)
 constructor <;> (unfold World.cell?; rw [h]; rfl)
def FChkRel (l : List FieldD) (n : Nat) (R : Bool) (w : World) (iv : Value) (wr : World) : Prop :=
 ∃ i : Nat, iv = .int .i64 (i : Nat) ∧ i ≤ n ∧ Below w.heap.size w wr ∧ Hid ((l.drop i).all okF = R)
theorem FCheck_any (l : List FieldD) (A : Option Addr) (n c B : Nat) (w : World) (h : Sl w B 2 A n (fieldC l)) (hB : B ≤ w.heap.size) (hs : smallF l) (hn : n ≤ maxLen) :
 Calls Tryd.prog 14 #[.slice A n c] w fun e w' => e = .returned (.int .i64 (chkF l : Nat)) ∧ Below w.heap.size w w' := by
 have hl : l.length = n := by have := h.1; rw [fieldC_len] at this; omega
 unfold maxLen at hn
 by_cases h20 : 20 < n
 · rw [show chkF l = 2 from by unfold chkF; rw [if_pos (by omega)]]
   have d : decide ((20 : Int) < n) = true := by simp; omega
   clear h hl hs
   go_enter Tryd.func14, Tryd.ntmps14
   go_wp2_with fail
   go_ret
   exact ⟨rfl, Below.refl _ _⟩
 · have d : decide ((20 : Int) < n) = false := by simp; omega
   have hR : chkF l = if l.all okF then 0 else 1 := by unfold chkF; rw [if_neg (by omega)]
   rw [hR]
   obtain ⟨R, hRd⟩ : ∃ R, l.all okF = R := ⟨_, rfl⟩
   rw [hRd]
   have HR := Lib.hid hRd
   have Hl := Lib.hid hl
   have Hs := Lib.hid hs
   have HS := Lib.hid h
   clear h hl hs hR hRd
   go_enter Tryd.func14, Tryd.ntmps14
   go_wp2_with fail
   go_loopw [10] (FChkRel l n R w) (fun iv _ => n - (intOf iv).toNat)
   case atStart => exact ⟨0, rfl, Nat.zero_le _, Below.refl _ _, HR.out⟩
   case round =>
    clear HR
    obtain ⟨i, rfl, hi, hbel, hE⟩ := hrel
    by_cases hin : i < n
    · obtain ⟨b, off, x, rfl, hbB, hx, x0, x1⟩ := (HS.out.below (hbel.mono hB)).field i hin
      obtain ⟨hx1, hx2⟩ := Hs.out.at_ hx
      have h1 := fun W => Token_any x.name W hx1
      have h2 := fun W => Value_any x.value W hx2
      have hE2 : Hid ((okF x && (l.drop (i + 1)).all okF) = R) := by show _ = R; rw [← hE.out, hx, List.all_cons]
      have hok : okF x = (tokB x.name && valB x.value) := rfl
      rw [hok] at hE2
      generalize tokB x.name = t1 at h1 hE2
      generalize valB x.value = t2 at h2 hE2
      have H1 := Lib.hid h1
      have H2 := Lib.hid h2
      have hbA := hbel.alloc hbel.size (.cells #[str x.name, str x.value] 38)
      have y1 := (box2_new wr 38 (str x.name) (str x.value)).2
      clear hx hE hok h1 h2
      cases t1
      · obtain rfl : false = R := by simpa using hE2.out
        go_wp2_with fail
        refine (H1.out _).mono ?_
        rintro e w1 ⟨rfl, hb1⟩
        clear x0 x1
        go_wp2_with fail
        go_ret
        exact ⟨rfl, hbA.trans (hb1.mono hbA.size)⟩
      · go_wp2_with fail
        refine (H1.out _).mono ?_
        rintro e w1 ⟨rfl, hb1⟩
        have y1' := (hb1.cell (p := ⟨wr.heap.size, 1, none⟩) (by simp)).trans y1
        have hbel1 := hbA.trans (hb1.mono hbA.size)
        clear x0 x1 y1
        go_wp2_with fail
        refine (H2.out _).mono ?_
        rintro e w2 ⟨rfl, hb2⟩
        have hbel2 := hbel1.trans (hb2.mono hbel1.size)
        clear y1'
        cases t2
        · obtain rfl : false = R := by simpa using hE2.out
          go_wp2_with fail
          go_ret
          exact ⟨rfl, hbel2⟩
        · have hE3 : Hid ((l.drop (i + 1)).all okF = R) := by show _ = R; rw [← hE2.out]; simp
          clear hE2
          go_wp2_with fail
          exact ⟨⟨i + 1, by go_num, by omega, hbel2, hE3⟩, by simp [intOf]; omega⟩
    · obtain rfl : true = R := by rw [← hE.out, List.drop_of_length_le (by rw [Hl.out]; omega)]; rfl
      go_wp2_with fail
      go_ret
      exact ⟨rfl, hbel⟩
end Go.Proofs.YtpnolbfnmknhlaaDoor
namespace Go.Proofs.YtpnolbfnmknhlaaDoor
open Go.ChangeShapes Go.WideShapes Go.ChangeAt Go.RowKit Go.Deep
theorem fieldStruct : Tryd.prog.cellsOf 38 = 2 := by kernel_rfl
theorem plain_atF {w : World} {a : Addr} {v : Value} (h : w.cell? (a.add 0) = some v) : ∃ b off, a = ⟨b, off, none⟩ := by
 obtain ⟨b, off, spot⟩ := a
 have hspot : spot = none := by
  simpa [Addr.add] using World.cell?_spot h
 subst hspot
 exact ⟨b, off, rfl⟩
section
variable {H : Type} {enc : TypeId × Value → H} {w : World} {base : Nat} {held : Bool}
theorem field_of_trod (fuel : Nat) (cs : List Value) (x : DataW H × List MemPlace) (h : DataW.trod enc Tryd.prog w base (fun _ => true) held fuel 38 cs = some x) :
 ∃ f : FieldD, cs = f.cells ∧ f.name.length ≤ maxLen ∧ f.value.length ≤ maxLen := by
 obtain ⟨xs, n, hfu, _, hl, hxl, hf⟩ := DataW.trod_struct Tryd.underlying38 h
 rw [fieldStruct] at hl
 match cs, hl with
 | [c0, c1], _ =>
  match xs, hxl with
  | [x0, x1], _ =>
   have h0 : DataW.trod enc Tryd.prog w base (fun _ => true) held n 9 [c0] = some x0 := hf 0 _ rfl
   have h1 : DataW.trod enc Tryd.prog w base (fun _ => true) held n 9 [c1] = some x1 := hf 1 _ rfl
   obtain ⟨s0, e0, _, b0⟩ := DataW.trod_string Tryd.underlying9 h0
   obtain ⟨s1, e1, _, b1⟩ := DataW.trod_string Tryd.underlying9 h1
   simp only [List.cons.injEq, and_true] at e0 e1
   subst e0 e1
   exact ⟨⟨s0.data.toList, s1.data.toList⟩, rfl, b0, b1⟩
theorem fieldC_at (ls : List FieldD) (i k : Nat) (hi : i < ls.length) (hk : k < 2) : (fieldC ls)[i * 2 + k]? = (ls[i]).cells[k]? := by
 have hsplit : fieldC ls = fieldC (ls.take i) ++ fieldC (ls.drop i) := by rw [← fieldC_app, List.take_append_drop]
 have e : (fieldC (ls.take i)).length = i * 2 := by rw [fieldC_len, List.length_take, Nat.min_eq_left (by omega)]
 rw [hsplit, List.getElem?_append_right (by omega), e, Nat.add_sub_cancel_left, List.drop_eq_getElem_cons hi]
 show ((ls[i]).cells ++ fieldC (ls.drop (i + 1)))[k]? = _
 rw [List.getElem?_append_left (by show k < 2; exact hk)]
/-- Fields that came in. -/
theorem open_fields {r : Reach} {b0 : Nat} {v : Value} {d : DataW H} {pl : List MemPlace} (hv : Value.okWide Tryd.prog w r b0 22 v) (h : DataW.Trod enc Tryd.prog w base (fun _ => true) held 22 v d pl) :
 ∃ A n c ls, v = .slice A n c ∧ Sl w w.heap.size 2 A n (fieldC ls) ∧ n ≤ c ∧ c ≤ maxLen ∧ smallF ls := by
 obtain ⟨a0, len0, cap0, rfl⟩ := okWide_slice Tryd.underlying22 hv
 obtain ⟨fuel, hf⟩ := h
 rcases DataW.trod_slice Tryd.underlying22 hf with ⟨hcs, _⟩ | ⟨a, len, cap, elems, rest, n', hfu', hcs, _, hb, hl, hm, hlen, hel, hsp, hns⟩
 · simp only [Value.cells, List.cons.injEq, and_true] at hcs
   refine ⟨_, _, _, [], rfl, ?_⟩
   simp at hcs
   obtain ⟨rfl, rfl, rfl⟩ := hcs
   exact ⟨Sl.nil_ _ _ _ _, Nat.le_refl _, Nat.zero_le _, fun f h => by cases h⟩
 · simp [Value.cells] at hcs
   obtain ⟨rfl, rfl, rfl⟩ := hcs
   have hone : ∀ i, i < len0 → ∃ f : FieldD, w.cells? base (a.add (i * 2)) 2 = some f.cells ∧ f.name.length ≤ maxLen ∧ f.value.length ≤ maxLen := by
    intro i hi
    have h1 := hel i hi
    rw [fieldStruct, List.getElem?_eq_getElem (by omega)] at h1
    obtain ⟨cs', hc', ht'⟩ := Option.bind_eq_some_iff.1 h1
    obtain ⟨f, rfl, g1, g2⟩ := field_of_trod n' cs' _ ht'
    exact ⟨f, hc', g1, g2⟩
   haveI : Inhabited FieldD := ⟨⟨[], []⟩⟩
   obtain ⟨f, hfp⟩ := choose_lt hone
   refine ⟨some a, len0, cap0, (List.range len0).map f, rfl, ⟨by rw [fieldC_len]; simp, fun h0 => ?_⟩, hl, hm, ?_⟩
   · obtain ⟨_, hl0, hat0⟩ := World.cells?_some (hfp 0 h0).1
     have hx0 := hat0 0 (by omega)
     rw [List.getElem?_eq_getElem (by show 0 < 2; omega)] at hx0
     obtain ⟨b, off, hab⟩ : ∃ b off, a = ⟨b, off, none⟩ := by
      have e : (a.add (0 * 2)).add 0 = a.add 0 := by rw [Go.Deep.add_add]
      rw [e] at hx0
      exact plain_atF hx0
     subst hab
     refine ⟨b, off, rfl, ?_, fun j u hu => ?_⟩
     · have e : ((⟨b, off, none⟩ : Addr).add (0 * 2)).add 0 = ⟨b, off, none⟩ := by rw [Go.Deep.add_add]; simp [Addr.add]
       rw [e] at hx0
       exact cell_lt hx0
     · have hj : j < len0 * 2 := by
        rcases Nat.lt_or_ge j (len0 * 2) with h | h
        · exact h
        · rw [List.getElem?_eq_none (by rw [fieldC_len]; simp; omega)] at hu; cases hu
       have hi : j / 2 < len0 := by omega
       have hjj : j = j / 2 * 2 + j % 2 := by omega
       obtain ⟨_, hli, hati⟩ := World.cells?_some (hfp (j / 2) hi).1
       have hx := hati (j % 2) (by omega)
       rw [Go.Deep.add_add, ← hjj] at hx
       rw [hjj, fieldC_at _ (j / 2) (j % 2) (by simpa using hi) (by omega)] at hu
       simp only [List.getElem_map, List.getElem_range] at hu
       rw [hu] at hx
       have e : (⟨b, off, none⟩ : Addr).add j = ⟨b, off + j, none⟩ := Go.WideShapes.add_plain ..
       rw [e] at hx
       exact hx
   · intro x hx
     obtain ⟨i, hi, rfl⟩ := List.mem_map.1 hx
     exact (hfp i (List.mem_range.1 hi)).2
end
end Go.Proofs.YtpnolbfnmknhlaaDoor
namespace Go.Proofs.YtpnolbfnmknhlaaDoor
open Go.RowKit
/-- What the walks ask of the library's own variable. -/
def MaxLenOk (w : World) : Prop := ∃ m, w.cell? ⟨0, 0, none⟩ = some (.int .i64 m)
theorem MaxLenOk.below {w w' : World} (h : MaxLenOk w) (hb : Below w.heap.size w w') : MaxLenOk w' := by
 obtain ⟨m, hm⟩ := h
 have hlt : 0 < w.heap.size := by
  rcases Nat.lt_or_ge 0 w.heap.size with h' | h'
  · exact h'
  · simp [World.cell?, Array.getElem?_eq_none h'] at hm
 exact ⟨m, (hb.cell (p := ⟨0, 0, none⟩) hlt).trans hm⟩
theorem MaxLenOk.lt {w : World} (h : MaxLenOk w) : 0 < w.heap.size := by
 obtain ⟨m, hm⟩ := h
 rcases Nat.lt_or_ge 0 w.heap.size with h' | h'
 · exact h'
 · simp [World.cell?, Array.getElem?_eq_none h'] at hm
theorem MaxLenOk.drewN {w : World} (h : MaxLenOk w) (n : Nat) : MaxLenOk (w.drewN n) := h
theorem MaxLenOk.grown {w w' : World} {s : Nat} (h : MaxLenOk w) (hg : w.grownBy w' (some s)) {v : Value} (hv : w.cell? ⟨s, 0, none⟩ = some v) (hn : ∀ m, v ≠ .int .i64 m) : MaxLenOk w' := by
 have hlt := h.lt
 obtain ⟨m, hm⟩ := h
 refine ⟨m, (World.cell?_of_block (hg.block 0 hlt ?_)).trans hm⟩
 intro e
 injection e with e
 rw [← e, hm] at hv
 injection hv with hv
 exact hn m hv.symm
end Go.Proofs.YtpnolbfnmknhlaaDoor
namespace Go.Proofs.YtpnolbfnmknhlaaDoor
open Go.ChangeShapes Go.WideShapes Go.ChangeAt Go.RowKit
theorem maxLen_of_shaped {W : World} (h : W.ShapedOpen Tryd.prog) : MaxLenOk W := Go.Proofs.Tryd.laysM219.s1_3 W h
end Go.Proofs.YtpnolbfnmknhlaaDoor
namespace Go.Proofs.YtpnolbfnmknhlaaDoor
open Go.RowKit
/-- What the package variables of the library's decoder hold. -/
def U8Ok (w : World) : Prop := Lib.Utf8Tabs 4 5 w
theorem U8Ok.below {w w' : World} (h : U8Ok w) (hb : Below w.heap.size w w') : U8Ok w' := Utf8Tabs_below h hb
theorem U8Ok.drewN {w : World} (h : U8Ok w) (n : Nat) : U8Ok (w.drewN n) := h
def lowR (x : Int) : Int := if 65 ≤ x ∧ x ≤ 90 then x + 32 else x
theorem lowR_byte : ∀ i : Fin 128, Lib.encodeRune (lowR (i.val : Int)) = [lowB (UInt8.ofNat i.val)] := by decide
theorem mapD_low : ∀ (l : List UInt8), (∀ b ∈ l, b.toNat < 128) → Lib.mapD lowR l = lowL l
 | [], _ => rfl
 | b :: t, ha => by
  have hb := ha b List.mem_cons_self
  have ih := mapD_low t (fun x hx => ha x (List.mem_cons_of_mem _ hx))
  rw [Lib.mapD_step lowR (b :: t) (by simp), Lib.decodeL_ascii b t hb]
  dsimp only
  have h0 : 0 ≤ lowR (b.toNat : Int) := by unfold lowR; split <;> omega
  rw [if_pos h0, lowR_byte ⟨b.toNat, hb⟩, List.drop_succ_cons, List.drop_zero, ih]
  simp [lowL]
theorem small1_any (x : Nat) (hx : x ≤ 1114111) (w : World) : Calls Tryd.prog 58 #[.int .i32 (x : Int)] w fun e w' => e = .returned (.int .i32 (lowR x)) ∧ w' = w := by
 unfold lowR
 by_cases h1 : (65 : Int) ≤ x
 · by_cases h2 : (x : Int) ≤ 90
   · have i1 : IntKind.i32.wrap ((x : Int) + 32) = (x : Int) + 32 := by rw [IntKind.wrap_i32]; omega
     go_enter Tryd.func58, Tryd.ntmps58
     go_wp2_with fail
     go_ret
     exact ⟨rfl, rfl⟩
   · go_enter Tryd.func58, Tryd.ntmps58
     go_wp2_with fail
     go_ret
     exact ⟨rfl, rfl⟩
 · go_enter Tryd.func58, Tryd.ntmps58
   go_wp2_with fail
   go_ret
   exact ⟨rfl, rfl⟩
theorem Small_ascii (l : List UInt8) (w : World) (hl : l.length ≤ 1000000) (ha : ∀ b ∈ l, b.toNat < 128) (hT : U8Ok w) :
 Calls Tryd.prog 31 #[str l] w fun e w' => e = .returned (str (lowL l)) ∧ Below w.heap.size w w' := by
 have h := Go.Proofs.Tryd.strings_Map_runes 58 #[] (enters_of Tryd.func58 (by kernel_rfl) rfl) lowR ⟨l.toArray⟩ w (by simp [ByteArray.size]; omega)
  (fun W x hx _ => (small1_any x hx W).mono fun e w' ⟨h1, h2⟩ => ⟨h1, 0, h2⟩) (fun x hx => by unfold lowR; split <;> omega) hT
 rw [show (⟨l.toArray⟩ : ByteArray).data.toList = l from rfl, mapD_low l ha] at h
 have H := Lib.hid h
 clear h
 go_enter Tryd.func31, Tryd.ntmps31
 go_wp2_with fail
 refine H.out.mono ?_
 rintro e w1 ⟨rfl, hb⟩
 go_wp2_with fail
 go_ret
 exact ⟨rfl, hb⟩
end Go.Proofs.YtpnolbfnmknhlaaDoor
namespace Go.Proofs.YtpnolbfnmknhlaaDoor
open Go.ChangeShapes Go.WideShapes Go.ChangeAt Go.RowKit
def u8Names (x : String × DataW Unit) : Bool := x.1 == "unicode/utf8.first" || x.1 == "unicode/utf8.acceptRanges"
/-- What a row's laid table gives. -/
theorem u8Ok_of_laid {W : World} {laid : List (String × DataW Unit)} (h : laidMetH Tryd.prog laid W) (e : laid.filter u8Names = [("unicode/utf8.acceptRanges", Lib.acceptData), ("unicode/utf8.first", Lib.firstData)]) : U8Ok W := by
 have h1 := h.filter u8Names
 rw [e, MakeChecks.laidMetH_plain _ _ _ (by kernel_rfl)] at h1
 exact utf8Tabs_of_readsT (U8Types.of260 Go.Proofs.Tryd.lays260) ⟨by kernel_rfl, by kernel_rfl, by kernel_rfl, by kernel_rfl, by kernel_rfl, by kernel_rfl, by kernel_rfl⟩ (Lib.laidMet.reads h1 (.tail _ (.head _))) (Lib.laidMet.reads h1 (.head _))
end Go.Proofs.YtpnolbfnmknhlaaDoor
namespace Go.Proofs.YtpnolbfnmknhlaaDoor
open Go.Lib
def asciiFoldT : List Nat := [0, 1, 2, 3, 4, 5, 6, 7, 8, 9, 10, 11, 12, 13, 14, 15,
 16, 17, 18, 19, 20, 21, 22, 23, 24, 25, 26, 27, 28, 29, 30, 31,
 32, 33, 34, 35, 36, 37, 38, 39, 40, 41, 42, 43, 44, 45, 46, 47,
 48, 49, 50, 51, 52, 53, 54, 55, 56, 57, 58, 59, 60, 61, 62, 63,
 64, 97, 98, 99, 100, 101, 102, 103, 104, 105, 106, 107, 108, 109, 110, 111,
 112, 113, 114, 115, 116, 117, 118, 119, 120, 121, 122, 91, 92, 93, 94, 95,
 96, 65, 66, 67, 68, 69, 70, 71, 72, 73, 74, 8490, 76, 77, 78, 79,
 80, 81, 82, 383, 84, 85, 86, 87, 88, 89, 90, 123, 124, 125, 126, 127]
def orbitT : List (Nat × Nat) := [(75, 107), (83, 115), (107, 8490), (115, 383), (181, 924), (197, 229), (223, 7838), (229, 8491),
 (304, 304), (305, 305), (383, 83), (452, 453), (453, 454), (454, 452), (455, 456), (456, 457),
 (457, 455), (458, 459), (459, 460), (460, 458), (497, 498), (498, 499), (499, 497), (837, 921),
 (912, 8147), (914, 946), (917, 949), (920, 952), (921, 953), (922, 954), (924, 956), (928, 960),
 (929, 961), (931, 962), (934, 966), (937, 969), (944, 8163), (946, 976), (949, 1013), (952, 977),
 (953, 8126), (954, 1008), (956, 181), (960, 982), (961, 1009), (962, 963), (963, 931), (966, 981),
 (969, 8486), (976, 914), (977, 1012), (981, 934), (982, 928), (1008, 922), (1009, 929), (1012, 920),
 (1013, 917), (1042, 1074), (1044, 1076), (1054, 1086), (1057, 1089), (1058, 1090), (1066, 1098), (1074, 7296),
 (1076, 7297), (1086, 7298), (1089, 7299), (1090, 7300), (1098, 7302), (1122, 1123), (1123, 7303), (7296, 1042),
 (7297, 1044), (7298, 1054), (7299, 1057), (7300, 7301), (7301, 1058), (7302, 1066), (7303, 1122), (7304, 42570),
 (7776, 7777), (7777, 7835), (7835, 7776), (7838, 223), (8126, 837), (8147, 912), (8163, 944), (8486, 937),
 (8490, 75), (8491, 197), (42570, 42571), (42571, 7304), (64261, 64262), (64262, 64261)]
def orbitA : Array (Nat × Nat) := orbitT.toArray
def asciiFoldA : Array Nat := asciiFoldT.toArray
/-- Where the search in the orbits ends. -/
def orbLo (r : Int) : Nat → Nat → Nat → Nat
 | 0, lo, _ => lo
 | f + 1, lo, hi => if lo < hi then (if ((orbitA.getD ((lo + hi) / 2) (0, 0)).1 : Int) < r then orbLo r f ((lo + hi) / 2 + 1) hi else orbLo r f lo ((lo + hi) / 2)) else lo
def caseFold (r : Int) : Int :=
 match lookupIdx caseA r (caseA.size + 1) 0 caseA.size with
 | some i => if convertR 1 r (caseA.getD i (0, 0, 0, 0, 0)) ≠ r then convertR 1 r (caseA.getD i (0, 0, 0, 0, 0)) else convertR 0 r (caseA.getD i (0, 0, 0, 0, 0))
 | none => r
def foldG (r : Int) : Int :=
 if r < 0 ∨ 1114111 < r then r
 else if r < 128 then (asciiFoldA.getD r.toNat 0 : Nat)
 else if orbLo r 100 0 orbitA.size < orbitA.size ∧ ((orbitA.getD (orbLo r 100 0 orbitA.size) (0, 0)).1 : Int) = r then ((orbitA.getD (orbLo r 100 0 orbitA.size) (0, 0)).2 : Nat)
 else caseFold r
def ringB (r : Int) : Bool := foldG r == r || foldG (foldG r) == r || foldG (foldG (foldG r)) == r || foldG (foldG (foldG (foldG r))) == r
theorem ring_ascii : (List.range 128).all (fun r => ringB (r : Int)) = true := by decide +kernel
theorem ring_orbit : orbitT.all (fun p => ringB (p.1 : Int)) = true := by decide +kernel
theorem ring_case0 : ((caseT.drop 0).take 42).all (fun x => (List.range (x.2.1 + 1 - x.1)).all fun d => ringB ((x.1 + d : Nat) : Int)) = true := by decide +kernel
theorem ring_case1 : ((caseT.drop 42).take 42).all (fun x => (List.range (x.2.1 + 1 - x.1)).all fun d => ringB ((x.1 + d : Nat) : Int)) = true := by decide +kernel
theorem ring_case2 : ((caseT.drop 84).take 42).all (fun x => (List.range (x.2.1 + 1 - x.1)).all fun d => ringB ((x.1 + d : Nat) : Int)) = true := by decide +kernel
theorem ring_case3 : ((caseT.drop 126).take 42).all (fun x => (List.range (x.2.1 + 1 - x.1)).all fun d => ringB ((x.1 + d : Nat) : Int)) = true := by decide +kernel
theorem ring_case4 : ((caseT.drop 168).take 42).all (fun x => (List.range (x.2.1 + 1 - x.1)).all fun d => ringB ((x.1 + d : Nat) : Int)) = true := by decide +kernel
theorem ring_case5 : ((caseT.drop 210).take 42).all (fun x => (List.range (x.2.1 + 1 - x.1)).all fun d => ringB ((x.1 + d : Nat) : Int)) = true := by decide +kernel
theorem ring_case6 : ((caseT.drop 252).take 42).all (fun x => (List.range (x.2.1 + 1 - x.1)).all fun d => ringB ((x.1 + d : Nat) : Int)) = true := by decide +kernel
theorem ring_case7 : ((caseT.drop 294).take 42).all (fun x => (List.range (x.2.1 + 1 - x.1)).all fun d => ringB ((x.1 + d : Nat) : Int)) = true := by decide +kernel
end Go.Proofs.YtpnolbfnmknhlaaDoor
namespace Go.Proofs.YtpnolbfnmknhlaaDoor
open Go.RowKit Go.Lib
def OrbTab (R oR : Nat) (w : World) : Prop :=
 ∀ i, i < orbitA.size → w.cell? ⟨R, oR + i * 2, none⟩ = some (.int .u16 ((orbitA.getD i (0, 0)).1 : Nat)) ∧ w.cell? ⟨R, oR + i * 2 + 1, none⟩ = some (.int .u16 ((orbitA.getD i (0, 0)).2 : Nat))
def OrbVar (w : World) : Prop := ∃ R oR cap, w.cell? ⟨2, 0, none⟩ = some (.slice (some ⟨R, oR, none⟩) orbitA.size cap) ∧ OrbTab R oR w
def AscTab (w : World) : Prop := ∀ i, i < 128 → w.cell? ⟨1, i, none⟩ = some (.int .u16 (asciiFoldA.getD i 0 : Nat))
structure FoldOk (w : World) : Prop where
 asc : AscTab w
 orb : OrbVar w
 cas : CaseVar 3 caseA w
theorem OrbVar.below {w w' : World} (h : OrbVar w) (hb : Below w.heap.size w w') : OrbVar w' := by
 obtain ⟨R, oR, cap, hv, ht⟩ := h
 have key : ∀ {p : Addr} {v : Value}, w.cell? p = some v → w'.cell? p = some v := fun {p v} e => (hb.cell (World.block_lt_of_cell? _ _ e)).trans e
 exact ⟨R, oR, cap, key hv, fun i hi => ⟨key (ht i hi).1, key (ht i hi).2⟩⟩
theorem AscTab.below {w w' : World} (h : AscTab w) (hb : Below w.heap.size w w') : AscTab w' := fun i hi =>
 (hb.cell (World.block_lt_of_cell? _ _ (h i hi))).trans (h i hi)
theorem caseVar_below {g : Nat} {T : Array CaseRow} {w w' : World} (h : CaseVar g T w) (hb : Below w.heap.size w w') : CaseVar g T w' := by
 obtain ⟨R, oR, cap, hv, ht⟩ := h
 have key : ∀ {p : Addr} {v : Value}, w.cell? p = some v → w'.cell? p = some v := fun {p v} e => (hb.cell (World.block_lt_of_cell? _ _ e)).trans e
 exact ⟨R, oR, cap, key hv, fun i hi => ⟨key (ht i hi).1, key (ht i hi).2.1, key (ht i hi).2.2.1, key (ht i hi).2.2.2.1, key (ht i hi).2.2.2.2⟩⟩
theorem FoldOk.below {w w' : World} (h : FoldOk w) (hb : Below w.heap.size w w') : FoldOk w' := ⟨h.asc.below hb, h.orb.below hb, caseVar_below h.cas hb⟩
theorem orbitA_size : orbitA.size = 94 := by decide +kernel
theorem orb_small (i : Nat) : (orbitA.getD i (0, 0)).1 < 65536 ∧ (orbitA.getD i (0, 0)).2 < 65536 := by
 by_cases h : i < orbitA.size
 · have hm : orbitA.getD i (0, 0) ∈ orbitT := by
    unfold orbitA at h ⊢
    simp only [List.size_toArray] at h
    simp [Array.getD, h]
   have := List.all_eq_true.1 (show orbitT.all (fun x => decide (x.1 < 65536) && decide (x.2 < 65536)) = true by decide +kernel) _ hm
   simpa using this
 · simp [Array.getD, h]
theorem asc_small (i : Nat) : asciiFoldA.getD i 0 < 65536 := by
 by_cases h : i < asciiFoldA.size
 · have hm : asciiFoldA.getD i 0 ∈ asciiFoldT := by
    unfold asciiFoldA at h ⊢
    simp only [List.size_toArray] at h
    simp [Array.getD, h]
   have := List.all_eq_true.1 (show asciiFoldT.all (fun x => decide (x < 65536)) = true by decide +kernel) _ hm
   simpa using this
 · simp [Array.getD, h]
theorem orbLo_end (r : Int) (f lo hi : Nat) (h : ¬ lo < hi) : orbLo r f lo hi = lo := by
 cases f with
 | zero => rfl
 | succ f => rw [orbLo, if_neg h]
theorem SimpleFold_any (r : Int) (w : World) (hr : -2147483648 ≤ r ∧ r ≤ 2147483647) (hF : FoldOk w) :
 Calls Tryd.prog 63 #[.int .i32 r] w fun e w' => e = .returned (.int .i32 (foldG r)) ∧ Below w.heap.size w w' := by
 obtain ⟨hasc, ⟨R, oR, cap, hv, htab⟩, hcas⟩ := hF
 by_cases h0 : r < 0
 · have hG : foldG r = r := by unfold foldG; rw [if_pos (.inl h0)]
   rw [hG]
   clear hG hasc hv htab hcas
   go_enter Tryd.func63, Tryd.ntmps63
   go_wp2
   go_ret
   exact ⟨rfl, Below.refl _ _⟩
 · by_cases h1 : 1114111 < r
   · have hG : foldG r = r := by unfold foldG; rw [if_pos (.inr h1)]
     rw [hG]
     clear hG hasc hv htab hcas
     go_enter Tryd.func63, Tryd.ntmps63
     go_wp2
     go_ret
     exact ⟨rfl, Below.refl _ _⟩
   · by_cases h2 : r < 128
     · obtain ⟨k, rfl⟩ : ∃ k : Nat, r = k := ⟨r.toNat, by omega⟩
       have hG : foldG (k : Int) = (asciiFoldA.getD k 0 : Nat) := by
        unfold foldG
        rw [if_neg (by omega), if_pos h2]
        rfl
       rw [hG]
       have c0 := hasc k (by omega)
       have hsm := asc_small k
       obtain ⟨X, hX⟩ : ∃ X, X = asciiFoldA.getD k 0 := ⟨_, rfl⟩
       rw [← hX] at c0 hsm ⊢
       have hwr : wrap32 (X : Int) = X := by unfold wrap32; omega
       clear hG hasc hv htab hcas hX
       go_enter Tryd.func63, Tryd.ntmps63
       go_wp2
       go_ret
       exact ⟨rfl, Below.refl _ _⟩
     · have hG : foldG r = if orbLo r 100 0 orbitA.size < orbitA.size ∧ ((orbitA.getD (orbLo r 100 0 orbitA.size) (0, 0)).1 : Int) = r then (((orbitA.getD (orbLo r 100 0 orbitA.size) (0, 0)).2 : Nat) : Int) else caseFold r := by
        unfold foldG
        rw [if_neg (by omega), if_neg h2]
       obtain ⟨G, hGG⟩ : ∃ G, G = foldG r := ⟨_, rfl⟩
       rw [← hGG] at hG ⊢
       obtain ⟨LO, hLO⟩ : ∃ x, x = orbLo r 100 0 orbitA.size := ⟨_, rfl⟩
       rw [← hLO] at hG
       have hsz := orbitA_size
       rw [hsz] at hv hLO hG
       have HG := Lib.hid hG
       have HLO := Lib.hid hLO
       have Htab := Lib.hid htab
       have Hcas := Lib.hid hcas
       have Hsz := Lib.hid hsz
       clear hG hLO hasc htab hcas hGG hsz
       go_enter Tryd.func63, Tryd.ntmps63
       go_wp2
       go_loopg [3, 4] 101 (fun g s3 s4 wx => wx = w ∧ ∃ lo hi : Nat, s3 = .int .i64 lo ∧ s4 = .int .i64 hi ∧ lo ≤ hi ∧ hi ≤ 94 ∧ hi - lo < g ∧ Hid (∃ f, hi - lo ≤ f ∧ orbLo r f lo hi = LO))
       case atStart => exact ⟨rfl, 0, 94, rfl, rfl, Nat.zero_le _, Nat.le_refl _, by omega, ⟨100, by omega, HLO.out.symm⟩⟩
       case round =>
        obtain ⟨rfl, lo, hi, rfl, rfl, hlh, hhn, hg, hl⟩ := hrel
        by_cases hlt : lo < hi
        · obtain ⟨g', rfl⟩ : ∃ g', gk = g' + 1 := ⟨gk - 1, by omega⟩
          have hz : (lo : Int) < (hi : Int) := by omega
          obtain ⟨m, hm⟩ : ∃ m, (lo + hi) / 2 = m := ⟨_, rfl⟩
          have hmr : lo ≤ m ∧ m < hi := by omega
          have hmz : ((lo : Int) + (hi : Int)) / 2 = (m : Int) := by omega
          obtain ⟨c0, _⟩ := Htab.out m (by rw [Hsz.out]; omega)
          have hs := (orb_small m).1
          obtain ⟨f, hf, hl2⟩ := hl.out
          obtain ⟨f', rfl⟩ : ∃ f', f = f' + 1 := ⟨f - 1, by omega⟩
          rw [orbLo, if_pos hlt, hm] at hl2
          obtain ⟨X, hX⟩ : ∃ X, X = (orbitA.getD m (0, 0)).1 := ⟨_, rfl⟩
          rw [← hX] at c0 hs hl2
          have hwr : wrap32 (X : Int) = X := by unfold wrap32; omega
          clear hX hl hm
          by_cases hb : (X : Int) < r
          · rw [if_pos hb] at hl2
            have Hl2 := Lib.hid hl2
            clear hl2
            go_wp2
            go_roundg g'
            case measure => omega
            case rel => exact ⟨rfl, m + 1, hi, by first | rfl | simp, rfl, by omega, by omega, by omega, ⟨f', by omega, Hl2.out⟩⟩
          · rw [if_neg hb] at hl2
            have Hl2 := Lib.hid hl2
            clear hl2
            go_wp2
            go_roundg g'
            case measure => omega
            case rel => exact ⟨rfl, lo, m, rfl, rfl, by omega, by omega, by omega, ⟨f', by omega, Hl2.out⟩⟩
        · have hz : ¬ ((lo : Int) < (hi : Int)) := by omega
          obtain rfl : lo = LO := by
           obtain ⟨f, _, hl2⟩ := hl.out
           rw [orbLo_end r f lo hi hlt] at hl2
           exact hl2
          clear hl hlt
          by_cases hlo : lo < 94
          · have hloz : (lo : Int) < 94 := by omega
            obtain ⟨c0, c1⟩ := Htab.out lo (by rw [Hsz.out]; exact hlo)
            have hs := orb_small lo
            have hG := HG.out
            obtain ⟨X, hX⟩ : ∃ X, X = (orbitA.getD lo (0, 0)).1 := ⟨_, rfl⟩
            obtain ⟨Y, hY⟩ : ∃ Y, Y = (orbitA.getD lo (0, 0)).2 := ⟨_, rfl⟩
            rw [← hX] at c0 hs hG
            rw [← hY] at c1 hs hG
            have hwr : wrap32 (X : Int) = X := by unfold wrap32; omega
            have hwy : wrap32 (Y : Int) = Y := by unfold wrap32; omega
            clear hX hY
            by_cases he : (X : Int) = r
            · rw [if_pos ⟨hlo, he⟩] at hG
              have heq : ((X : Int) == r) = true := by simp [he]
              have HG2 := Lib.hid hG
              clear hG he
              go_wp2
              go_ret
              exact ⟨by rw [HG2.out]; rfl, Below.refl _ _⟩
            · rw [if_neg (fun h => he h.2)] at hG
              have heq : ((X : Int) == r) = false := by simp [he]
              have HG2 := Lib.hid hG
              clear hG he
              obtain ⟨Rc, oc, capc, hcv, hct⟩ := Hcas.out
              have hG := HG2.out
              have hlk := Go.Proofs.Tryd.unicode_lookupCaseRange caseA Rc oc capc r wr hct caseA_ok2.ok (by rw [caseA_size]; omega)
              unfold caseFold at hG
              rw [caseA_size] at hcv hG hlk
              cases hi : lookupIdx caseA r (336 + 1) 0 336 with
              | none =>
               rw [hi] at hlk hG
               simp only at hlk hG
               have Hlk := Lib.hid hlk
               have HG3 := Lib.hid hG
               clear hlk hG hi hct
               go_wp2_with fail
               refine Hlk.out.mono ?_
               rintro e w1 ⟨rfl, rfl⟩
               go_wp2_with fail
               go_ret
               exact ⟨by rw [HG3.out]; rfl, Below.refl _ _⟩
              | some i =>
               obtain ⟨hil, hlo2, hhi2⟩ := lookupIdx_some caseA r _ _ _ i hi
               rw [hi] at hlk hG
               simp only at hlk hG
               have hil2 : i < caseA.size := by rw [caseA_size]; exact hil
               have fit := fun c hc => convert_fits _ (caseA_row i hil2) c hc r hlo2 hhi2
               have cC := fun c (hc : c < 3) (W : World) (hW : Below wr.heap.size wr W) => Go.Proofs.Tryd.unicode_convertCase c hc r Rc (oc + i * 5) (caseA.getD i (0, 0, 0, 0, 0)) W hlo2 hhi2 (caseA_ok2 i hil2).2
                ((hW.cell (World.block_lt_of_cell? _ _ (hct i hil2).1)).trans (hct i hil2).1) ((hW.cell (World.block_lt_of_cell? _ _ (hct.delta i hil2 c hc))).trans (hct.delta i hil2 c hc))
               have c1 := cC 1 (by omega) wr (Below.refl _ _)
               rw [fit 1 (by omega)] at c1
               have c2 := fun W hW => cC 0 (by omega) W hW
               simp only [fit 0 (by omega)] at c2
               obtain ⟨V1, hV1⟩ : ∃ x, x = convertR 1 r (caseA.getD i (0, 0, 0, 0, 0)) := ⟨_, rfl⟩
               obtain ⟨V0, hV0⟩ : ∃ x, x = convertR 0 r (caseA.getD i (0, 0, 0, 0, 0)) := ⟨_, rfl⟩
               rw [← hV1] at c1 hG
               rw [← hV0] at hG
               simp only [← hV0] at c2
               have Hlk := Lib.hid hlk
               have HG3 := Lib.hid hG
               have C1 := Lib.hid c1
               have C2 := Lib.hid c2
               clear hlk hG hi hct fit cC c1 c2 hV1 hV0 hlo2 hhi2
               go_wp2_with fail
               refine Hlk.out.mono ?_
               rintro e w1 ⟨rfl, rfl⟩
               go_wp2_with fail
               refine C1.out.mono ?_
               rintro e w2 ⟨rfl, q, rfl⟩
               by_cases hne : V1 = r
               · have hb : (V1 != r) = false := by simp [hne]
                 have hG := HG3.out
                 rw [if_neg (by simp [hne])] at hG
                 have HG4 := Lib.hid hG
                 clear hne hG
                 go_wp2_with fail
                 refine (C2.out _ (belN (Below.refl _ _) q)).mono ?_
                 rintro e w3 ⟨rfl, q2, rfl⟩
                 go_wp2_with fail
                 go_ret
                 exact ⟨by rw [HG4.out]; rfl, belN (Below.refl _ _) (q + q2)⟩
               · have hb : (V1 != r) = true := by simp [hne]
                 have hG := HG3.out
                 rw [if_pos hne] at hG
                 have HG4 := Lib.hid hG
                 clear hne hG
                 go_wp2_with fail
                 go_ret
                 exact ⟨by rw [HG4.out]; rfl, belN (Below.refl _ _) q⟩
          · have hloz : ¬ (lo : Int) < 94 := by omega
            have hG := HG.out
            rw [if_neg (fun h => hlo h.1)] at hG
            have HG2 := Lib.hid hG
            clear hG
            obtain ⟨Rc, oc, capc, hcv, hct⟩ := Hcas.out
            have hG := HG2.out
            have hlk := Go.Proofs.Tryd.unicode_lookupCaseRange caseA Rc oc capc r wr hct caseA_ok2.ok (by rw [caseA_size]; omega)
            unfold caseFold at hG
            rw [caseA_size] at hcv hG hlk
            cases hi : lookupIdx caseA r (336 + 1) 0 336 with
            | none =>
             rw [hi] at hlk hG
             simp only at hlk hG
             have Hlk := Lib.hid hlk
             have HG3 := Lib.hid hG
             clear hlk hG hi hct
             go_wp2_with fail
             refine Hlk.out.mono ?_
             rintro e w1 ⟨rfl, rfl⟩
             go_wp2_with fail
             go_ret
             exact ⟨by rw [HG3.out]; rfl, Below.refl _ _⟩
            | some i =>
             obtain ⟨hil, hlo2, hhi2⟩ := lookupIdx_some caseA r _ _ _ i hi
             rw [hi] at hlk hG
             simp only at hlk hG
             have hil2 : i < caseA.size := by rw [caseA_size]; exact hil
             have fit := fun c hc => convert_fits _ (caseA_row i hil2) c hc r hlo2 hhi2
             have cC := fun c (hc : c < 3) (W : World) (hW : Below wr.heap.size wr W) => Go.Proofs.Tryd.unicode_convertCase c hc r Rc (oc + i * 5) (caseA.getD i (0, 0, 0, 0, 0)) W hlo2 hhi2 (caseA_ok2 i hil2).2
              ((hW.cell (World.block_lt_of_cell? _ _ (hct i hil2).1)).trans (hct i hil2).1) ((hW.cell (World.block_lt_of_cell? _ _ (hct.delta i hil2 c hc))).trans (hct.delta i hil2 c hc))
             have c1 := cC 1 (by omega) wr (Below.refl _ _)
             rw [fit 1 (by omega)] at c1
             have c2 := fun W hW => cC 0 (by omega) W hW
             simp only [fit 0 (by omega)] at c2
             obtain ⟨V1, hV1⟩ : ∃ x, x = convertR 1 r (caseA.getD i (0, 0, 0, 0, 0)) := ⟨_, rfl⟩
             obtain ⟨V0, hV0⟩ : ∃ x, x = convertR 0 r (caseA.getD i (0, 0, 0, 0, 0)) := ⟨_, rfl⟩
             rw [← hV1] at c1 hG
             rw [← hV0] at hG
             simp only [← hV0] at c2
             have Hlk := Lib.hid hlk
             have HG3 := Lib.hid hG
             have C1 := Lib.hid c1
             have C2 := Lib.hid c2
             clear hlk hG hi hct fit cC c1 c2 hV1 hV0 hlo2 hhi2
             go_wp2_with fail
             refine Hlk.out.mono ?_
             rintro e w1 ⟨rfl, rfl⟩
             go_wp2_with fail
             refine C1.out.mono ?_
             rintro e w2 ⟨rfl, q, rfl⟩
             by_cases hne : V1 = r
             · have hb : (V1 != r) = false := by simp [hne]
               have hG := HG3.out
               rw [if_neg (by simp [hne])] at hG
               have HG4 := Lib.hid hG
               clear hne hG
               go_wp2_with fail
               refine (C2.out _ (belN (Below.refl _ _) q)).mono ?_
               rintro e w3 ⟨rfl, q2, rfl⟩
               go_wp2_with fail
               go_ret
               exact ⟨by rw [HG4.out]; rfl, belN (Below.refl _ _) (q + q2)⟩
             · have hb : (V1 != r) = true := by simp [hne]
               have hG := HG3.out
               rw [if_pos hne] at hG
               have HG4 := Lib.hid hG
               clear hne hG
               go_wp2_with fail
               go_ret
               exact ⟨by rw [HG4.out]; rfl, belN (Below.refl _ _) q⟩
end Go.Proofs.YtpnolbfnmknhlaaDoor
namespace Go.Proofs.YtpnolbfnmknhlaaDoor
open Go.ChangeShapes Go.WideShapes Go.ChangeAt Go.RowKit Go.Lib
def foldNames (x : String × DataW Unit) : Bool := x.1 == "unicode.asciiFold" || x.1 == "unicode.caseOrbit" || x.1 == "unicode.CaseRanges"
def ascData : DataW Unit := .agg (asciiFoldT.map fun n => .lit (.int .u16 (n : Nat)))
def orbRow (x : Nat × Nat) : DataW Unit := .agg [.lit (.int .u16 (x.1 : Nat)), .lit (.int .u16 (x.2 : Nat))]
def orbData : DataW Unit := .slice (orbitT.map orbRow) []
theorem asc_gen (l : List Nat) (hl : l.length = 128) (i : Nat) (hi : i < 128) (z : Int) (d : DataW Unit) (hd : (l.map fun n => (DataW.lit (.int .u16 (n : Nat)) : DataW Unit))[i]? = some d) (hz : d = .lit (.int .u16 z)) : z = ((l.toArray.getD i 0 : Nat) : Int) := by
 rw [List.getElem?_map, List.getElem?_eq_getElem (by omega), hz] at hd
 simp only [Option.map_some, Option.some.injEq, DataW.lit.injEq, Lit.int.injEq, true_and] at hd
 rw [← hd]
 simp [Array.getD, hl, hi]
theorem ascTab_of {W : World} (h : VarReads Tryd.prog W "unicode.asciiFold" ascData) : AscTab W := by
 obtain ⟨g, t, cs, fuel, p, hg, hty, hvar, hd⟩ := h
 obtain rfl := Option.some.inj ((show Tryd.prog.globalNamed "unicode.asciiFold" = some 1 by kernel_rfl).symm.trans hg)
 obtain rfl := Option.some.inj ((show (Tryd.prog.globals[1]?).map (·.type) = some 87 by kernel_rfl).symm.trans hty)
 have c16 : Tryd.prog.cellsOf 86 = 1 := by kernel_rfl
 intro i hi
 obtain ⟨fuel', d, q, hd', ht⟩ := array_elem Tryd.underlying87 hd i hi
 rw [c16] at ht
 obtain ⟨z, hz, hx', _⟩ := DataW.trod_int Tryd.underlying86 ht
 have hz' := at_of_take hz
 rw [Nat.mul_one] at hz'
 rw [World.var?_cell hg hvar i, ← Array.getElem?_toList, hz']
 rw [asc_gen asciiFoldT (by decide +kernel) i hi z d hd' (congrArg Prod.fst hx')]
 rfl
theorem orbRow_cells {W : World} {fuel : Nat} {cs : List Value} {x : Nat × Nat} {p : List MemPlace} (h : DataW.trod (fun _ => ()) Tryd.prog W 0 (fun _ => true) false fuel 90 cs = some (orbRow x, p)) :
 cs[0]? = some (.int .u16 (x.1 : Nat)) ∧ cs[1]? = some (.int .u16 (x.2 : Nat)) := by
 obtain ⟨y0, y1, n, hx, hl, h0, h1⟩ := trod_struct2 Tryd.underlying90 h
 have c16 : Tryd.prog.cellsOf 86 = 1 := by kernel_rfl
 have e0 := congrArg Prod.fst hx
 simp only [orbRow, DataW.agg.injEq, List.cons.injEq, and_true] at e0
 obtain ⟨e1, e2⟩ := e0
 change DataW.trod _ _ _ _ _ _ _ 86 ((cs.drop 0).take (Tryd.prog.cellsOf 86)) = some y0 at h0
 change DataW.trod _ _ _ _ _ _ _ 86 ((cs.drop 1).take (Tryd.prog.cellsOf 86)) = some y1 at h1
 rw [c16] at h0 h1
 obtain ⟨z0, k0, l0, _⟩ := DataW.trod_int Tryd.underlying86 h0
 obtain ⟨z1, k1, l1, _⟩ := DataW.trod_int Tryd.underlying86 h1
 rw [l0] at e1
 rw [l1] at e2
 injection e1 with e1
 injection e1 with _ e1
 injection e2 with e2
 injection e2 with _ e2
 rw [e1, e2]
 exact ⟨at_of_take k0, at_of_take k1⟩
theorem orbVar_of {W : World} (h : VarReads Tryd.prog W "unicode.caseOrbit" orbData) : OrbVar W := by
 obtain ⟨g, t, cs, fuel, p, hg, hty, hvar, hd⟩ := h
 obtain rfl := Option.some.inj ((show Tryd.prog.globalNamed "unicode.caseOrbit" = some 2 by kernel_rfl).symm.trans hg)
 obtain rfl := Option.some.inj ((show (Tryd.prog.globals[2]?).map (·.type) = some 88 by kernel_rfl).symm.trans hty)
 have c2 : Tryd.prog.cellsOf 90 = 2 := by kernel_rfl
 rcases DataW.trod_slice Tryd.underlying88 hd with ⟨_, hx'⟩ | ⟨a', len, cap, el, rs, m, rfl, hc0, hx', _, hlc, _, hel, helem, hsp, _⟩
 · cases hx'
 have e0 := congrArg Prod.fst hx'
 simp only [orbData, DataW.slice.injEq] at e0
 obtain ⟨eE, eR⟩ := e0
 have hlen : len = orbitT.length := by
  have := congrArg List.length eE
  simp at this
  omega
 have hsz : orbitA.size = len := by rw [hlen]; simp [orbitA]
 have hrow : ∀ i, i < len → W.cell? ((a'.add (i * 2)).add 0) = some (.int .u16 ((orbitA.getD i (0, 0)).1 : Nat)) ∧ W.cell? ((a'.add (i * 2)).add 1) = some (.int .u16 ((orbitA.getD i (0, 0)).2 : Nat)) := by
  intro i hi
  have h1 := helem i hi
  rw [c2] at h1
  obtain ⟨b, hb⟩ : ∃ b, el[i]? = some b := ⟨el[i]'(by omega), List.getElem?_eq_getElem (by omega)⟩
  rw [hb] at h1
  obtain ⟨ce, hce, hte⟩ := Option.bind_eq_some_iff.1 h1
  have hb1 : b.1 = orbRow (orbitA.getD i (0, 0)) := by
   have := congrArg (·[i]?) eE
   simp only [List.getElem?_map, hb, Option.map_some] at this
   have hi' : i < orbitT.length := by omega
   rw [List.getElem?_eq_getElem hi'] at this
   simp only [Option.map_some, Option.some.injEq] at this
   rw [← this]
   simp [orbitA, Array.getD, hi']
  have hcs := orbRow_cells (p := b.2) (by rw [← hb1]; exact hte)
  obtain ⟨_, _, hcc⟩ := World.cells?_some hce
  exact ⟨by rw [hcc 0 (by omega)]; exact hcs.1, by rw [hcc 1 (by omega)]; exact hcs.2⟩
 obtain ⟨R, oR, sR⟩ := a'
 have hpos : 0 < len := by
  have h94 : orbitT.length = 94 := by decide +kernel
  omega
 obtain rfl : sR = none := by
  have h00 := (hrow 0 hpos).1
  have : (Addr.add (Addr.add ⟨R, oR, sR⟩ (0 * 2)) 0) = ⟨R, oR, sR⟩ := by simp [Addr.add]
  rw [this] at h00
  exact cell_spot h00
 refine ⟨R, oR, cap, ?_, fun i hi => ?_⟩
 · rw [World.var?_cell hg hvar 0, ← Array.getElem?_toList, hc0, hsz]
   rfl
 · rw [hsz] at hi
   have k := hrow i hi
   rw [Addr.add_lit, Addr.add_lit, Addr.add_lit] at k
   exact ⟨by simpa using k.1, by simpa using k.2⟩
def caseRen : Go.Shelf.Ren := ⟨Go.Proofs.Tryd.lays274_ren.f, Go.Proofs.Tryd.lays274_ren.t, fun | 13 => 3 | n => n⟩
theorem caseLays : Go.Proofs.Lays.n274 Tryd.prog caseRen := { Go.Proofs.Tryd.lays274 with }
/-- What a row's laid table gives. -/
theorem foldOk_of_laid {W : World} {laid : List (String × DataW Unit)} (h : laidMetH Tryd.prog laid W) (e : laid.filter foldNames = [("unicode.asciiFold", ascData), ("unicode.caseOrbit", orbData), ("unicode.CaseRanges", caseData)]) : FoldOk W := by
 have h1 := h.filter foldNames
 rw [e, MakeChecks.laidMetH_plain _ _ _ (by kernel_rfl)] at h1
 exact ⟨ascTab_of (Lib.laidMet.reads h1 (.head _)), orbVar_of (Lib.laidMet.reads h1 (.tail _ (.head _))),
  caseVar_of_reads (ρ := caseRen) caseLays (by kernel_rfl) ⟨by kernel_rfl, by kernel_rfl, by kernel_rfl, by kernel_rfl, by kernel_rfl, by kernel_rfl⟩ (Lib.laidMet.reads h1 (.tail _ (.tail _ (.head _))))⟩
end Go.Proofs.YtpnolbfnmknhlaaDoor

import Derived.Test.YtdhmmepcnladcaaDoorHdG
import Derived.Test.YtdhmmepcnladcaaDoorTok
import Derived.Test.YtdhmmepcnladcaaDoorTrim
import Derived.Test.YtdhmmepcnladcaaDoorLk2
import Derived.Laws.StructEq
namespace Go.Proofs.YtdhmmepcnladcaaDoor
open Go.RowKit

/-! ### Fields in memory -/
def fieldC (l : List FieldD) : List Value := l.flatMap FieldD.cells
theorem fieldC_len (l : List FieldD) : (fieldC l).length = l.length * 2 := by
  induction l with
  | nil => rfl
  | cons a l ih => unfold fieldC at ih ⊢; rw [List.flatMap_cons, List.length_append, ih]; simp [FieldD.cells]; omega
theorem fieldC_app (a b : List FieldD) : fieldC (a ++ b) = fieldC a ++ fieldC b := by simp [fieldC]
theorem fieldC_one (l : List FieldD) : ∀ u ∈ fieldC l, u.oneCell' = true := by
  intro u hu
  simp only [fieldC, FieldD.cells, List.mem_flatMap, List.mem_cons, List.not_mem_nil, or_false] at hu
  obtain ⟨x, _, rfl | rfl⟩ := hu <;> rfl
theorem infoField : (Tryd.prog.info? 46).map (fun i => (i.zero, i.size, i.bytes)) = some (some (.agg #[.string ⟨#[]⟩, .string ⟨#[]⟩]), 2, 32) := by kernel_rfl
theorem Sl.field {w : World} {B n : Nat} {A : Option Addr} {ls : List FieldD} (h : Sl w B 2 A n (fieldC ls)) (i : Nat) (hi : i < n) :
    ∃ b off x, A = some ⟨b, off, none⟩ ∧ b < B ∧ ls.drop i = x :: ls.drop (i + 1) ∧ w.cell? ⟨b, off + i * 2, none⟩ = some (str x.name) ∧ w.cell? ⟨b, off + i * 2 + 1, none⟩ = some (str x.value) := by
  obtain ⟨b, off, hA, hb, hc⟩ := h.2 (by omega)
  have hl : ls.length = n := by have := h.1; rw [fieldC_len] at this; omega
  have hil : i < ls.length := by omega
  have hd := List.drop_eq_getElem_cons hil
  have hsplit : fieldC ls = fieldC (ls.take i) ++ fieldC (ls.drop i) := by rw [← fieldC_app, List.take_append_drop]
  have hat : ∀ k, k < 2 → (fieldC ls)[i * 2 + k]? = [str ls[i].name, str ls[i].value][k]? := by
    intro k hk
    have e : (fieldC (ls.take i)).length = i * 2 := by rw [fieldC_len, List.length_take, Nat.min_eq_left (by omega)]
    rw [hsplit, List.getElem?_append_right (by omega), e, Nat.add_sub_cancel_left, hd]
    show ((fieldC (ls[i] :: ls.drop (i + 1))))[k]? = _
    rw [show fieldC (ls[i] :: ls.drop (i + 1)) = [str ls[i].name, str ls[i].value] ++ fieldC (ls.drop (i + 1)) from rfl, List.getElem?_append_left (by simpa using hk)]
  exact ⟨b, off, ls[i], hA, hb, hd, hc _ _ (hat 0 (by omega)), hc _ _ (hat 1 (by omega))⟩
/-- Fields whose texts are strings of Go. -/
def smallF (l : List FieldD) : Prop := ∀ f ∈ l, f.name.length ≤ maxLen ∧ f.value.length ≤ maxLen
theorem smallF.at_ {l : List FieldD} (h : smallF l) {i : Nat} {x : FieldD} (hx : l.drop i = x :: l.drop (i + 1)) : x.name.length ≤ maxLen ∧ x.value.length ≤ maxLen :=
  h x (List.mem_of_mem_drop (i := i) (by rw [hx]; simp))

/-! ### header.Value -/
theorem Trim_any (l cs : List UInt8) (w : World) (hl : l.length ≤ maxLen) (hc : cs.length < 4294967281) (ha : cs.all (fun b => decide (b.toNat < 128)) = true) :
    Calls Tryd.prog 94 #[str l, .string ⟨cs.toArray⟩] w fun e w' => e = .returned (str (Lib.trimS l cs)) ∧ Below w.heap.size w w' :=
  Any.strings_Trim_laid Go.Proofs.Tryd.lays160 (by kernel_rfl) ⟨l.toArray⟩ ⟨cs.toArray⟩ w (by unfold maxLen at hl; simpa [ByteArray.size] using hl) (by simpa [ByteArray.size] using hc) (ascii_of_all ha)
set_option maxRecDepth 100000 in
set_option maxHeartbeats 400000 in
theorem value1_h (x : Nat) (hx : x < 256) (w : World) : Calls Tryd.prog 95 #[.int .u8 (x : Int)] w fun e w' => e = .returned (.bool (badVal x)) ∧ w = w' := by
  go_enter Tryd.func95, Tryd.ntmps95
  go_wp2_with fail
  all_goals
    go_ret
    refine ⟨congrArg (fun b => Ending.returned (.bool b)) (?_ : _ = badVal x), rfl⟩
    rw [Bool.eq_iff_iff]
    simp [badVal]
    try omega
theorem predValH (w : World) : PredB 95 #[] badVal w := fun W x hx _ =>
  (value1_h x hx W).mono fun e w' ⟨h1, h2⟩ => ⟨h1, h2 ▸ Below.refl _ _⟩
set_option maxRecDepth 100000 in
set_option maxHeartbeats 1000000 in
theorem Value_any (l : List UInt8) (w : World) (hl : l.length ≤ maxLen) : Calls Tryd.prog 30 #[str l] w fun e w' => e = .returned (.bool (valB l)) ∧ Below w.heap.size w w' := by
  have htr := fun W => Trim_any l [32] W hl (by decide) (by decide)
  unfold maxLen at hl
  by_cases h9 : l.length ≤ 900
  · have d9 : decide ((l.length : Int) ≤ 900) = true := by simp; omega
    have d9b : decide (l.length ≤ 900) = true := by simpa using h9
    generalize hT : Lib.trimS l [32] = T at htr
    have Htr := Lib.hid htr
    by_cases hs : l = T
    · have e : valB l = !l.any (fun b => badVal b.toNat) := by
        have : (l == Lib.trimS l [32]) = true := by rw [hT]; simpa using hs
        simp [valB, h9, this]
      rw [e]
      have hlT : (l == T) = true := by simpa using hs
      clear e hs hT htr
      have hby := fun W => run_toBytes (P := Tryd.prog) W 9 22 5 l Tryd.underlying9 Tryd.underlying22 Tryd.underlying5
      generalize hr : l.any (fun b => badVal b.toNat) = r
      have Hr := Lib.hid hr
      have Hby := Lib.hid hby
      clear hby hr
      go_enter Tryd.func30, Tryd.ntmps30
      go_wp2_with fail
      refine (Htr.out _).mono ?_
      rintro e w1 ⟨rfl, hb1⟩
      obtain ⟨A, c, w2, hconv, hby2, hnc, hb2, hlt2⟩ := Hby.out w1
      have hcf := ContainsFunc_bytes 95 #[] (enters_of Tryd.func95 (by kernel_rfl) rfl) badVal A l.length c _ l w2 hby2 (Nat.le_refl _) (by unfold maxLen; omega) (predValH w2)
      rw [Hr.out] at hcf
      have Hcf := Lib.hid hcf
      clear hcf hby2
      go_wp2_with fail
      refine Hcf.out.mono ?_
      rintro e w3 ⟨rfl, hb3⟩
      go_wp2_with fail
      go_ret
      exact ⟨rfl, hb1.trans ((hb2.trans (hb3.mono hb2.size)).mono hb1.size)⟩
    · have e : valB l = false := by
        have : (l == Lib.trimS l [32]) = false := by rw [hT]; simpa using hs
        simp [valB, this]
      rw [e]
      have hlT : (l == T) = false := by simpa using hs
      clear e hs hT htr
      go_enter Tryd.func30, Tryd.ntmps30
      go_wp2_with fail
      refine (Htr.out _).mono ?_
      rintro e w1 ⟨rfl, hb1⟩
      go_wp2_with fail
      go_ret
      exact ⟨rfl, hb1⟩
  · have e : valB l = false := by simp [valB, h9]
    have d9 : decide ((l.length : Int) ≤ 900) = false := by simp; omega
    rw [e]
    clear e htr
    go_enter Tryd.func30, Tryd.ntmps30
    go_wp2_with fail
    go_ret
    exact ⟨rfl, Below.refl _ _⟩

/-! ### header.Check -/
theorem box2_new (w : World) (t : TypeId) (u v : Value) : (w.alloc (.cells #[u, v] t)).cell? ⟨w.heap.size, 0, none⟩ = some u ∧ (w.alloc (.cells #[u, v] t)).cell? ⟨w.heap.size, 1, none⟩ = some v := by
  have h := heap_alloc_new w (.cells #[u, v] t)
  constructor <;> (unfold World.cell?; rw [h]; rfl)
def FChkRel (l : List FieldD) (n : Nat) (R : Bool) (w : World) (iv : Value) (wr : World) : Prop :=
  ∃ i : Nat, iv = .int .i64 (i : Nat) ∧ i ≤ n ∧ Below w.heap.size w wr ∧ Hid ((l.drop i).all okF = R)
set_option maxRecDepth 100000 in
set_option maxHeartbeats 2000000 in
theorem FCheck_any (l : List FieldD) (A : Option Addr) (n c B : Nat) (w : World) (h : Sl w B 2 A n (fieldC l)) (hB : B ≤ w.heap.size) (hs : smallF l) (hn : n ≤ maxLen) :
    Calls Tryd.prog 59 #[.slice A n c] w fun e w' => e = .returned (.int .i64 (chkF l : Nat)) ∧ Below w.heap.size w w' := by
  have hl : l.length = n := by have := h.1; rw [fieldC_len] at this; omega
  unfold maxLen at hn
  by_cases h20 : 20 < n
  · rw [show chkF l = 2 from by unfold chkF; rw [if_pos (by omega)]]
    have d : decide ((20 : Int) < n) = true := by simp; omega
    clear h hl hs
    go_enter Tryd.func59, Tryd.ntmps59
    go_wp2_with fail
    go_ret
    exact ⟨rfl, Below.refl _ _⟩
  · have d : decide ((20 : Int) < n) = false := by simp; omega
    have hR : chkF l = if l.all okF then 0 else 1 := by unfold chkF; rw [if_neg (by omega)]
    rw [hR]
    obtain ⟨R, hRd⟩ : ∃ R, l.all okF = R := ⟨_, rfl⟩
    rw [hRd]
    have HR := Lib.hid hRd
    have Hl := Lib.hid hl
    have Hs := Lib.hid hs
    have HS := Lib.hid h
    clear h hl hs hR hRd
    go_enter Tryd.func59, Tryd.ntmps59
    go_wp2_with fail
    go_loopw [10] (FChkRel l n R w) (fun iv _ => n - (intOf iv).toNat)
    case atStart => exact ⟨0, rfl, Nat.zero_le _, Below.refl _ _, HR.out⟩
    case round =>
      clear HR
      obtain ⟨i, rfl, hi, hbel, hE⟩ := hrel
      by_cases hin : i < n
      · obtain ⟨b, off, x, rfl, hbB, hx, x0, x1⟩ := (HS.out.below (hbel.mono hB)).field i hin
        obtain ⟨hx1, hx2⟩ := Hs.out.at_ hx
        have h1 := fun W => Token_any x.name W hx1
        have h2 := fun W => Value_any x.value W hx2
        have hE2 : Hid ((okF x && (l.drop (i + 1)).all okF) = R) := by show _ = R; rw [← hE.out, hx, List.all_cons]
        have hok : okF x = (tokB x.name && valB x.value) := rfl
        rw [hok] at hE2
        generalize tokB x.name = t1 at h1 hE2
        generalize valB x.value = t2 at h2 hE2
        have H1 := Lib.hid h1
        have H2 := Lib.hid h2
        have hbA := hbel.alloc hbel.size (.cells #[str x.name, str x.value] 46)
        have y1 := (box2_new wr 46 (str x.name) (str x.value)).2
        clear hx hE hok h1 h2
        cases t1
        · obtain rfl : false = R := by simpa using hE2.out
          go_wp2_with fail
          refine (H1.out _).mono ?_
          rintro e w1 ⟨rfl, hb1⟩
          clear x0 x1
          go_wp2_with fail
          go_ret
          exact ⟨rfl, hbA.trans (hb1.mono hbA.size)⟩
        · go_wp2_with fail
          refine (H1.out _).mono ?_
          rintro e w1 ⟨rfl, hb1⟩
          have y1' := (hb1.cell (p := ⟨wr.heap.size, 1, none⟩) (by simp)).trans y1
          have hbel1 := hbA.trans (hb1.mono hbA.size)
          clear x0 x1 y1
          go_wp2_with fail
          refine (H2.out _).mono ?_
          rintro e w2 ⟨rfl, hb2⟩
          have hbel2 := hbel1.trans (hb2.mono hbel1.size)
          clear y1'
          cases t2
          · obtain rfl : false = R := by simpa using hE2.out
            go_wp2_with fail
            go_ret
            exact ⟨rfl, hbel2⟩
          · have hE3 : Hid ((l.drop (i + 1)).all okF = R) := by show _ = R; rw [← hE2.out]; simp
            clear hE2
            go_wp2_with fail
            exact ⟨⟨i + 1, by go_num, by omega, hbel2, hE3⟩, by simp [intOf]; omega⟩
      · obtain rfl : true = R := by rw [← hE.out, List.drop_of_length_le (by rw [Hl.out]; omega)]; rfl
        go_wp2_with fail
        go_ret
        exact ⟨rfl, hbel⟩
end Go.Proofs.YtdhmmepcnladcaaDoor

import Derived.Test.YtpnolbfnmknhlaaDoorU2
import Derived.Test.YtpnolbfnmknhlaaDoorU1
import Derived.Shelf.Unicode.DecodeLastEight
import Derived.Lib.Fold
import Derived.ScopeJumps
import Derived.WalkMore
import Derived.Laws.RangeString
import Derived.Laws.RangeAny
import Derived.Lib.OthersKept
import Derived.Deep.LoopGhost
import Derived.LoopTactic
set_option maxRecDepth 100000
set_option maxHeartbeats 40000000
namespace Go.Proofs.YtpnolbfnmknhlaaDoor
open Go.RowKit
theorem lowerH_any (l : List UInt8) (w : World) (hl : l.length ≤ maxLen) : Calls Tryd.prog 25 #[str l] w fun e w' => e = .returned (str (lowL l)) ∧ Below w.heap.size w w' := by
 unfold maxLen at hl
 obtain ⟨c, w1, hconv, hown, hc, hb1, hsz⟩ := run_toOwn (P := Tryd.prog) w 9 23 5 l Tryd.underlying9 Tryd.underlying23 Tryd.underlying5 rfl
 obtain ⟨n, hn⟩ : ∃ n, n = l.length := ⟨_, rfl⟩
 rw [← hn] at hconv hl hc
 have Hn := Lib.hid hn
 have Hown := Lib.hid hown
 have Hsz := Lib.hid hsz
 clear hn hown hsz
 go_enter Tryd.func25, Tryd.ntmps25
 go_wp2_with fail
 go_loopw [4, 5, 10] (fun _ _ iv wr => LowRel w n l iv wr) (fun _ _ iv _ => n - (intOf iv).toNat)
 case atStart => exact ⟨0, by omega, rfl, hb1, by simpa using Hown.out⟩
 case round =>
  obtain ⟨k, hk, rfl, hbel, hO⟩ := hrel
  have hlen : ((l.take k).map lowB ++ l.drop k).length = n := by
   simp only [List.length_append, List.length_map, List.length_take, List.length_drop]; have := Hn.out; omega
  by_cases hkn : k < n
  · have hkl : k < l.length := by rw [← Hn.out]; exact hkn
    have hfz := hO.fz k (by rw [hlen]; exact hkn)
    have hcell : wr.cell? ⟨w.heap.size, k, none⟩ = some (.int .u8 (nth l k)) := by
     obtain ⟨b, off, hA, _, hc⟩ := hO.by_.opn (by rw [hlen]; omega)
     injection hA with hA
     injection hA with hA hB _
     subst hA
     subst hB
     have := hc k (by rw [hlen]; exact hkn)
     rw [Nat.zero_add] at this
     rw [this]
     have e : nth ((l.take k).map lowB ++ l.drop k) k = nth l k := by
      have : ((l.take k).map lowB).length = k := by simp; omega
      unfold nth
      simp only [List.getD]
      rw [List.getElem?_append_right (by omega), this, Nat.sub_self, List.getElem?_drop, Nat.add_zero]
     rw [e]
    have hx := nth_lt l k
    have hset := (low_at l k hkl).2
    have hnk : l[k].toNat = nth l k := (nth_of l k hkl).symm
    have hO2 := hO.set k (lowB l[k])
    rw [← hset] at hO2
    have HO := Lib.hid hO
    have HO2 := Lib.hid hO2
    have Hset := Lib.hid hset
    have Hnk := Lib.hid hnk
    have Hlen := Lib.hid hlen
    clear hset hnk hO hO2 hlen
    have hsame : ¬ (65 ≤ nth l k ∧ nth l k ≤ 90) → LowRel w n l (.int .i64 ((k + 1 : Nat) : Int)) wr := by
     intro h
     refine ⟨k + 1, by omega, rfl, hbel, ?_⟩
     have e : lowB l[k] = l[k] := by
      unfold lowB
      rw [if_neg]
      intro ⟨h1, h2⟩
      have h1 := UInt8.le_iff_toNat_le.1 h1
      have h2 := UInt8.le_iff_toNat_le.1 h2
      rw [Hnk.out] at h1 h2
      exact h ⟨h1, h2⟩
     rw [Hset.out, e]
     have e2 : ((l.take k).map lowB ++ l.drop k)[k]'(by rw [Hlen.out]; exact hkn) = l[k] := by
      have : ((l.take k).map lowB).length = k := by simp; omega
      rw [List.getElem_append_right (by omega)]
      simp only [List.getElem_drop]
      congr 1
      omega
     rw [← e2, List.set_getElem_self]
     exact HO.out
    by_cases h1 : 65 ≤ nth l k
    · by_cases h2 : nth l k ≤ 90
      · clear hsame
        go_wp2_with fail
        refine ⟨⟨k + 1, by omega, by go_num, hbel.setCell (Nat.le_refl _) _, ?_⟩, by simp [intOf]; omega⟩
        have e : (lowB l[k]).toNat = nth l k + 32 := by
         unfold lowB
         rw [if_pos ⟨UInt8.le_iff_toNat_le.2 (by rw [Hnk.out]; exact h1), UInt8.le_iff_toNat_le.2 (by rw [Hnk.out]; exact h2)⟩, UInt8.toNat_add, Hnk.out]
         show (nth l k + 32) % 256 = _
         omega
        have e2 : ((nth l k : Nat) : Int) + 97 - 65 = (((lowB l[k]).toNat : Nat) : Int) := by rw [e]; omega
        rw [e2]
        exact HO2.out
      · have hs := Lib.hid (hsame (by omega))
        clear hsame
        go_wp2_with fail
        exact ⟨by have := hs.out; simpa using this, by simp [intOf]; omega⟩
    · have hs := Lib.hid (hsame (by omega))
      clear hsame
      go_wp2_with fail
      exact ⟨by have := hs.out; simpa using this, by simp [intOf]; omega⟩
  · have hkn' : k = n := by omega
    have hM : (l.take k).map lowB ++ l.drop k = lowL l := by
     rw [hkn', List.take_of_length_le (by rw [← Hn.out]; omega), List.drop_of_length_le (by rw [← Hn.out]; omega), List.append_nil]; rfl
    rw [hM] at hO hlen
    have hts := run_toStr (P := Tryd.prog) wr 23 9 5 _ (some ⟨w.heap.size, 0, none⟩) n c (lowL l) (by have := hO.by_; rw [hlen] at this; exact this) Tryd.underlying23 Tryd.underlying5 Tryd.underlying9
    clear hO hM hlen hkn'
    go_wp2_with fail
    go_ret
    exact ⟨rfl, hbel⟩
theorem textF_cons (f : FieldD) (l : List FieldD) : textF (f :: l) = lineF f ++ textF l := by simp [textF]
def FTextRel (w : World) (n : Nat) (l : List FieldD) (T : List UInt8) (iv : Value) (wr : World) : Prop :=
 ∃ (i : Nat) (out : List UInt8), iv = .int .i64 (i : Nat) ∧ i ≤ n ∧ Hid (out ++ textF (l.drop i) = T) ∧ Bld w.heap.size out wr ∧ Below w.heap.size w wr
theorem FText_any (l : List FieldD) (A : Option Addr) (n c B : Nat) (w : World) (h : Sl w B 2 A n (fieldC l)) (hB : B ≤ w.heap.size) (hn : n ≤ maxLen) (hlen : (textF l).length ≤ 1000000) :
 Calls Tryd.prog 20 #[.slice A n c] w fun e w' => e = .returned (str (textF l)) ∧ Below w.heap.size w w' := by
 have hl : l.length = n := by have := h.1; rw [fieldC_len] at this; omega
 obtain ⟨T, hT⟩ : ∃ T, T = textF l := ⟨_, rfl⟩
 rw [← hT] at hlen ⊢
 unfold maxLen at hn
 have HT := Lib.hid hT; have Hl := Lib.hid hl; clear hT hl
 go_enter Tryd.func20, Tryd.ntmps20
 go_wp2_with fail
 go_loopw [8] (FTextRel w n l T) (fun iv _ => n - (intOf iv).toNat)
 case atStart => exact ⟨0, [], rfl, by omega, by show [] ++ textF l = T; rw [HT.out]; rfl, Bld.fresh w, (Below.refl _ _).alloc (Nat.le_refl _) _⟩
 case round =>
  obtain ⟨i, out, rfl, hi, hE, hBl, hbel⟩ := hrel
  by_cases hin : i < n
  · obtain ⟨b, off, x, rfl, hbB, hx, x0, x1⟩ := (h.below (hbel.mono hB)).field i hin
    have hE2 : Hid ((out ++ (x.name ++ 58 :: 32 :: (x.value ++ [13, 10]))) ++ textF (l.drop (i + 1)) = T) := by
     show _ = T
     rw [← hE.out, hx, textF_cons, show lineF x = x.name ++ 58 :: 32 :: (x.value ++ [13, 10]) from by simp [lineF], List.append_assoc]
    have hol : out.length + (x.name.length + x.value.length + 4) ≤ 1000000 := by
     have := congrArg List.length hE2.out
     simp only [List.length_append, List.length_cons, List.length_nil] at this
     omega
    have hbA := (Below.refl wr.heap.size wr).alloc (Nat.le_refl _) (.cells #[str x.name, str x.value] 38)
    have hB1 := hBl.below hbA
    have hbelA := hbel.trans (hbA.mono hbel.size)
    have c1 : x.name.length + 2 ≤ 9223372036854775807 := by omega
    have c2 : x.name.length + 2 + x.value.length ≤ 9223372036854775807 := by omega
    have c3 : x.name.length + 2 + x.value.length + 2 ≤ 9223372036854775807 := by omega
    clear hE hx hbA hBl hbel
    go_wp2_with fail
    refine (WriteString_any w.heap.size out _ _ hB1 (by simp only [List.length_append, List.length_cons, List.length_nil]; omega)).mono ?_
    rintro e w2 ⟨rfl, hB2, hb2⟩
    go_wp2_with fail
    exact ⟨⟨i + 1, _, by go_num, by omega, hE2, hB2, hbelA.trans hb2⟩, by simp [intOf]; omega⟩
  · have hE1 : Hid (out ++ [13, 10] = T) := by
     have h := hE.out
     rw [List.drop_of_length_le (by rw [Hl.out]; omega)] at h
     exact h
    have hol : out.length + 2 ≤ 1000000 := by have := congrArg List.length hE1.out; simp only [List.length_append, List.length_cons, List.length_nil] at this; omega
    clear hE
    go_wp2_with fail
    refine (WriteString_any w.heap.size out [13, 10] _ hBl (by simp; omega)).mono ?_
    rintro e w1 ⟨rfl, hB1, hb1⟩
    go_wp2_with fail
    refine (String_any w.heap.size _ _ hB1).mono ?_
    rintro e w2 ⟨rfl, hb2⟩
    go_wp2_with fail
    go_ret
    exact ⟨by rw [hE1.out]; rfl, (hbel.trans hb1).trans hb2⟩
def RTextRel (w : World) (n : Nat) (l : List FieldD) (T : List UInt8) (sv iv : Value) (wr : World) : Prop :=
 ∃ (i : Nat) (out : List UInt8), sv = str out ∧ iv = .int .i64 (i : Nat) ∧ i ≤ n ∧ Hid (out ++ textF (l.drop i) = T) ∧ Below w.heap.size w wr
theorem FieldsText_any (l : List FieldD) (A : Option Addr) (n c B : Nat) (w : World) (h : Sl w B 2 A n (fieldC l)) (hB : B ≤ w.heap.size) (hn : n ≤ maxLen) (hlen : (textF l).length ≤ 1000000) :
 Calls Tryd.prog 15 #[.slice A n c] w fun e w' => e = .returned (str (textF l)) ∧ Below w.heap.size w w' := by
 have hl : l.length = n := by have := h.1; rw [fieldC_len] at this; omega
 obtain ⟨T, hT⟩ : ∃ T, T = textF l := ⟨_, rfl⟩
 rw [← hT] at hlen ⊢
 unfold maxLen at hn
 have HT := Lib.hid hT; have Hl := Lib.hid hl; clear hT hl
 go_enter Tryd.func15, Tryd.ntmps15
 go_wp2_with fail
 go_loopw [3, 8] (RTextRel w n l T) (fun _ iv _ => n - (intOf iv).toNat)
 case atStart => exact ⟨0, [], rfl, rfl, by omega, by show [] ++ textF l = T; rw [HT.out]; rfl, Below.refl _ _⟩
 case round =>
  obtain ⟨i, out, rfl, rfl, hi, hE, hbel⟩ := hrel
  by_cases hin : i < n
  · obtain ⟨b, off, x, rfl, hbB, hx, x0, x1⟩ := (h.below (hbel.mono hB)).field i hin
    have hE2 : Hid ((out ++ (x.name ++ 58 :: 32 :: (x.value ++ [13, 10]))) ++ textF (l.drop (i + 1)) = T) := by
     show _ = T
     rw [← hE.out, hx, textF_cons, show lineF x = x.name ++ 58 :: 32 :: (x.value ++ [13, 10]) from by simp [lineF], List.append_assoc]
    have hol : out.length + (x.name.length + x.value.length + 4) ≤ 1000000 := by
     have := congrArg List.length hE2.out
     simp only [List.length_append, List.length_cons, List.length_nil] at this
     omega
    have hbA := (Below.refl wr.heap.size wr).alloc (Nat.le_refl _) (.cells #[str x.name, str x.value] 38)
    have hbelA := hbel.trans (hbA.mono hbel.size)
    have y1 := (box2_new wr 38 (str x.name) (str x.value))
    have ⟨y0, y1⟩ := y1
    have c1 : x.name.length + 2 ≤ 9223372036854775807 := by omega
    have c2 : x.name.length + 2 + x.value.length ≤ 9223372036854775807 := by omega
    have c3 : x.name.length + 2 + x.value.length + 2 ≤ 9223372036854775807 := by omega
    have c4 : out.length + (x.name.length + (x.value.length + 2 + 1 + 1)) ≤ 9223372036854775807 := by omega
    clear hE hx hbA hbel
    go_wp2_with fail
    exact ⟨⟨i + 1, _, by first | rfl | simp, by go_num, by omega, hE2, hbelA⟩, by simp [intOf]; omega⟩
  · have hE1 : Hid (out ++ [13, 10] = T) := by
     have h := hE.out
     rw [List.drop_of_length_le (by rw [Hl.out]; omega)] at h
     exact h
    have hol : out.length + 2 ≤ 9223372036854775807 := by have := congrArg List.length hE1.out; simp only [List.length_append, List.length_cons, List.length_nil] at this; omega
    clear hE
    go_wp2_with fail
    go_ret
    exact ⟨by rw [← hE1.out]; rfl, hbel⟩
def getQ (q : FieldD → Bool) : List FieldD → List UInt8
 | [] => []
 | f :: r => if q f = true then f.value else getQ q r
def firQ (q : FieldD → Bool) : List FieldD → Nat → Int
 | [], _ => -1
 | f :: r, i => if q f = true then (i : Nat) else firQ q r (i + 1)
theorem firQ_get (q : FieldD → Bool) : ∀ (l : List FieldD) (i : Nat), (firQ q l i = -1 ∧ getQ q l = []) ∨ ∃ k x, firQ q l i = ((i + k : Nat) : Int) ∧ k < l.length ∧ l.drop k = x :: l.drop (k + 1) ∧ getQ q l = x.value
 | [], i => .inl ⟨rfl, rfl⟩
 | f :: r, i => by
  rw [firQ, getQ]
  by_cases h : q f = true
  · rw [if_pos h, if_pos h]
    exact .inr ⟨0, f, rfl, by simp, rfl, rfl⟩
  · rw [if_neg h, if_neg h]
    rcases firQ_get q r (i + 1) with h1 | ⟨k, x, h1, h2, h3, h4⟩
    · exact .inl h1
    · exact .inr ⟨k + 1, x, by rw [h1]; congr 1; omega, by simpa using h2, by simpa using h3, h4⟩
def PredFld (g : Nat) (lb : Array Value) (p : FieldD → Bool) (l : List FieldD) (w : World) : Prop :=
 ∀ (W : World) (x : FieldD), x ∈ l → Below w.heap.size w W → Calls Tryd.prog g (#[.agg x.cells.toArray] ++ lb) W fun e w' => e = .returned (.bool (p x)) ∧ Below W.heap.size W w'
theorem IndexFunc_Field (g : Nat) (lb : Array Value) (eg : ∀ args w, (callFunc g args).run Tryd.prog w = .ok (.enter g args) w) (p : FieldD → Bool) (A : Option Addr) (n c B : Nat) (l : List FieldD) (w : World) (hb : Sl w B 2 A n (fieldC l)) (hB : B ≤ w.heap.size) (hm : n ≤ maxLen) (hp : PredFld g lb p l w) :
 Calls Tryd.prog 39 #[.slice A n c, .func (.func g) #[] lb] w fun e w' => e = .returned (.int .i64 (firQ p l 0)) ∧ Below w.heap.size w w' := by
 obtain ⟨R, hR⟩ : ∃ R, R = firQ p l 0 := ⟨_, rfl⟩
 rw [← hR]
 have hl : l.length = n := by have := hb.1; rw [fieldC_len] at this; omega
 have HR := Lib.hid hR
 have Hl := Lib.hid hl
 have Hb := Lib.hid hb
 have Hp := Lib.hid hp
 clear hR hl hb hp
 unfold maxLen at hm
 go_enter Tryd.func39, Tryd.ntmps39
 go_wp2_with fail
 go_loopw [8] (fun iv wr => ∃ k : Nat, k ≤ n ∧ iv = .int .i64 (k : Nat) ∧ Below w.heap.size w wr ∧ Hid (firQ p (l.drop k) k = R)) (fun iv _ => n - (intOf iv).toNat)
 case atStart => exact ⟨0, Nat.zero_le _, rfl, Below.refl _ _, Lib.hid (by rw [List.drop_zero]; exact HR.out.symm)⟩
 case round =>
  obtain ⟨k, hk, rfl, hbel, hz⟩ := hrel
  by_cases hkn : k < n
  · obtain ⟨b, off, x, rfl, hbB, hd, x0, x1⟩ := (Sl.below Hb.out (hbel.mono hB)).field k hkn
    have hs := hz.out
    rw [hd, firQ] at hs
    have cS := Hp.out wr x (List.mem_of_mem_drop (i := k) (by rw [hd]; simp)) hbel
    clear hd
    by_cases hpk : p x = true
    · rw [hpk] at cS
      rw [if_pos hpk] at hs
      have Hs := Lib.hid hs
      have CS := Lib.hid cS
      clear hpk hs cS
      go_wp2_with (go_at_fn g; refine CS.out.mono ?_; rintro e w1 ⟨rfl, hb1⟩)
      go_ret
      exact ⟨by rw [← Hs.out]; rfl, hbel.trans (hb1.mono hbel.size)⟩
    · have hpf : p x = false := by simpa using hpk
      rw [hpf] at cS
      rw [if_neg hpk] at hs
      have Hs := Lib.hid hs
      have CS := Lib.hid cS
      clear hpk hpf hs cS
      go_wp2_with (go_at_fn g; refine CS.out.mono ?_; rintro e w1 ⟨rfl, hb1⟩)
      exact ⟨⟨k + 1, by omega, by go_num, hbel.trans (hb1.mono hbel.size), Hs⟩, by simp [intOf]; omega⟩
  · obtain rfl : k = n := by omega
    have hs := hz.out
    rw [List.drop_of_length_le (by rw [Hl.out]; exact Nat.le_refl _), firQ] at hs
    have Hs := Lib.hid hs
    clear hs
    go_wp2_with fail
    go_ret
    exact ⟨by rw [← Hs.out]; rfl, hbel⟩
theorem got1_any (q : FieldD → Bool) (name : List UInt8) (x : FieldD) (nb : Nat) (W : World) (hc : W.cell? ⟨nb, 0, none⟩ = some (str name)) (hef : ∀ W', Below W.heap.size W W' → Calls Tryd.prog 38 #[str x.name, str name] W' fun e w' => e = .returned (.bool (q x)) ∧ Below W'.heap.size W' w') :
 Calls Tryd.prog 40 #[.agg x.cells.toArray, .pointer (some ⟨nb, 0, none⟩)] W fun e w' => e = .returned (.bool (q x)) ∧ Below W.heap.size W w' := by
 obtain ⟨W1, hW1⟩ : ∃ W1, W1 = W.alloc (.cells #[str x.name, str x.value] 38) := ⟨_, rfl⟩
 have hb1 : Below W.heap.size W W1 := by rw [hW1]; exact (Below.refl _ _).alloc (Nat.le_refl _) _
 have hx := box2_new W 38 (str x.name) (str x.value)
 rw [← hW1] at hx
 obtain ⟨x0, x1⟩ := hx
 have c1 := (hb1.cell (p := ⟨nb, 0, none⟩) (World.block_lt_of_cell? _ _ hc)).trans hc
 have Hef := Lib.hid (hef W1 hb1)
 generalize q x = r at Hef
 show Calls Tryd.prog 40 #[.agg #[str x.name, str x.value], .pointer (some ⟨nb, 0, none⟩)] W _
 clear hef
 go_enter Tryd.func40, Tryd.ntmps40
 go_upto_region 1 with fail
 rw [← hW1]
 clear hW1
 go_wp2_with fail
 refine Hef.out.mono ?_
 rintro e w2 ⟨rfl, hb2⟩
 go_wp2_with fail
 go_ret
 exact ⟨rfl, hb1.trans (hb2.mono hb1.size)⟩
/-- The document's Got, whatever EqualFold tells of the names. -/
theorem Got_any (q : FieldD → Bool) (l : List FieldD) (name : List UInt8) (A : Option Addr) (n c B : Nat) (w : World) (h : Sl w B 2 A n (fieldC l)) (hB : B ≤ w.heap.size) (hn : n ≤ maxLen)
 (hef : ∀ x ∈ l, ∀ W', Below w.heap.size w W' → Calls Tryd.prog 38 #[str x.name, str name] W' fun e w' => e = .returned (.bool (q x)) ∧ Below W'.heap.size W' w') :
 Calls Tryd.prog 17 #[.slice A n c, str name] w fun e w' => e = .returned (str (getQ q l)) ∧ Below w.heap.size w w' := by
 have hl : l.length = n := by have := h.1; rw [fieldC_len] at this; omega
 obtain ⟨W1, hW1⟩ : ∃ W1, W1 = w.alloc (.cells #[str name] 9) := ⟨_, rfl⟩
 have hb1 : Below w.heap.size w W1 := by rw [hW1]; exact (Below.refl _ _).alloc (Nat.le_refl _) _
 have hc1 : W1.cell? ⟨w.heap.size, 0, none⟩ = some (str name) := by unfold World.cell?; rw [hW1, heap_alloc_new]; rfl
 have hlt1 : w.heap.size < W1.heap.size := by rw [hW1]; simp
 have hix := IndexFunc_Field 40 #[.pointer (some ⟨w.heap.size, 0, none⟩)] (enters_of Tryd.func40 (by kernel_rfl) rfl) q A n c B l W1 (h.below (hb1.mono hB)) (by omega) hn
  (fun W x hx hbW => got1_any q name x w.heap.size W ((hbW.cell (p := ⟨w.heap.size, 0, none⟩) hlt1).trans hc1) (fun W' hb' => hef x hx W' (hb1.trans ((hbW.trans (hb'.mono hbW.size)).mono hb1.size))))
 have hg := firQ_get q l 0
 generalize firQ q l 0 = ix at hix hg
 obtain ⟨R, hR⟩ : ∃ R, R = getQ q l := ⟨_, rfl⟩
 rw [← hR] at hg ⊢
 have Hix := Lib.hid hix
 have HS := Lib.hid h
 have Hl := Lib.hid hl
 unfold maxLen at hn
 clear hef hix hR h hl
 rcases hg with ⟨rfl, rfl⟩ | ⟨k, x, hk, hkl, hd, rfl⟩
 · go_enter Tryd.func17, Tryd.ntmps17
   go_upto_region 1 with fail
   rw [← hW1]
   clear hW1
   go_wp2_with fail
   refine Hix.out.mono ?_
   rintro e w2 ⟨rfl, hb2⟩
   go_wp2_with fail
   go_ret
   exact ⟨rfl, hb1.trans (hb2.mono hb1.size)⟩
 · rw [Nat.zero_add] at hk
   subst hk
   have hkn : k < n := by rw [← Hl.out]; exact hkl
   have d0 : decide ((k : Int) < 0) = false := by simp
   go_enter Tryd.func17, Tryd.ntmps17
   go_upto_region 1 with fail
   rw [← hW1]
   clear hW1
   go_wp2_with fail
   refine Hix.out.mono ?_
   rintro e w2 ⟨rfl, hb2⟩
   have hbw := hb1.trans (hb2.mono hb1.size)
   obtain ⟨b, off, y, rfl, hbB, hd2, y0, y1⟩ := (HS.out.below (hbw.mono hB)).field k hkn
   obtain rfl : x = y := by rw [hd] at hd2; injection hd2
   clear hd hd2
   go_wp2_with fail
   go_ret
   exact ⟨rfl, hbw⟩
end Go.Proofs.YtpnolbfnmknhlaaDoor
namespace Go.Proofs.YtpnolbfnmknhlaaDoor
open Go.RowKit Go.Lib
def iterG : Nat → Int → Int
 | 0, a => a
 | k + 1, a => foldG (iterG k a)
def ringF : Nat → Int → Int → Int → Bool
 | 0, _, _, _ => false
 | f + 1, r, a, b => if r ≠ a ∧ r < b then ringF f (foldG r) a b else decide (r = b)
def pairEq (a b : Int) : Bool := if b < 128 then decide (65 ≤ a ∧ a ≤ 90 ∧ b = a + 32) else ringF 5 (foldG a) a b
def runeEq (sr tr : Int) : Bool := if tr = sr then true else if tr < sr then pairEq tr sr else pairEq sr tr
def efU (s : ByteArray) : Nat → Nat → ByteArray → Bool
 | 0, _, t => decide (t.size = 0)
 | f + 1, pos, t =>
  if pos < s.size then
   if t.size = 0 then false
   else if runeEq ((Utf8.decode s pos).1 : Nat) ((decodeGo t).1 : Nat) then efU s f (pos + (Utf8.decode s pos).2) (t.extract (decodeGo t).2 t.size)
   else false
  else decide (t.size = 0)
def efP (s t : ByteArray) : Nat → Nat → Bool
 | 0, _ => decide (s.size = t.size)
 | g + 1, i =>
  if i < s.size ∧ i < t.size then
   if 128 ≤ (s.get! i).toNat ||| (t.get! i).toNat then efU (s.extract i s.size) (s.size + 1) 0 (t.extract i t.size)
   else if foldEq (s.get! i) (t.get! i) then efP s t g (i + 1) else false
  else decide (s.size = t.size)
theorem ring_all (r : Int) : iterG 1 r = r ∨ iterG 2 r = r ∨ iterG 3 r = r ∨ iterG 4 r = r := by
 have key : ∀ x : Int, ringB x = true → iterG 1 x = x ∨ iterG 2 x = x ∨ iterG 3 x = x ∨ iterG 4 x = x := by
  intro x h
  simp only [ringB, Bool.or_eq_true, beq_iff_eq] at h
  rcases h with ((h | h) | h) | h
  · exact .inl h
  · exact .inr (.inl h)
  · exact .inr (.inr (.inl h))
  · exact .inr (.inr (.inr h))
 by_cases h0 : r < 0 ∨ 1114111 < r
 · left
   show foldG r = r
   unfold foldG
   rw [if_pos h0]
 · by_cases h2 : r < 128
   · have := List.all_eq_true.1 ring_ascii r.toNat (by simp; omega)
     rw [Int.toNat_of_nonneg (by omega)] at this
     exact key r this
   · by_cases ho : orbLo r 100 0 orbitA.size < orbitA.size ∧ ((orbitA.getD (orbLo r 100 0 orbitA.size) (0, 0)).1 : Int) = r
     · have hm : orbitA.getD (orbLo r 100 0 orbitA.size) (0, 0) ∈ orbitT := by
        have h := ho.1
        generalize orbLo r 100 0 orbitA.size = k at h ⊢
        unfold orbitA at h ⊢
        simp only [List.size_toArray] at h
        simp [Array.getD, h]
       have := List.all_eq_true.1 ring_orbit _ hm
       rw [ho.2] at this
       exact key r this
     · cases hi : lookupIdx caseA r (caseA.size + 1) 0 caseA.size with
       | none =>
        left
        show foldG r = r
        unfold foldG caseFold
        rw [if_neg h0, if_neg h2, if_neg ho, hi]
       | some i =>
        obtain ⟨hil, hlo, hhi⟩ := lookupIdx_some caseA r _ _ _ i hi
        have hm : caseA.getD i (0, 0, 0, 0, 0) ∈ caseT := by
         unfold caseA at hil ⊢
         simp only [List.size_toArray] at hil
         simp [Array.getD, hil]
        have hall : caseT.all (fun x => (List.range (x.2.1 + 1 - x.1)).all fun d => ringB ((x.1 + d : Nat) : Int)) = true := by
         have e : caseT = caseT.take 42 ++ ((caseT.drop 42).take 42 ++ ((caseT.drop 84).take 42 ++ ((caseT.drop 126).take 42 ++ ((caseT.drop 168).take 42 ++ ((caseT.drop 210).take 42 ++ ((caseT.drop 252).take 42 ++ (caseT.drop 294).take 42)))))) := by decide +kernel
         rw [e]
         simp only [List.all_append, Bool.and_eq_true]
         exact ⟨ring_case0, ring_case1, ring_case2, ring_case3, ring_case4, ring_case5, ring_case6, ring_case7⟩
        have h1 := List.all_eq_true.1 hall _ hm
        have h2 := List.all_eq_true.1 h1 (r.toNat - (caseA.getD i (0, 0, 0, 0, 0)).1) (List.mem_range.2 (by omega))
        rw [show (((caseA.getD i (0, 0, 0, 0, 0)).1 + (r.toNat - (caseA.getD i (0, 0, 0, 0, 0)).1) : Nat) : Int) = r from by omega] at h2
        exact key r h2
theorem foldG_range (r : Int) (h : -2147483648 ≤ r ∧ r ≤ 2147483647) : -2147483648 ≤ foldG r ∧ foldG r ≤ 2147483647 := by
 unfold foldG
 split
 · exact h
 · split
   · have := asc_small r.toNat; omega
   · split
     · have := (orb_small (orbLo r 100 0 orbitA.size)).2; omega
     · unfold caseFold
       cases hi : lookupIdx caseA r (caseA.size + 1) 0 caseA.size with
       | none => exact h
       | some i =>
        obtain ⟨hil, hlo, hhi⟩ := lookupIdx_some caseA r _ _ _ i hi
        have fit := fun c hc => convert_fits _ (caseA_row i hil) c hc r hlo hhi
        have rng : ∀ x : Int, -2147483648 ≤ wrap32 x ∧ wrap32 x ≤ 2147483647 := fun x => by unfold wrap32; omega
        have r1 := rng (convertR 1 r (caseA.getD i (0, 0, 0, 0, 0)))
        have r0 := rng (convertR 0 r (caseA.getD i (0, 0, 0, 0, 0)))
        rw [fit 1 (by omega)] at r1
        rw [fit 0 (by omega)] at r0
        show -2147483648 ≤ (if convertR 1 r (caseA.getD i (0, 0, 0, 0, 0)) ≠ r then convertR 1 r (caseA.getD i (0, 0, 0, 0, 0)) else convertR 0 r (caseA.getD i (0, 0, 0, 0, 0))) ∧ (if convertR 1 r (caseA.getD i (0, 0, 0, 0, 0)) ≠ r then convertR 1 r (caseA.getD i (0, 0, 0, 0, 0)) else convertR 0 r (caseA.getD i (0, 0, 0, 0, 0))) ≤ 2147483647
        generalize caseA.getD i (0, 0, 0, 0, 0) = x at r1 r0 ⊢
        by_cases hne : convertR 1 r x ≠ r
        · rw [if_pos hne]; exact r1
        · rw [if_neg hne]; exact r0
theorem iterG_range (a : Int) (h : -2147483648 ≤ a ∧ a ≤ 2147483647) : ∀ k, -2147483648 ≤ iterG k a ∧ iterG k a ≤ 2147483647
 | 0 => h
 | k + 1 => foldG_range _ (iterG_range a h k)
end Go.Proofs.YtpnolbfnmknhlaaDoor
namespace Go.Proofs.YtpnolbfnmknhlaaDoor
open Go.RowKit Go.Lib
theorem dec_small (T : ByteArray) : (decodeGo T).1 ≤ 2147483647 := by
 unfold decodeGo
 split
 · decide
 · exact decode_le T 0
theorem wr97 (a : Nat) (h : a < 128) : IntKind.i32.wrap ((a : Int) + 97) = (a : Int) + 97 ∧ IntKind.i32.wrap ((a : Int) + 97 - 65) = (a : Int) + 97 - 65 ∧ wrap32 ((a : Int) + 97) = (a : Int) + 97 ∧ wrap32 ((a : Int) + 97 - 65) = (a : Int) + 97 - 65 := by
 refine ⟨?_, ?_, ?_, ?_⟩
 · rw [IntKind.wrap_i32]; omega
 · rw [IntKind.wrap_i32]; omega
 · unfold wrap32; omega
 · unfold wrap32; omega
theorem width_posE (s : ByteArray) (pos : Nat) (h : pos < s.size) : 1 ≤ (Utf8.decode s pos).2 := by
 by_cases ha : (s[pos]'h).toNat < 128
 · rw [decode_ascii s pos h ha]
   exact Nat.le_refl _
 · exact (decode_high s pos h (by omega)).2
theorem jump_abs {P : Program} {c : Code} {Q : Exit → Act → World → Prop} {a : Act} {w : World} {l : Nat} {J : Act → World → Prop}
 (h : ∀ Qj : Exit → Act → World → Prop, (∀ a w, J a w → Qj (.goto l) a w) → (∀ a w, Q .ret a w → Qj .ret a w) → c.wp P Qj a w) : c.wp P (Exit.jump l J Q) a w :=
 h _ (fun _ _ h => ⟨rfl, h⟩) (fun _ _ h => h)
def EfJ (s t : ByteArray) (R : Bool) (w : World) (a' : Act) (w' : World) : Prop := w' = w ∧ a'.defers = [] ∧ a'.tmps.size = 123 ∧ ∃ i : Nat, a'.tmps.getD 0 undef = .string s ∧ a'.tmps.getD 1 undef = .string t ∧ a'.tmps.getD 5 undef = .int .i64 (i : Nat) ∧ i ≤ s.size ∧ i ≤ t.size ∧ efU (s.extract i s.size) (s.size + 1) 0 (t.extract i t.size) = R
theorem arr_of (x : Array Value) (n : Nat) (h : x.size = n) : x = ((List.range n).map fun k => x.getD k undef).toArray := by
 apply Array.ext
 · simp [h]
 · intro i h1 h2
   simp [Array.getD, h1]
theorem arr_123 (f : Nat → Value) : ((List.range 123).map f).toArray = #[f 0, f 1, f 2, f 3, f 4, f 5, f 6, f 7, f 8, f 9, f 10, f 11, f 12, f 13, f 14, f 15, f 16, f 17, f 18, f 19, f 20, f 21, f 22, f 23, f 24, f 25, f 26, f 27, f 28, f 29, f 30, f 31, f 32, f 33, f 34, f 35, f 36, f 37, f 38, f 39, f 40, f 41, f 42, f 43, f 44, f 45, f 46, f 47, f 48, f 49, f 50, f 51, f 52, f 53, f 54, f 55, f 56, f 57, f 58, f 59, f 60, f 61, f 62, f 63, f 64, f 65, f 66, f 67, f 68, f 69, f 70, f 71, f 72, f 73, f 74, f 75, f 76, f 77, f 78, f 79, f 80, f 81, f 82, f 83, f 84, f 85, f 86, f 87, f 88, f 89, f 90, f 91, f 92, f 93, f 94, f 95, f 96, f 97, f 98, f 99, f 100, f 101, f 102, f 103, f 104, f 105, f 106, f 107, f 108, f 109, f 110, f 111, f 112, f 113, f 114, f 115, f 116, f 117, f 118, f 119, f 120, f 121, f 122] := rfl
theorem EqualFold_any (s t : ByteArray) (w : World) (hs : s.size ≤ 9223372036854775807) (_ht : t.size ≤ 9223372036854775807) (hF : FoldOk w) (hU : U8Ok w) :
 Calls Tryd.prog 38 #[.string s, .string t] w fun e w' => e = .returned (.bool (efP s t (s.size + 1) 0)) ∧ Below w.heap.size w w' := by
 obtain ⟨R, hR⟩ : ∃ R, R = efP s t (s.size + 1) 0 := ⟨_, rfl⟩
 rw [← hR]
 obtain ⟨M, hM⟩ : ∃ M : Nat, min (s.size : Int) (t.size : Int) = (M : Int) := ⟨min s.size t.size, by omega⟩
 have hMs : M ≤ s.size := by omega
 have hMt : M ≤ t.size := by omega
 have hMe : M = s.size ∨ M = t.size := by omega
 have HR := Lib.hid hR
 have HF := Lib.hid hF
 have HU := Lib.hid hU
 have HMe := Lib.hid hMe
 clear hR hF hU hMe
 go_enter Tryd.func38, Tryd.ntmps38
 go_wp2
 refine wp_scope_jumps 0 (EfJ s t R w) (fun _ _ => 0) rfl ?_ ?_
 · refine jump_abs ?_
   intro Qj hgo hret
   have HGo := Lib.hid hgo
   have HRet := Lib.hid hret
   clear hgo hret
   go_wp2
   go_loopg [5] (M + 1) (fun g s5 wx => wx = w ∧ ∃ i : Nat, i + g = M + 1 ∧ i ≤ M ∧ s5 = .int .i64 i ∧ Hid (∃ f, s.size ≤ i + f ∧ efP s t (f + 1) i = R))
   case atStart => exact ⟨rfl, 0, by omega, Nat.zero_le _, rfl, ⟨s.size, by omega, HR.out.symm⟩⟩
   case round =>
    obtain ⟨rfl, i, hig, hiM0, rfl, hinv⟩ := hrel
    by_cases hiM' : i < M
    · obtain ⟨g, rfl⟩ : ∃ g, gk = g + 1 := ⟨gk - 1, by omega⟩
      have hiM : (i : Int) < (M : Int) := by omega
      have hisz : (i : Int) < (s.size : Int) := by omega
      have hitz : (i : Int) < (t.size : Int) := by omega
      obtain ⟨x, hx⟩ : ∃ x : UInt8, s[i]'(by omega) = x := ⟨_, rfl⟩
      obtain ⟨y, hy⟩ : ∃ y : UInt8, t[i]'(by omega) = y := ⟨_, rfl⟩
      obtain ⟨f, hf, hE⟩ := hinv.out
      have hgx : s.get! i = x := by rw [← hx]; exact (Utf8W.get!_of_lt s i (by omega))
      have hgy : t.get! i = y := by rw [← hy]; exact (Utf8W.get!_of_lt t i (by omega))
      obtain ⟨f', rfl⟩ : ∃ f', f = f' + 1 := ⟨f - 1, by omega⟩
      rw [efP, if_pos ⟨by omega, by omega⟩, hgx, hgy] at hE
      have hx8 := x.toNat_lt
      have hy8 := y.toNat_lt
      have hor : bits .or .u8 (x.toNat : Int) (y.toNat : Int) = ((x.toNat ||| y.toNat : Nat) : Int) := u8_or_nat _ _ (by omega) (by omega)
      obtain ⟨z, hz⟩ : ∃ z, z = x.toNat ||| y.toNat := ⟨_, rfl⟩
      rw [← hz] at hor hE
      by_cases hu : 128 ≤ z
      · have hu' : (128 : Int) ≤ (z : Int) := by omega
        rw [if_pos hu] at hE
        have HE := Lib.hid hE
        clear hE hinv hM hz hgx hgy hu
        go_wp2
        go_step3
        refine HGo.out _ _ ?_
        exact ⟨rfl, rfl, rfl, i, rfl, rfl, rfl, by omega, by omega, HE.out⟩
      · have hu' : ¬ (128 : Int) ≤ (z : Int) := by omega
        rw [if_neg hu] at hE
        have h7 : x.toNat < 128 ∧ y.toNat < 128 := by
         have h1 : x.toNat ≤ z := by rw [hz]; exact Nat.left_le_or
         have h2 : y.toNat ≤ z := by rw [hz]; exact Nat.right_le_or
         omega
        have HE := Lib.hid hE
        clear hE hinv hM hz hgx hgy hu
        go_wp2
        all_goals (try simp only [beq_iff_eq, beq_eq_false_iff_ne, ne_eq] at *)
        all_goals first
         | (go_roundg g
            case measure => omega
            case rel =>
             have hE := HE.out
             rw [if_pos (show foldEq x y = true from decide_eq_true (by omega))] at hE
             exact ⟨rfl, i + 1, by omega, by omega, by first | rfl | simp, ⟨f', by omega, hE⟩⟩)
         | (refine HRet.out _ _ ?_
            go_ret
            refine ⟨?_, Below.refl _ _⟩
            have hE := HE.out
            rw [if_neg (show ¬ foldEq x y = true from by rw [show foldEq x y = false from decide_eq_false (by omega)]; simp)] at hE
            rw [← hE]; rfl)
    · have hiM : ¬ ((i : Int) < (M : Int)) := by omega
      obtain rfl : i = M := by omega
      obtain ⟨f, hf, hE⟩ := hinv.out
      rw [efP, if_neg (by have := HMe.out; omega)] at hE
      have HE := Lib.hid hE
      clear hE hinv hM
      by_cases hst : s.size = t.size
      · have hb : ((s.size : Int) == (t.size : Int)) = true := beq_iff_eq.2 (by omega)
        go_wp2
        refine HRet.out _ _ ?_
        go_ret
        exact ⟨by rw [← HE.out]; simp [hst], Below.refl _ _⟩
      · have hb : ((s.size : Int) == (t.size : Int)) = false := beq_eq_false_iff_ne.2 (by omega)
        go_wp2
        refine HRet.out _ _ ?_
        go_ret
        exact ⟨by rw [← HE.out]; simp [hst], Below.refl _ _⟩
 · intro a' w' hJ
   obtain ⟨hww, hdf, hsz, i, h0, h1, h5, hi1, hi2, hE⟩ := hJ
   subst w'
   have haa : a' = { tmps := ((List.range 123).map fun k => a'.tmps.getD k undef).toArray, defers := [] } := by
    obtain ⟨tm, df⟩ := a'
    simp only at hdf hsz ⊢
    rw [hdf]
    congr 1
    exact arr_of tm 123 hsz
   obtain ⟨f, hf⟩ : ∃ f : Nat → Value, f = fun k => a'.tmps.getD k undef := ⟨_, rfl⟩
   have f0 : f 0 = .string s := by rw [hf]; exact h0
   have f1 : f 1 = .string t := by rw [hf]; exact h1
   have f5 : f 5 = .int .i64 (i : Nat) := by rw [hf]; exact h5
   rw [← hf, arr_123, f0, f1, f5] at haa
   clear hf h0 h1 h5 hdf hsz f0 f1 f5
   subst haa
   refine jump_abs ?_
   intro Qj hgo hret
   have HRet := Lib.hid hret
   obtain ⟨S, hS⟩ : ∃ S, S = s.extract i s.size := ⟨_, rfl⟩
   obtain ⟨T0, hT0⟩ : ∃ T, T = t.extract i t.size := ⟨_, rfl⟩
   rw [← hS, ← hT0] at hE
   have hSs : S.size ≤ s.size := by rw [hS, ByteArray.size_extract]; omega
   have hTs : T0.size ≤ t.size := by rw [hT0, ByteArray.size_extract]; omega
   have HE := Lib.hid hE
   have HS := Lib.hid hS
   have HT0 := Lib.hid hT0
   clear hgo hret hE hS hT0
   have e0 : (0 : Int) ≤ (i : Int) := by omega
   have e1 : (i : Int) ≤ (s.size : Int) := by omega
   have e2 : (i : Int) ≤ (t.size : Int) := by omega
   go_upto_region 16 with fail
   rw [← HS.out, ← HT0.out]
   clear e0 e1 e2 hi1 hi2
   go_wp2_with fail
   go_loopw [1] (fun v1 wr => ∃ (pos : Nat) (T : ByteArray), v1 = .string T ∧ T.size ≤ t.size ∧ wr.heap[w.heap.size]? = some (.stringIter S pos) ∧ Below w.heap.size w wr ∧ Hid (∃ f, S.size < pos + f ∧ efU S f pos T = R)) (fun _ wr => S.size - wr.iterPos w.heap.size)
   case atStart => exact ⟨0, T0, rfl, hTs, World.iter_heap w S 0, (Below.refl _ w).alloc (Nat.le_refl _) _, ⟨s.size + 1, by omega, HE.out⟩⟩
   case round =>
    obtain ⟨pos, T, rfl, hTl, hit, hbw, hinv⟩ := hrel
    obtain ⟨f0, hf0, hE⟩ := hinv.out
    clear hinv
    have hltr : w.heap.size < wr.heap.size := (Array.getElem?_eq_some_iff.1 hit).1
    by_cases hp : pos < S.size
    · obtain ⟨f', rfl⟩ : ∃ f', f0 = f' + 1 := ⟨f0 - 1, by omega⟩
      rw [efU, if_pos hp] at hE
      have hnx : ∀ ty, (Instr.next (.pointer (some ⟨w.heap.size, 0, none⟩)) true ty).run Tryd.prog wr = _ := fun ty => Lib.run_next_any_at wr w.heap.size S pos ty hit hp
      have hwd : 1 ≤ (Utf8.decode S pos).2 := width_posE S pos hp
      have hd1 := decode_le S pos
      have hit2 := Lib.iterAt_heap wr w.heap.size S pos (pos + (Utf8.decode S pos).2) hit
      have hb2 := Lib.below_iterAt hbw (k := w.heap.size) (Nat.le_refl _) S (pos + (Utf8.decode S pos).2)
      obtain ⟨D, hD⟩ : ∃ x, x = (Utf8.decode S pos).1 := ⟨_, rfl⟩
      obtain ⟨wd, hWd⟩ : ∃ x, x = (Utf8.decode S pos).2 := ⟨_, rfl⟩
      rw [← hD] at hE hd1 hnx
      rw [← hWd] at hE hwd hit2 hb2 hnx
      obtain ⟨W1, hW1⟩ : ∃ X, X = wr.iterAt w.heap.size S (pos + wd) := ⟨_, rfl⟩
      rw [← hW1] at hit2 hb2 hnx
      have hlt2 : w.heap.size < W1.heap.size := (Array.getElem?_eq_some_iff.1 hit2).1
      clear hD hWd hW1
      by_cases hT : T.size = 0
      · rw [if_pos hT] at hE
        have hb : ((T.size : Int) == 0) = true := by simp [hT]
        have HE2 := Lib.hid hE
        clear hE hT hit2
        go_wp2_with fail
        refine HRet.out _ _ ?_
        go_ret
        exact ⟨by rw [← HE2.out]; rfl, hb2⟩
      · rw [if_neg hT] at hE
        have hb : ((T.size : Int) == 0) = false := by simp [hT]
        have hdc := Go.Proofs.Tryd.utf8_DecodeRuneInString T W1 (HU.out.below hb2)
        have hle := decodeGo_le_size T
        have hR1 : (decodeGo T).1 ≤ 2147483647 := dec_small T
        obtain ⟨R1, hR1e⟩ : ∃ x, x = (decodeGo T).1 := ⟨_, rfl⟩
        obtain ⟨K, hK⟩ : ∃ x, x = (decodeGo T).2 := ⟨_, rfl⟩
        rw [← hR1e] at hdc hR1 hE
        rw [← hK] at hdc hle hE
        obtain ⟨T', hT'⟩ : ∃ x, x = T.extract K T.size := ⟨_, rfl⟩
        rw [← hT'] at hE
        have hTl' : T'.size ≤ t.size := by rw [hT', ByteArray.size_extract]; omega
        have Hdc := Lib.hid hdc
        have HE1 := Lib.hid hE
        have HT' := Lib.hid hT'
        have Hit2 := Lib.hid hit2
        have k0 : (0 : Int) ≤ (K : Int) := by omega
        have k1 : (K : Int) ≤ (T.size : Int) := by omega
        clear hE hdc hR1e hK hT' hT hit2
        go_wp2_with fail
        refine Hdc.out.mono ?_
        rintro e w3 ⟨rfl, hb3'⟩
        have hb3 := hb2.trans (hb3'.mono hb2.size)
        have hit3 := (hb3'.block w.heap.size hlt2).trans Hit2.out
        have hlt3 : w.heap.size < w3.heap.size := Nat.lt_of_lt_of_le hlt2 hb3'.size
        have hnn := hit3
        clear hnn hb3' hnx
        go_upto_region 23 with fail
        rw [← HT'.out]
        clear k0 k1
        by_cases heq : R1 = D
        · have q1 : ((R1 : Int) == (D : Int)) = true := by simp [heq]
          have hE := HE1.out
          rw [show runeEq (D : Nat) (R1 : Nat) = true from by unfold runeEq; rw [if_pos (by omega)], if_pos rfl] at hE
          have HE2 := Lib.hid hE
          clear hE heq HE1
          go_wp2_with fail
          go_roundw
          case rel => exact ⟨pos + wd, T', rfl, by omega, hit3, hb3, ⟨f', by omega, HE2.out⟩⟩
          case measure =>
           simp only [World.iterPos, hit3, hit]
           omega
        · have q1 : ((R1 : Int) == (D : Int)) = false := by simp; omega
          by_cases hlt : R1 < D
          · have q2 : (R1 : Int) < (D : Int) := by omega
            have hE := HE1.out
            rw [show runeEq (D : Nat) (R1 : Nat) = pairEq (R1 : Nat) (D : Nat) from by unfold runeEq; rw [if_neg (by omega), if_pos (by omega)]] at hE
            obtain ⟨rr, hrr⟩ : ∃ x, x = pairEq ((R1 : Nat) : Int) ((D : Nat) : Int) := ⟨_, rfl⟩
            rw [← hrr] at hE
            unfold pairEq at hrr
            by_cases h128 : D < 128
            · have d1 : ((D : Nat) : Int) < 128 := by omega
              rw [if_pos d1] at hrr
              have Hrr := Lib.hid hrr
              clear hrr
              by_cases hm : 65 ≤ R1 ∧ R1 ≤ 90 ∧ D = R1 + 32
              · rw [show rr = true from Hrr.out.trans (decide_eq_true ⟨by omega, by omega, by omega⟩), if_pos rfl] at hE
                have HE2 := Lib.hid hE
                have m1 : (65 : Int) ≤ (R1 : Int) := by omega
                have m2 : (R1 : Int) ≤ 90 := by omega
                have m3 : ((D : Int) == (R1 : Int) + 97 - 65) = true := by simp; omega
                obtain ⟨w1e, w2e, w3e, w4e⟩ := wr97 R1 (by omega)
                clear hE HE1 h128 hm
                go_wp2_with fail
                clear w1e w2e w3e w4e
                go_roundw
                case rel => exact ⟨pos + wd, T', rfl, by omega, hit3, hb3, ⟨f', by omega, HE2.out⟩⟩
                case measure =>
                 simp only [World.iterPos, hit3, hit]
                 omega
              · rw [show rr = false from Hrr.out.trans (decide_eq_false (fun h => hm ⟨by omega, by omega, by omega⟩)), if_neg (by simp)] at hE
                have HE2 := Lib.hid hE
                clear hE HE1 h128
                by_cases m1 : 65 ≤ R1
                · have m1' : (65 : Int) ≤ (R1 : Int) := by omega
                  by_cases m2 : R1 ≤ 90
                  · have m2' : (R1 : Int) ≤ 90 := by omega
                    have m3 : ((D : Int) == (R1 : Int) + 97 - 65) = false := by simp; omega
                    obtain ⟨w1e, w2e, w3e, w4e⟩ := wr97 R1 (by omega)
                    clear hm m1 m2
                    go_wp2_with fail
                    refine HRet.out _ _ ?_
                    go_ret
                    exact ⟨by rw [← HE2.out]; rfl, hb3⟩
                  · have m2' : ¬ (R1 : Int) ≤ 90 := by omega
                    clear hm m1 m2
                    go_wp2_with fail
                    refine HRet.out _ _ ?_
                    go_ret
                    exact ⟨by rw [← HE2.out]; rfl, hb3⟩
                · have m1' : ¬ (65 : Int) ≤ (R1 : Int) := by omega
                  clear hm m1
                  go_wp2_with fail
                  refine HRet.out _ _ ?_
                  go_ret
                  exact ⟨by rw [← HE2.out]; rfl, hb3⟩
            · have d1 : ¬ ((D : Nat) : Int) < 128 := by omega
              rw [if_neg d1] at hrr
              have hra : -2147483648 ≤ ((R1 : Nat) : Int) ∧ ((R1 : Nat) : Int) ≤ 2147483647 := by omega
              have Hrr := Lib.hid hrr
              have HE3 := Lib.hid hE
              have hsf := fun X r (hX : Below w.heap.size w X) hr => SimpleFold_any r X hr (HF.out.below hX)
              have Hsf := Lib.hid hsf
              have Hit3 := Lib.hid hit3
              clear hE hrr HE1 h128 hsf hit3
              go_wp2_with fail
              refine (Hsf.out _ _ hb3 hra).mono ?_
              rintro e w4 ⟨rfl, hb4⟩
              have hb4w := hb3.trans (hb4.mono hb3.size)
              have hit4 := (hb4.block w.heap.size hlt3).trans Hit3.out
              have Hit4 := Lib.hid hit4
              have hlt4 : w.heap.size < w4.heap.size := Nat.lt_of_lt_of_le hlt3 hb4.size
              clear hb4 hit4
              go_wp2_with fail
              go_loopg [13] 5 (fun g v13 wx => ∃ r : Int, v13 = .int .i32 r ∧ Below w.heap.size w wx ∧ w.heap.size < wx.heap.size ∧ wx.heap[w.heap.size]? = some (.stringIter S (pos + wd)) ∧ Hid (∃ k, 1 ≤ k ∧ k + g = 6 ∧ r = iterG k (R1 : Nat) ∧ (∀ j, 1 ≤ j → j < k → iterG j (R1 : Nat) ≠ (R1 : Nat)) ∧ ringF g r (R1 : Nat) (D : Nat) = rr))
              case atStart => exact ⟨_, rfl, hb4w, hlt4, Hit4.out, ⟨1, by omega, by omega, rfl, fun j h1 h2 => by omega, Hrr.out.symm⟩⟩
              case round =>
               obtain ⟨r, rfl, hbx, hltx, hitx, hk⟩ := hrel
               obtain ⟨k, hk1, hk2, hk3, hk4, hk5⟩ := hk.out
               have hk6 : k ≤ 4 := by
                rcases Nat.lt_or_ge k 5 with h | h
                · omega
                · exfalso
                  rcases ring_all ((R1 : Nat) : Int) with h1 | h1 | h1 | h1
                  · exact hk4 1 (by omega) (by omega) h1
                  · exact hk4 2 (by omega) (by omega) h1
                  · exact hk4 3 (by omega) (by omega) h1
                  · exact hk4 4 (by omega) (by omega) h1
               obtain ⟨g', rfl⟩ : ∃ g', gk = g' + 1 := ⟨gk - 1, by omega⟩
               have hrr2 : -2147483648 ≤ r ∧ r ≤ 2147483647 := by rw [hk3]; exact iterG_range _ hra k
               rw [ringF] at hk5
               by_cases hc : r ≠ (R1 : Nat) ∧ r < (D : Nat)
               · rw [if_pos hc] at hk5
                 have c1 : (r != ((R1 : Nat) : Int)) = true := by simp [hc.1]
                 have c2 : r < ((D : Nat) : Int) := hc.2
                 have Hk := Lib.hid (show ∃ k', 1 ≤ k' ∧ k' + g' = 6 ∧ foldG r = iterG k' (R1 : Nat) ∧ (∀ j, 1 ≤ j → j < k' → iterG j (R1 : Nat) ≠ (R1 : Nat)) ∧ ringF g' (foldG r) (R1 : Nat) (D : Nat) = rr from
                  ⟨k + 1, by omega, by omega, by rw [hk3]; rfl, fun j h1 h2 => by
                   rcases Nat.lt_or_ge j k with h | h
                   · exact hk4 j h1 h
                   · obtain rfl : j = k := by omega
                     rw [← hk3]; exact hc.1, hk5⟩)
                 have Hitx := Lib.hid hitx
                 clear hk hk3 hk4 hk5 hc hitx
                 go_wp2_with fail
                 refine (Hsf.out _ _ hbx hrr2).mono ?_
                 rintro e w5 ⟨rfl, hb5⟩
                 have hit5 := (hb5.block w.heap.size hltx).trans Hitx.out
                 have hb5w := hbx.trans (hb5.mono hbx.size)
                 have hlt5 : w.heap.size < w5.heap.size := Nat.lt_of_lt_of_le hltx hb5.size
                 have H5 := Lib.hid (And.intro hit5 hb5w)
                 clear hit5 hb5w hb5
                 go_wp2_with fail
                 go_roundg g'
                 case measure => omega
                 case rel => exact ⟨_, rfl, H5.out.2, hlt5, H5.out.1, Hk.out⟩
               · rw [if_neg hc] at hk5
                 have hE := HE3.out
                 have c3 : (r != ((R1 : Nat) : Int)) = false ∨ ¬ r < ((D : Nat) : Int) := by
                  by_cases h1 : r = ((R1 : Nat) : Int)
                  · left; simp [h1]
                  · right; exact fun h2 => hc ⟨h1, h2⟩
                 by_cases hrb : r = ((D : Nat) : Int)
                 · rw [show rr = true from by rw [← hk5]; exact decide_eq_true hrb, if_pos rfl] at hE
                   have HE2 := Lib.hid hE
                   have c4 : (r == ((D : Nat) : Int)) = true := by simp [hrb]
                   have Hitx := Lib.hid hitx
                   clear hE hk hk3 hk4 hk5 hc hitx hrb
                   by_cases c5 : (r != ((R1 : Nat) : Int)) = false
                   · clear c3
                     go_wp2_with fail
                     go_roundw
                     case rel => exact ⟨pos + wd, T', rfl, by omega, Hitx.out, hbx, ⟨f', by omega, HE2.out⟩⟩
                     case measure =>
                      simp only [World.iterPos, Hitx.out, hit]
                      omega
                   · have c6 : (r != ((R1 : Nat) : Int)) = true := by simpa using c5
                     have c7 : ¬ r < ((D : Nat) : Int) := by rcases c3 with h | h; exact absurd h c5; exact h
                     clear c3 c5
                     go_wp2_with fail
                     go_roundw
                     case rel => exact ⟨pos + wd, T', rfl, by omega, Hitx.out, hbx, ⟨f', by omega, HE2.out⟩⟩
                     case measure =>
                      simp only [World.iterPos, Hitx.out, hit]
                      omega
                 · rw [show rr = false from by rw [← hk5]; exact decide_eq_false hrb, if_neg (by simp)] at hE
                   have HE2 := Lib.hid hE
                   have c4 : (r == ((D : Nat) : Int)) = false := by simp [hrb]
                   clear hE hk hk3 hk4 hk5 hc hitx hrb
                   by_cases c5 : (r != ((R1 : Nat) : Int)) = false
                   · clear c3
                     go_wp2_with fail
                     refine HRet.out _ _ ?_
                     go_ret
                     exact ⟨by rw [← HE2.out]; rfl, hbx⟩
                   · have c6 : (r != ((R1 : Nat) : Int)) = true := by simpa using c5
                     have c7 : ¬ r < ((D : Nat) : Int) := by rcases c3 with h | h; exact absurd h c5; exact h
                     clear c3 c5
                     go_wp2_with fail
                     refine HRet.out _ _ ?_
                     go_ret
                     exact ⟨by rw [← HE2.out]; rfl, hbx⟩
          · have q2 : ¬ (R1 : Int) < (D : Int) := by omega
            have hE := HE1.out
            rw [show runeEq (D : Nat) (R1 : Nat) = pairEq (D : Nat) (R1 : Nat) from by unfold runeEq; rw [if_neg (by omega), if_neg (by omega)]] at hE
            obtain ⟨rr, hrr⟩ : ∃ x, x = pairEq ((D : Nat) : Int) ((R1 : Nat) : Int) := ⟨_, rfl⟩
            rw [← hrr] at hE
            unfold pairEq at hrr
            by_cases h128 : R1 < 128
            · have d1 : ((R1 : Nat) : Int) < 128 := by omega
              rw [if_pos d1] at hrr
              have Hrr := Lib.hid hrr
              clear hrr
              by_cases hm : 65 ≤ D ∧ D ≤ 90 ∧ R1 = D + 32
              · rw [show rr = true from Hrr.out.trans (decide_eq_true ⟨by omega, by omega, by omega⟩), if_pos rfl] at hE
                have HE2 := Lib.hid hE
                have m1 : (65 : Int) ≤ (D : Int) := by omega
                have m2 : (D : Int) ≤ 90 := by omega
                have m3 : ((R1 : Int) == (D : Int) + 97 - 65) = true := by simp; omega
                obtain ⟨w1e, w2e, w3e, w4e⟩ := wr97 D (by omega)
                clear hE HE1 h128 hm
                go_wp2_with fail
                clear w1e w2e w3e w4e
                go_roundw
                case rel => exact ⟨pos + wd, T', rfl, by omega, hit3, hb3, ⟨f', by omega, HE2.out⟩⟩
                case measure =>
                 simp only [World.iterPos, hit3, hit]
                 omega
              · rw [show rr = false from Hrr.out.trans (decide_eq_false (fun h => hm ⟨by omega, by omega, by omega⟩)), if_neg (by simp)] at hE
                have HE2 := Lib.hid hE
                clear hE HE1 h128
                by_cases m1 : 65 ≤ D
                · have m1' : (65 : Int) ≤ (D : Int) := by omega
                  by_cases m2 : D ≤ 90
                  · have m2' : (D : Int) ≤ 90 := by omega
                    have m3 : ((R1 : Int) == (D : Int) + 97 - 65) = false := by simp; omega
                    obtain ⟨w1e, w2e, w3e, w4e⟩ := wr97 D (by omega)
                    clear hm m1 m2
                    go_wp2_with fail
                    refine HRet.out _ _ ?_
                    go_ret
                    exact ⟨by rw [← HE2.out]; rfl, hb3⟩
                  · have m2' : ¬ (D : Int) ≤ 90 := by omega
                    clear hm m1 m2
                    go_wp2_with fail
                    refine HRet.out _ _ ?_
                    go_ret
                    exact ⟨by rw [← HE2.out]; rfl, hb3⟩
                · have m1' : ¬ (65 : Int) ≤ (D : Int) := by omega
                  clear hm m1
                  go_wp2_with fail
                  refine HRet.out _ _ ?_
                  go_ret
                  exact ⟨by rw [← HE2.out]; rfl, hb3⟩
            · have d1 : ¬ ((R1 : Nat) : Int) < 128 := by omega
              rw [if_neg d1] at hrr
              have hra : -2147483648 ≤ ((D : Nat) : Int) ∧ ((D : Nat) : Int) ≤ 2147483647 := by omega
              have Hrr := Lib.hid hrr
              have HE3 := Lib.hid hE
              have hsf := fun X r (hX : Below w.heap.size w X) hr => SimpleFold_any r X hr (HF.out.below hX)
              have Hsf := Lib.hid hsf
              have Hit3 := Lib.hid hit3
              clear hE hrr HE1 h128 hsf hit3
              go_wp2_with fail
              refine (Hsf.out _ _ hb3 hra).mono ?_
              rintro e w4 ⟨rfl, hb4⟩
              have hb4w := hb3.trans (hb4.mono hb3.size)
              have hit4 := (hb4.block w.heap.size hlt3).trans Hit3.out
              have Hit4 := Lib.hid hit4
              have hlt4 : w.heap.size < w4.heap.size := Nat.lt_of_lt_of_le hlt3 hb4.size
              clear hb4 hit4
              go_wp2_with fail
              go_loopg [13] 5 (fun g v13 wx => ∃ r : Int, v13 = .int .i32 r ∧ Below w.heap.size w wx ∧ w.heap.size < wx.heap.size ∧ wx.heap[w.heap.size]? = some (.stringIter S (pos + wd)) ∧ Hid (∃ k, 1 ≤ k ∧ k + g = 6 ∧ r = iterG k (D : Nat) ∧ (∀ j, 1 ≤ j → j < k → iterG j (D : Nat) ≠ (D : Nat)) ∧ ringF g r (D : Nat) (R1 : Nat) = rr))
              case atStart => exact ⟨_, rfl, hb4w, hlt4, Hit4.out, ⟨1, by omega, by omega, rfl, fun j h1 h2 => by omega, Hrr.out.symm⟩⟩
              case round =>
               obtain ⟨r, rfl, hbx, hltx, hitx, hk⟩ := hrel
               obtain ⟨k, hk1, hk2, hk3, hk4, hk5⟩ := hk.out
               have hk6 : k ≤ 4 := by
                rcases Nat.lt_or_ge k 5 with h | h
                · omega
                · exfalso
                  rcases ring_all ((D : Nat) : Int) with h1 | h1 | h1 | h1
                  · exact hk4 1 (by omega) (by omega) h1
                  · exact hk4 2 (by omega) (by omega) h1
                  · exact hk4 3 (by omega) (by omega) h1
                  · exact hk4 4 (by omega) (by omega) h1
               obtain ⟨g', rfl⟩ : ∃ g', gk = g' + 1 := ⟨gk - 1, by omega⟩
               have hrr2 : -2147483648 ≤ r ∧ r ≤ 2147483647 := by rw [hk3]; exact iterG_range _ hra k
               rw [ringF] at hk5
               by_cases hc : r ≠ (D : Nat) ∧ r < (R1 : Nat)
               · rw [if_pos hc] at hk5
                 have c1 : (r != ((D : Nat) : Int)) = true := by simp [hc.1]
                 have c2 : r < ((R1 : Nat) : Int) := hc.2
                 have Hk := Lib.hid (show ∃ k', 1 ≤ k' ∧ k' + g' = 6 ∧ foldG r = iterG k' (D : Nat) ∧ (∀ j, 1 ≤ j → j < k' → iterG j (D : Nat) ≠ (D : Nat)) ∧ ringF g' (foldG r) (D : Nat) (R1 : Nat) = rr from
                  ⟨k + 1, by omega, by omega, by rw [hk3]; rfl, fun j h1 h2 => by
                   rcases Nat.lt_or_ge j k with h | h
                   · exact hk4 j h1 h
                   · obtain rfl : j = k := by omega
                     rw [← hk3]; exact hc.1, hk5⟩)
                 have Hitx := Lib.hid hitx
                 clear hk hk3 hk4 hk5 hc hitx
                 go_wp2_with fail
                 refine (Hsf.out _ _ hbx hrr2).mono ?_
                 rintro e w5 ⟨rfl, hb5⟩
                 have hit5 := (hb5.block w.heap.size hltx).trans Hitx.out
                 have hb5w := hbx.trans (hb5.mono hbx.size)
                 have hlt5 : w.heap.size < w5.heap.size := Nat.lt_of_lt_of_le hltx hb5.size
                 have H5 := Lib.hid (And.intro hit5 hb5w)
                 clear hit5 hb5w hb5
                 go_wp2_with fail
                 go_roundg g'
                 case measure => omega
                 case rel => exact ⟨_, rfl, H5.out.2, hlt5, H5.out.1, Hk.out⟩
               · rw [if_neg hc] at hk5
                 have hE := HE3.out
                 have c3 : (r != ((D : Nat) : Int)) = false ∨ ¬ r < ((R1 : Nat) : Int) := by
                  by_cases h1 : r = ((D : Nat) : Int)
                  · left; simp [h1]
                  · right; exact fun h2 => hc ⟨h1, h2⟩
                 by_cases hrb : r = ((R1 : Nat) : Int)
                 · rw [show rr = true from by rw [← hk5]; exact decide_eq_true hrb, if_pos rfl] at hE
                   have HE2 := Lib.hid hE
                   have c4 : (r == ((R1 : Nat) : Int)) = true := by simp [hrb]
                   have Hitx := Lib.hid hitx
                   clear hE hk hk3 hk4 hk5 hc hitx hrb
                   by_cases c5 : (r != ((D : Nat) : Int)) = false
                   · clear c3
                     go_wp2_with fail
                     go_roundw
                     case rel => exact ⟨pos + wd, T', rfl, by omega, Hitx.out, hbx, ⟨f', by omega, HE2.out⟩⟩
                     case measure =>
                      simp only [World.iterPos, Hitx.out, hit]
                      omega
                   · have c6 : (r != ((D : Nat) : Int)) = true := by simpa using c5
                     have c7 : ¬ r < ((R1 : Nat) : Int) := by rcases c3 with h | h; exact absurd h c5; exact h
                     clear c3 c5
                     go_wp2_with fail
                     go_roundw
                     case rel => exact ⟨pos + wd, T', rfl, by omega, Hitx.out, hbx, ⟨f', by omega, HE2.out⟩⟩
                     case measure =>
                      simp only [World.iterPos, Hitx.out, hit]
                      omega
                 · rw [show rr = false from by rw [← hk5]; exact decide_eq_false hrb, if_neg (by simp)] at hE
                   have HE2 := Lib.hid hE
                   have c4 : (r == ((R1 : Nat) : Int)) = false := by simp [hrb]
                   clear hE hk hk3 hk4 hk5 hc hitx hrb
                   by_cases c5 : (r != ((D : Nat) : Int)) = false
                   · clear c3
                     go_wp2_with fail
                     refine HRet.out _ _ ?_
                     go_ret
                     exact ⟨by rw [← HE2.out]; rfl, hbx⟩
                   · have c6 : (r != ((D : Nat) : Int)) = true := by simpa using c5
                     have c7 : ¬ r < ((R1 : Nat) : Int) := by rcases c3 with h | h; exact absurd h c5; exact h
                     clear c3 c5
                     go_wp2_with fail
                     refine HRet.out _ _ ?_
                     go_ret
                     exact ⟨by rw [← HE2.out]; rfl, hbx⟩
    · have hnx : ∀ ty, (Instr.next (.pointer (some ⟨w.heap.size, 0, none⟩)) true ty).run Tryd.prog wr = _ := fun ty => Lib.run_next_end_at wr w.heap.size S pos ty hit hp
      have hE2 : decide (T.size = 0) = R := by
       cases f0 with
       | zero => exact hE
       | succ f => rw [efU, if_neg hp] at hE; exact hE
      have HE2 := Lib.hid hE2
      clear hE hE2
      by_cases hT : T.size = 0
      · have hb : ((T.size : Int) == 0) = true := by simp [hT]
        go_wp2_with fail
        refine HRet.out _ _ ?_
        go_ret
        exact ⟨by rw [← HE2.out]; simp [hT], hbw⟩
      · have hb : ((T.size : Int) == 0) = false := by simp [hT]
        go_wp2_with fail
        refine HRet.out _ _ ?_
        go_ret
        exact ⟨by rw [← HE2.out]; simp [hT], hbw⟩
end Go.Proofs.YtpnolbfnmknhlaaDoor

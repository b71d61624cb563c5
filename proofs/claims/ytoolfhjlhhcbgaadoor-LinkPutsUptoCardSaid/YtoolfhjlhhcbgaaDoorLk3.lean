import Derived.Test.YtoolfhjlhhcbgaaDoorLk2
namespace Go.Proofs.YtoolfhjlhhcbgaaDoor
open Go.RowKit

/-- The scanner, in block s: the page, where one stands, what is out. -/
def ScanIs (w : World) (s : Nat) (v : Value) (at_ : Nat) (out : Value) : Prop := w.heap[s]? = some (.cells #[v, .int .i64 (at_ : Nat), out] 86 (0, 0))
section
variable {w w' : World} {s at_ : Nat} {v out : Value}
theorem ScanIs.c0 (h : ScanIs w s v at_ out) : w.cell? ⟨s, 0, none⟩ = some v := by rw [Go.Joins.cell_of_block h]; rfl
theorem ScanIs.c1 (h : ScanIs w s v at_ out) : w.cell? ⟨s, 1, none⟩ = some (.int .i64 (at_ : Nat)) := by rw [Go.Joins.cell_of_block h]; rfl
theorem ScanIs.c2 (h : ScanIs w s v at_ out) : w.cell? ⟨s, 2, none⟩ = some out := by rw [Go.Joins.cell_of_block h]; rfl
theorem ScanIs.fz (h : ScanIs w s v at_ out) (o : Nat) : w.frozen? ⟨s, o, none⟩ = false := Go.Joins.unfrozen_of_block h o
theorem ScanIs.set1 (h : ScanIs w s v at_ out) (x : Nat) : ScanIs (w.setCell ⟨s, 1, none⟩ (.int .i64 (x : Nat))) s v x out := by
  unfold ScanIs; rw [Go.Joins.block_setCell h]; rfl
theorem ScanIs.set2 (h : ScanIs w s v at_ out) (x : Value) : ScanIs (w.setCell ⟨s, 2, none⟩ x) s v at_ x := by
  unfold ScanIs; rw [Go.Joins.block_setCell h]; rfl
theorem ScanIs.lt (h : ScanIs w s v at_ out) : s < w.heap.size := by
  rcases Nat.lt_or_ge s w.heap.size with h' | h'
  · exact h'
  · unfold ScanIs at h; rw [Array.getElem?_eq_none h'] at h; cases h
theorem ScanIs.keep (h : ScanIs w s v at_ out) (hk : w'.heap[s]? = w.heap[s]?) : ScanIs w' s v at_ out := by unfold ScanIs; rw [hk]; exact h
theorem ScanIs.below (h : ScanIs w s v at_ out) (hb : Below w.heap.size w w') : ScanIs w' s v at_ out := h.keep (hb.block s h.lt)
theorem ScanIs.drewN (h : ScanIs w s v at_ out) (n : Nat) : ScanIs (w.drewN n) s v at_ out := h
end
theorem grown_drewN {w w' : World} {r : Option Nat} (h : w.grownBy w' r) (n : Nat) : w.grownBy (w'.drewN n) r := ⟨h.os, h.tape, h.output, h.size, h.block⟩
theorem grown_below {w w' w2 : World} {r : Option Nat} (h : w.grownBy w' r) (hb : Below w'.heap.size w' w2) : w.grownBy w2 r :=
  ⟨hb.os.trans h.os, hb.tape.trans h.tape, hb.output.trans h.output, Nat.le_trans h.size hb.size, fun k hk hne => (hb.block k (Nat.lt_of_lt_of_le hk h.size)).trans (h.block k hk hne)⟩
theorem By.grown {w w' : World} {B n : Nat} {A : Option Addr} {l : List UInt8} (h : By w B A n l) {s : Nat} (hg : w.grownBy w' (some s)) (hB : B ≤ s) (hs : B ≤ w.heap.size) : By w' B A n l :=
  Sl.grown h hg hs (fun g hg => by injection hg with hg; omega)
def atOf (w : World) (s : Nat) : Nat := match w.cell? ⟨s, 1, none⟩ with | some (.int _ i) => i.toNat | _ => 0
theorem scan_at {w : World} {s at_ : Nat} {v out : Value} (h : ScanIs w s v at_ out) : atOf w s = at_ := by
  unfold atOf; rw [h.c1]; simp
theorem stopD_yes (p : Nat → Bool) (l : List UInt8) (k : Nat) (hk : k < l.length) (h : p (nth l k) = true) : stopD p (l.drop k) = l.drop k := by
  rw [List.drop_eq_getElem_cons hk]
  exact (stopD_at p _ _ (by rw [← nth_of l k hk]; exact h)).1
theorem stopD_no (p : Nat → Bool) (l : List UInt8) (k : Nat) (hk : k < l.length) (h : p (nth l k) = false) : stopD p (l.drop k) = stopD p (l.drop (k + 1)) := by
  rw [List.drop_eq_getElem_cons hk]
  exact (stopD_pre p [l[k]] _ (by simp; rw [← nth_of l k hk]; exact h)).1

/-- What a test of bytes is good for, where it turns nothing. -/
def PredQ (g : Nat) (lb : Array Value) (p : Nat → Bool) (ok : World → Prop) : Prop :=
  ∀ (W : World) (x : Nat), x < 256 → ok W → Calls Tryd.prog g (#[.int .u8 (x : Int)] ++ lb) W fun e w' => e = .returned (.bool (p x)) ∧ w' = W
def TillRel (s : Nat) (v out : Value) (n : Nat) (w : World) (p : Nat → Bool) (l : List UInt8) (R : Nat) (wr : World) : Prop :=
  ∃ at_ : Nat, at_ ≤ n ∧ ScanIs wr s v at_ out ∧ w.grownBy wr (some s) ∧ Hid ((stopD p (l.drop at_)).length = R)
/-- Where one stands behind till. -/
def TillOut (s : Nat) (v out : Value) (R : Nat) (w : World) (e : Ending) (w' : World) : Prop := e = .returned (.tuple #[]) ∧ ScanIs w' s v R out ∧ w.grownBy w' (some s)
set_option maxRecDepth 100000 in
set_option maxHeartbeats 1000000 in
theorem till_any (g : Nat) (lb : Array Value) (eg : ∀ args w, (callFunc g args).run Tryd.prog w = .ok (.enter g args) w) (p : Nat → Bool) (ok : World → Prop) (hp : PredQ g lb p ok) (s : Nat) (A : Option Addr) (n c B at_ : Nat) (out : Value) (l : List UInt8) (w : World)
    (hs : ScanIs w s (.slice A n c) at_ out) (hb : By w B A n l) (hB : B ≤ s) (hn : n ≤ 1000000) (hat : at_ ≤ n) (hok : ∀ W, w.grownBy W (some s) → ok W) :
    Calls Tryd.prog 68 #[.pointer (some ⟨s, 0, none⟩), .func (.func g) #[] lb] w (TillOut s (.slice A n c) out (n - (stopD p (l.drop at_)).length) w) := by
  have hl := hb.len
  obtain ⟨R, hR⟩ : ∃ R, R = (stopD p (l.drop at_)).length := ⟨_, rfl⟩
  have hRn : R ≤ n - at_ := by rw [hR]; have := stopD_len p (l.drop at_); simp at this; omega
  rw [← hR]
  have HR := Lib.hid hR
  have Hl := Lib.hid hl
  have Hok := Lib.hid hok
  have Hp := Lib.hid hp
  have hsl := hs.lt
  have Hs := Lib.hid hs
  clear hR hl hok hp hs
  go_enter Tryd.func68, Tryd.ntmps68
  go_wp2_with fail
  go_loopw [] (fun wr => TillRel s (.slice A n c) out n w p l R wr) (fun wr => n - atOf wr s)
  case atStart => exact ⟨at_, by omega, Hs.out, World.grownBy.refl w _, HR.out.symm⟩
  case round =>
    obtain ⟨at_, ha, hS, hg, hE⟩ := hrel
    have y0 := hS.c0
    have y1 := hS.c1
    have yf := hS.fz 1
    have HS := Lib.hid hS
    have Hat := Lib.hid (scan_at hS)
    clear hS
    by_cases han : at_ < n
    · have hby := hb.grown hg hB (by omega)
      obtain ⟨b, off, rfl, hbB, hcell⟩ := hby.at_ han
      have hx := nth_lt l at_
      have cP := fun k => Hp.out (wr.drewN k) (nth l at_) hx (Hok.out _ (grown_drewN hg k))
      have hal : at_ < l.length := by rw [Hl.out]; exact han
      clear hby
      by_cases hpx : p (nth l at_) = true
      · rw [hpx] at cP
        have HP := Lib.hid cP
        have Hpx := Lib.hid hpx
        clear cP hpx
        go_wp2_with fail
        go_quiet ((go_at_fn g; exact Calls.quiet_of_same (HP.out _)))
        go_wp2_with fail
        go_end0
        refine ⟨rfl, ?_, grown_drewN hg nq⟩
        have e : at_ = n - R := by
          have h := hE.out
          rw [stopD_yes p l at_ hal Hpx.out, List.length_drop, ← Hl.out.symm] at h
          have := Hl.out
          omega
        rw [← e]
        exact HS.out.drewN nq
      · have hpf : p (nth l at_) = false := by simpa using hpx
        rw [hpf] at cP
        have HP := Lib.hid cP
        have Hpx := Lib.hid hpf
        clear cP hpx hpf
        go_wp2_with fail
        go_quiet ((go_at_fn g; exact Calls.quiet_of_same (HP.out _)))
        have yz : (wr.drewN nq).cell? ⟨s, 1, none⟩ = some (.int .i64 (at_ : Nat)) := y1
        have yz2 : (wr.drewN nq).frozen? ⟨s, 1, none⟩ = false := yf
        go_wp2_with fail
        refine ⟨⟨at_ + 1, by omega, ?_, ?_, ?_⟩, ?_⟩
        · have := (HS.out.drewN nq).set1 (at_ + 1)
          exact this
        · have h1 := grown_drewN hg nq
          exact ⟨h1.os, h1.tape, h1.output, by simpa using h1.size, fun k hk hne => (Below.heap_setCell _ _ _ k (fun e => hne (by rw [e]))).trans (h1.block k hk hne)⟩
        · show _ = R
          rw [← stopD_no p l at_ hal Hpx.out]
          exact hE.out
        · have h2 := scan_at ((HS.out.drewN nq).set1 (at_ + 1))
          have h3 := Hat.out
          show n - atOf ((wr.drewN nq).setCell ⟨s, 1, none⟩ (.int .i64 ((at_ : Int) + 1))) s < n - atOf wr s
          rw [h3, show atOf ((wr.drewN nq).setCell ⟨s, 1, none⟩ (.int .i64 ((at_ : Int) + 1))) s = at_ + 1 from h2]
          omega
    · go_wp2_with fail
      go_quiet (fail)
      go_wp2_with fail
      go_end0
      refine ⟨rfl, ?_, grown_drewN hg nq⟩
      have e : at_ = n - R := by
        have h := hE.out
        rw [List.drop_of_length_le (by have := Hl.out; omega)] at h
        have : R = 0 := by rw [← h]; rfl
        omega
      rw [← e]
      exact HS.out.drewN nq
end Go.Proofs.YtoolfhjlhhcbgaaDoor

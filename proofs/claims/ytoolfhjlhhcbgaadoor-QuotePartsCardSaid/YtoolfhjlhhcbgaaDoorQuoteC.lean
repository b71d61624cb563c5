import Derived.Test.YtoolfhjlhhcbgaaDoorQuoteP
import Derived.Test.YtoolfhjlhhcbgaaDoorCatbyte
import Derived.Deep.RegionWith
namespace Go.Proofs.YtoolfhjlhhcbgaaDoor
open Go.RowKit
attribute [local go_sem high] cut_bytes upto_bytes

set_option maxHeartbeats 400000 in
theorem quoteParts1_any (x : Nat) (hx : x < 256) (w : World) : Calls Tryd.prog 42 #[.int .u8 (x : Int)] w fun e w' => e = .returned (.bool (!plainQ x)) ∧ w = w' := by
  go_enter Tryd.func42, Tryd.ntmps42
  go_wp2_with fail
  all_goals
    go_ret
    refine ⟨congrArg (fun b => Ending.returned (.bool b)) (?_ : _ = !plainQ x), rfl⟩
    rw [Bool.eq_iff_iff]
    simp [plainQ]
    try omega
theorem predPlain (w : World) : PredB 42 #[] (fun x => !plainQ x) w := fun W x hx _ =>
  (quoteParts1_any x hx W).mono fun e w' ⟨h1, h2⟩ => ⟨h1, h2 ▸ Below.refl _ _⟩

theorem quoteWrite_cases (A : Option Addr) (n c : Nat) (l : List UInt8) (w : World) (hb : By w w.heap.size A n l) (hn : n ≤ c) (hm : c ≤ maxLen) :
    Calls Tryd.prog 38 #[.slice A n c] w fun e w' => e = .returned (.tuple #[str (if n ≤ 4000 then encQ 0 l else []), .int .i64 ((if n ≤ 4000 then 0 else 2 : Nat) : Int)]) ∧ Below w.heap.size w w' := by
  by_cases h : n ≤ 4000
  · rw [if_pos h, if_pos h]; exact quoteWrite_ok A n c l w hb hn h
  · rw [if_neg h, if_neg h]
    exact (quoteWrite_many A n c w h (Nat.le_trans hn hm)).mono fun e w' ⟨h1, h2⟩ => ⟨h1, h2 ▸ Below.refl _ _⟩

def WrPost (n : Nat) (w : World) (e : Ending) (w' : World) : Prop := ∃ (X : List UInt8) (k : Nat), e = .returned (.tuple #[str X, .int .i64 (k : Nat)]) ∧ ((k : Int) != 0) = decide (4000 < n) ∧ Below w.heap.size w w'
theorem quoteWrite_post (A : Option Addr) (n c : Nat) (l : List UInt8) (w : World) (hb : By w w.heap.size A n l) (hn : n ≤ c) (hm : c ≤ maxLen) :
    Calls Tryd.prog 38 #[.slice A n c] w (WrPost n w) := by
  by_cases h : n ≤ 4000
  · exact (quoteWrite_ok A n c l w hb hn h).mono fun e w' ⟨h1, h2⟩ => ⟨_, 0, h1, by simp; omega, h2⟩
  · exact (quoteWrite_many A n c w h (Nat.le_trans hn hm)).mono fun e w' ⟨h1, h2⟩ => ⟨_, 2, h1, by simp; omega, h2 ▸ Below.refl _ _⟩
set_option maxRecDepth 100000 in
set_option maxHeartbeats 1000000 in
theorem quoteParts_else (A : Option Addr) (n c : Nat) (a : List UInt8) (A' : Option Addr) (n' c' : Nat) (b : List UInt8) (w : World) (hb : By w w.heap.size A n a) (hn : n ≤ c) (hm : c ≤ maxLen)
    (hb' : By w w.heap.size A' n' b) (hn' : n' ≤ c') (hm' : c' ≤ maxLen) (hs : ¬ (n ≤ 4000 ∧ n' ≤ 4000 ∧ n + n' ≤ 4000)) :
    Calls Tryd.prog 7 #[.slice A n c, .slice A' n' c'] w (LawPost w) := by
  have hw1 := quoteWrite_post A n c a w hb hn hm
  have hw2 := fun W hW => quoteWrite_post A' n' c' b W hW hn' hm'
  have Hb' := Lib.hid hb'
  have Hw1 := Lib.hid hw1
  have Hw2 := Lib.hid hw2
  have hq := fun W => quoted_any W
  have Hq := Lib.hid hq
  unfold maxLen at hm hm'
  have hor : 4000 < n ∨ (n ≤ 4000 ∧ 4000 < n') ∨ (n ≤ 4000 ∧ n' ≤ 4000 ∧ 4000 < n + n') := by omega
  clear hw1 hw2 hb hb' hs hq
  go_enter Tryd.func7, Tryd.ntmps7
  go_wp2_with fail
  refine Hw1.out.mono ?_
  rintro e w1 ⟨X1, k1, rfl, hk1, hb1⟩
  have Hk1 := Lib.hid hk1
  clear hk1
  go_wp2_with fail
  have hB1 := (Hb'.out.belowN hb1 (Nat.le_refl _)).more hb1.size
  refine (Hw2.out _ hB1).mono ?_
  rintro e w2 ⟨X2, k2, rfl, hk2, hb2⟩
  have Hk2 := Lib.hid hk2
  have hbel2 := hb1.trans (hb2.mono hb1.size)
  clear hk2 hB1 hb1 hb2
  go_wp2_with fail
  refine (Hq.out _).mono ?_
  rintro e w3 ⟨rfl, hb3⟩
  have hbel3 := hbel2.trans (hb3.mono hbel2.size)
  rcases hor with h1 | ⟨h1, h2⟩ | ⟨h1, h2, h3⟩
  · have g1 : ((k1 : Int) != 0) = true := by rw [Hk1.out]; simpa using h1
    go_wp2_with fail
    refine (Hq.out _).mono ?_
    rintro e w4 ⟨rfl, hb4⟩
    have hbel4 := hbel3.trans (hb4.mono hbel3.size)
    go_wp2_with fail
    go_ret
    exact ⟨rfl, hbel4⟩
  · have g1 : ((k1 : Int) != 0) = false := by rw [Hk1.out]; simp; omega
    have g2 : ((k2 : Int) != 0) = true := by rw [Hk2.out]; simpa using h2
    go_wp2_with fail
    refine (Hq.out _).mono ?_
    rintro e w4 ⟨rfl, hb4⟩
    have hbel4 := hbel3.trans (hb4.mono hbel3.size)
    go_wp2_with fail
    go_ret
    exact ⟨rfl, hbel4⟩
  · have g1 : ((k1 : Int) != 0) = false := by rw [Hk1.out]; simp; omega
    have g2 : ((k2 : Int) != 0) = false := by rw [Hk2.out]; simp; omega
    go_wp2_with fail
    refine (Hq.out _).mono ?_
    rintro e w4 ⟨rfl, hb4⟩
    have hbel4 := hbel3.trans (hb4.mono hbel3.size)
    go_wp2_with fail
    go_ret
    exact ⟨rfl, hbel4⟩
set_option maxRecDepth 100000 in
set_option maxHeartbeats 4000000 in
theorem quoteParts_walk (A : Option Addr) (n c : Nat) (a : List UInt8) (A' : Option Addr) (n' c' : Nat) (b : List UInt8) (w : World) (hb : By w w.heap.size A n a) (hn : n ≤ c) (hm : c ≤ maxLen)
    (hb' : By w w.heap.size A' n' b) (hn' : n' ≤ c') (hm' : c' ≤ maxLen) (hM : MaxLenOk w) :
    Calls Tryd.prog 7 #[.slice A n c, .slice A' n' c'] w (LawPost w) := by
  have hw1 := quoteWrite_cases A n c a w hb hn hm
  have hw2 := fun W hW => quoteWrite_cases A' n' c' b W hW hn' hm'
  have Hb := Lib.hid hb
  have Hb' := Lib.hid hb'
  by_cases hs : n ≤ 4000 ∧ n' ≤ 4000 ∧ n + n' ≤ 4000
  · obtain ⟨h1, h2, h3⟩ := hs
    unfold maxLen at hm hm'
    rw [if_pos h1, if_pos h1] at hw1
    have hw2' := fun W hW => hw2 W hW
    simp only [if_pos h2] at hw2'
    have hla := hb.len
    have hlb := hb'.len
    have hea := encQ_len3 a 0 (by omega)
    have heb := encQ_len3 b 0 (by omega)
    have hrd := readQ_str (encQ 0 a ++ encQ 0 b) (a ++ b) ((encQ_str a 0).app (encQ_str b 0)) (by simp; omega) (by simp; omega)
    have hel : (encQ 0 a ++ encQ 0 b).length ≤ 16000 := by simp; omega
    have hpl := replaceQ_plain a
    have Hw1 := Lib.hid hw1
    have Hw2 := Lib.hid hw2'
    have Hrd := Lib.hid hrd
    have Hpl := Lib.hid hpl
    have Hla := Lib.hid hla
    have Hlb := Lib.hid hlb
    have hl0 : (encQ 0 a).length + (encQ 0 b).length ≤ 16000 := by simpa using hel
    clear hw1 hw2 hw2' hrd hpl hla hlb hb hb' hea heb
    generalize hxs : encQ 0 a = X at *
    generalize hys : encQ 0 b = Y at *
    have HX := Lib.hid hxs
    clear hxs hys
    go_enter Tryd.func7, Tryd.ntmps7
    go_wp2_with fail
    refine Hw1.out.mono ?_
    rintro e w1 ⟨rfl, hb1⟩
    go_wp2_with fail
    have hB1 := (Hb'.out.belowN hb1 (Nat.le_refl _)).more hb1.size
    refine (Hw2.out _ hB1).mono ?_
    rintro e w2 ⟨rfl, hb2⟩
    have hbel2 := hb1.trans (hb2.mono hb1.size)
    go_wp2_with fail
    refine (quoted_any _).mono ?_
    rintro e w3 ⟨rfl, hb3⟩
    have hbel3 := hbel2.trans (hb3.mono hbel2.size)
    clear hb1 hb2 hb3 hbel2 hB1
    go_wp2_with fail
    refine (quoteRead_any (X ++ Y) _ (by omega)).mono ?_
    rw [Hrd.out]
    rintro e w4 ⟨A4, c4, rfl, hby4, hc4, hb4⟩
    have hbel4 := hbel3.trans (hb4.mono hbel3.size)
    go_wp2_with fail
    have hB4 := Hb.out.belowN hbel4 (Nat.le_refl _)
    have hcf := ContainsFunc_bytes 42 #[] (enters_of Tryd.func42 (by kernel_rfl) rfl) (fun x => !plainQ x) A n c _ a w4 hB4 hbel4.size (by unfold maxLen; omega) (predPlain w4)
    generalize hr : a.any (fun b => !plainQ b.toNat) = r at hcf
    have HR := Lib.hid hr
    clear hr hB4
    refine hcf.mono ?_
    clear hcf
    rintro e w5 ⟨rfl, hb5⟩
    have hbel5 := hbel4.trans (hb5.mono hbel4.size)
    go_wp2_with fail
    have hbelc := (hbel5.alloc hbel5.size (.cells #[.slice A n c, .slice A' n' c'] 22)).drew
    have hSl := Sl.row w5 22 1 2 [.slice A n c, .slice A' n' c'] rfl
    have hbz : Below w5.heap.size w5 ((w5.alloc (.cells #[.slice A n c, .slice A' n' c'] 22)).drew) := ((Below.refl _ w5).alloc (Nat.le_refl _) _).drew
    have hszz : (w5.alloc (.cells #[.slice A n c, .slice A' n' c'] 22)).drew.heap.size = w5.heap.size + 1 := by simp
    have hcat := Concat_byte (some ⟨w5.heap.size, 0, none⟩) A A' 2 n c n' c' (Lib.byteCells a) (Lib.byteCells b) ((w5.alloc (.cells #[.slice A n c, .slice A' n' c'] 22)).drew) (by rw [hszz]; exact hSl) ((Hb.out.belowN hbelc (Nat.le_refl _)).more hbelc.size) ((Hb'.out.belowN hbelc (Nat.le_refl _)).more hbelc.size) (oneCell_byteCells a) (oneCell_byteCells b) (by omega)
    have Hcat := Lib.hid hcat
    rw [List.length_append] at hby4
    have Hby4 := Lib.hid hby4
    have Hb5 := Lib.hid hb5
    have Hbz := Lib.hid hbz
    have hlm : a.length + b.length ≤ maxLen := by unfold maxLen; rw [Hla.out, Hlb.out]; omega
    have hll : ((a ++ b) == (a ++ b)) = true := by simp
    clear hSl hszz hcat hby4 hb5 hbz
    cases r
    · have hpl : ∀ c ∈ a, plainQ c.toNat = true := by
        intro x hx
        have := List.any_eq_false.1 HR.out x hx
        simpa using this
      have haa : (a == a) = true := by simp
      have hre : ∀ W, MaxLenOk W → Calls Tryd.prog 14 #[str X, .string ⟨#[61, 13, 10]⟩, .string ⟨#[]⟩] W fun e w' => e = .returned (str a) ∧ Below W.heap.size W w' := by
        intro W hW
        obtain ⟨m, hm7⟩ := hW
        have hre := replaceE_any a m W hm7 (by rw [Hla.out]; omega)
        rw [HX.out, Hpl.out hpl] at hre
        exact hre
      have Hre := Lib.hid hre
      have hts : ∀ W, Below w.heap.size w W → (convert 22 9 (.slice A n c)).run Tryd.prog W = .ok (str a) W := fun W hW =>
        run_toStr (P := Tryd.prog) W 22 9 5 _ A n c a (Hb.out.belowN hW (Nat.le_refl _)) Tryd.underlying22 Tryd.underlying5 Tryd.underlying9
      have Hts := Lib.hid hts
      clear hre hpl hts
      refine wp_region_any (by kernel_rfl) ?_
      change wpAny _ _ _ _ _ _ _ (World.drew _)
      refine wpAny_take (i := 0) (v := ?_) rfl (by kernel_rfl) (by kernel_rfl) (by kernel_rfl) (fun _ _ _ h => h) (Or.inl ⟨by kernel_rfl, ?_⟩) ?_
      rotate_left 1
      · intro w; go_simp; try exact rfl
      refine wpAny_take (i := 1) (v := ?_) rfl (by kernel_rfl) (by kernel_rfl) (by kernel_rfl) (fun _ _ _ h => h) (Or.inl ⟨by kernel_rfl, ?_⟩) ?_
      rotate_left 1
      · intro w; go_simp; try exact rfl
      refine wpAny_take (i := 2) (v := ?_) rfl (by kernel_rfl) (by kernel_rfl) (by kernel_rfl) (fun _ _ _ h => h) (Or.inl ⟨by kernel_rfl, ?_⟩) ?_
      rotate_left 1
      · intro w; go_simp; try exact rfl
      refine wpAny_take (i := 3) (v := ?_) rfl (by kernel_rfl) (by kernel_rfl) (by kernel_rfl) (fun _ _ _ h => h) (Or.inl ⟨by kernel_rfl, ?_⟩) ?_
      rotate_left 1
      · intro w; go_simp; try exact rfl
      refine wpAny_take (i := 4) (v := ?_) rfl (by kernel_rfl) (by kernel_rfl) (by kernel_rfl) (fun _ _ _ h => h) (Or.inl ⟨by kernel_rfl, ?_⟩) ?_
      rotate_left 1
      · intro w; go_simp; try exact rfl
      refine wpAny_take (i := 5) (v := ?_) rfl (by kernel_rfl) (by kernel_rfl) (by kernel_rfl) (fun _ _ _ h => h) (Or.inl ⟨by kernel_rfl, ?_⟩) ?_
      rotate_left 1
      · intro w; go_simp; try exact rfl
      refine wpAny_ready (rs := [6]) (by kernel_rfl) (by simp) ?_
      refine AllReady.cons rfl (fun K hK => ?_) AllReady.nil
      go_simp
      refine hK _ _ ?_
      clear hK K
      refine wpAny_ready (rs := [7]) (by kernel_rfl) (by simp) ?_
      refine AllReady.cons rfl (fun K hK => ?_) AllReady.nil
      go_simp
      refine Hcat.out.mono ?_
      rintro e w6 ⟨S6, c6, rfl, hown6, hb6⟩
      have hbel6 := hbelc.trans (hb6.mono hbelc.size)
      rw [← byteCells_append] at hown6
      have hby6 := By.of_own hown6
      have hby4' := (Hby4.out.belowN Hb5.out (Nat.le_refl _)).belowN (Hbz.out.trans (hb6.mono Hbz.out.size)) Hb5.out.size
      have Hby6 := Lib.hid hby6
      have Hby4' := Lib.hid hby4'
      clear hown6 hb6 hby6 hby4'
      go_simp
      refine hK _ _ ?_
      clear hK K
      refine wpAny_ready (rs := [8]) (by kernel_rfl) (by simp) ?_
      refine AllReady.cons rfl (fun K hK => ?_) AllReady.nil
      go_simp
      have hq := Equal_bytes A4 S6 (a.length + b.length) c4 (n + n') c6 _ _ (a ++ b) (a ++ b) w6 Hby4'.out Hby6.out hlm
      rw [hll] at hq
      refine hq.mono ?_
      clear hq
      rintro e w7 ⟨rfl, q7, rfl⟩
      have hbel7 := belN hbel6 q7
      go_simp
      refine hK _ _ ?_
      clear hK K
      refine wpAny_take (i := 9) (v := ?_) rfl (by kernel_rfl) (by kernel_rfl) (by kernel_rfl) (fun _ _ _ h => h) (Or.inl ⟨by kernel_rfl, ?_⟩) ?_
      rotate_left 1
      · intro w; go_simp; try exact rfl
      refine wpAny_take (i := 10) (v := ?_) rfl (by kernel_rfl) (by kernel_rfl) (by kernel_rfl) (fun _ _ _ h => h) (Or.inl ⟨by kernel_rfl, ?_⟩) ?_
      rotate_left 1
      · intro w; go_simp; try exact rfl
      refine wpAny_take (i := 11) (v := ?_) rfl (by kernel_rfl) (by kernel_rfl) (by kernel_rfl) (fun _ _ _ h => h) (Or.inl ⟨by kernel_rfl, ?_⟩) ?_
      rotate_left 1
      · intro w; go_simp; try exact rfl
      refine wpAny_take (i := 12) (v := ?_) rfl (by kernel_rfl) (by kernel_rfl) (by kernel_rfl) (fun _ _ _ h => h) (Or.inl ⟨by kernel_rfl, ?_⟩) ?_
      rotate_left 1
      · intro w; go_simp; try exact rfl
      refine wpAny_take (i := 13) (v := ?_) rfl (by kernel_rfl) (by kernel_rfl) (by kernel_rfl) (fun _ _ _ h => h) (Or.inl ⟨by kernel_rfl, ?_⟩) ?_
      rotate_left 1
      · intro w; go_simp; try exact rfl
      refine wpAny_take (i := 14) (v := ?_) rfl (by kernel_rfl) (by kernel_rfl) (by kernel_rfl) (fun _ _ _ h => h) (Or.inl ⟨by kernel_rfl, ?_⟩) ?_
      rotate_left 1
      · intro w; go_simp; try exact rfl
      refine wpAny_take (i := 16) (v := ?_) rfl (by kernel_rfl) (by kernel_rfl) (by kernel_rfl) (fun _ _ _ h => h) (Or.inl ⟨by kernel_rfl, ?_⟩) ?_
      rotate_left 1
      · intro w; go_simp; try exact rfl
      refine wpAny_ready (rs := [15, 17]) (by kernel_rfl) (by simp) ?_
      refine AllReady.cons rfl (fun K hK => ?_) (AllReady.cons rfl (fun K hK => ?_) AllReady.nil)
      · go_simp
        refine (Hre.out _ (hM.below hbel7)).mono ?_
        rintro e w8 ⟨rfl, hb8⟩
        have hbel8 := hbel7.trans (hb8.mono hbel7.size)
        go_simp
        refine hK _ _ ?_
        clear hK K
        have ht8 := Hts.out _ hbel8
        refine wpAny_ready (rs := [17]) (by kernel_rfl) (by simp) ?_
        refine AllReady.cons rfl (fun K hK => ?_) AllReady.nil
        go_simp
        refine hK _ _ ?_
        clear hK K
        clear ht8
        refine wpAny_take (i := 18) (v := ?_) rfl (by kernel_rfl) (by kernel_rfl) (by kernel_rfl) (fun _ _ _ h => h) (Or.inl ⟨by kernel_rfl, ?_⟩) ?_
        rotate_left 1
        · intro w; go_simp; try exact rfl
        refine wpAny_take (i := 19) (v := ?_) rfl (by kernel_rfl) (by kernel_rfl) (by kernel_rfl) (fun _ _ _ h => h) (Or.inl ⟨by kernel_rfl, ?_⟩) ?_
        rotate_left 1
        · intro w; go_simp; try exact rfl
        refine wpAny_take (i := 20) (v := ?_) rfl (by kernel_rfl) (by kernel_rfl) (by kernel_rfl) (fun _ _ _ h => h) (Or.inl ⟨by kernel_rfl, ?_⟩) ?_
        rotate_left 1
        · intro w; go_simp; try exact rfl
        refine wpAny_take (i := 21) (v := ?_) rfl (by kernel_rfl) (by kernel_rfl) (by kernel_rfl) (fun _ _ _ h => h) (Or.inl ⟨by kernel_rfl, ?_⟩) ?_
        rotate_left 1
        · intro w; go_simp; try exact rfl
        refine wpAny_done (by kernel_rfl) ?_ _
        go_wp2_with fail
        go_ret
        exact ⟨rfl, hbel8⟩
      · have ht7 := Hts.out _ hbel7
        go_simp
        refine hK _ _ ?_
        clear hK K ht7
        refine wpAny_ready (rs := [15]) (by kernel_rfl) (by simp) ?_
        refine AllReady.cons rfl (fun K hK => ?_) AllReady.nil
        go_simp
        refine (Hre.out _ (hM.below hbel7)).mono ?_
        rintro e w8 ⟨rfl, hb8⟩
        have hbel8 := hbel7.trans (hb8.mono hbel7.size)
        go_simp
        refine hK _ _ ?_
        clear hK K
        refine wpAny_take (i := 18) (v := ?_) rfl (by kernel_rfl) (by kernel_rfl) (by kernel_rfl) (fun _ _ _ h => h) (Or.inl ⟨by kernel_rfl, ?_⟩) ?_
        rotate_left 1
        · intro w; go_simp; try exact rfl
        refine wpAny_take (i := 19) (v := ?_) rfl (by kernel_rfl) (by kernel_rfl) (by kernel_rfl) (fun _ _ _ h => h) (Or.inl ⟨by kernel_rfl, ?_⟩) ?_
        rotate_left 1
        · intro w; go_simp; try exact rfl
        refine wpAny_take (i := 20) (v := ?_) rfl (by kernel_rfl) (by kernel_rfl) (by kernel_rfl) (fun _ _ _ h => h) (Or.inl ⟨by kernel_rfl, ?_⟩) ?_
        rotate_left 1
        · intro w; go_simp; try exact rfl
        refine wpAny_take (i := 21) (v := ?_) rfl (by kernel_rfl) (by kernel_rfl) (by kernel_rfl) (fun _ _ _ h => h) (Or.inl ⟨by kernel_rfl, ?_⟩) ?_
        rotate_left 1
        · intro w; go_simp; try exact rfl
        refine wpAny_done (by kernel_rfl) ?_ _
        go_wp2_with fail
        go_ret
        exact ⟨rfl, hbel8⟩
    · refine wp_region_any (by kernel_rfl) ?_
      change wpAny _ _ _ _ _ _ _ (World.drew _)
      refine wpAny_take (i := 0) (v := ?_) rfl (by kernel_rfl) (by kernel_rfl) (by kernel_rfl) (fun _ _ _ h => h) (Or.inl ⟨by kernel_rfl, ?_⟩) ?_
      rotate_left 1
      · intro w; go_simp; try exact rfl
      refine wpAny_take (i := 1) (v := ?_) rfl (by kernel_rfl) (by kernel_rfl) (by kernel_rfl) (fun _ _ _ h => h) (Or.inl ⟨by kernel_rfl, ?_⟩) ?_
      rotate_left 1
      · intro w; go_simp; try exact rfl
      refine wpAny_take (i := 2) (v := ?_) rfl (by kernel_rfl) (by kernel_rfl) (by kernel_rfl) (fun _ _ _ h => h) (Or.inl ⟨by kernel_rfl, ?_⟩) ?_
      rotate_left 1
      · intro w; go_simp; try exact rfl
      refine wpAny_take (i := 3) (v := ?_) rfl (by kernel_rfl) (by kernel_rfl) (by kernel_rfl) (fun _ _ _ h => h) (Or.inl ⟨by kernel_rfl, ?_⟩) ?_
      rotate_left 1
      · intro w; go_simp; try exact rfl
      refine wpAny_take (i := 4) (v := ?_) rfl (by kernel_rfl) (by kernel_rfl) (by kernel_rfl) (fun _ _ _ h => h) (Or.inl ⟨by kernel_rfl, ?_⟩) ?_
      rotate_left 1
      · intro w; go_simp; try exact rfl
      refine wpAny_take (i := 5) (v := ?_) rfl (by kernel_rfl) (by kernel_rfl) (by kernel_rfl) (fun _ _ _ h => h) (Or.inl ⟨by kernel_rfl, ?_⟩) ?_
      rotate_left 1
      · intro w; go_simp; try exact rfl
      refine wpAny_ready (rs := [6]) (by kernel_rfl) (by simp) ?_
      refine AllReady.cons rfl (fun K hK => ?_) AllReady.nil
      go_simp
      refine hK _ _ ?_
      clear hK K
      refine wpAny_ready (rs := [7]) (by kernel_rfl) (by simp) ?_
      refine AllReady.cons rfl (fun K hK => ?_) AllReady.nil
      go_simp
      refine Hcat.out.mono ?_
      rintro e w6 ⟨S6, c6, rfl, hown6, hb6⟩
      have hbel6 := hbelc.trans (hb6.mono hbelc.size)
      rw [← byteCells_append] at hown6
      have hby6 := By.of_own hown6
      have hby4' := (Hby4.out.belowN Hb5.out (Nat.le_refl _)).belowN (Hbz.out.trans (hb6.mono Hbz.out.size)) Hb5.out.size
      have Hby6 := Lib.hid hby6
      have Hby4' := Lib.hid hby4'
      clear hown6 hb6 hby6 hby4'
      go_simp
      refine hK _ _ ?_
      clear hK K
      refine wpAny_ready (rs := [8]) (by kernel_rfl) (by simp) ?_
      refine AllReady.cons rfl (fun K hK => ?_) AllReady.nil
      go_simp
      have hq := Equal_bytes A4 S6 (a.length + b.length) c4 (n + n') c6 _ _ (a ++ b) (a ++ b) w6 Hby4'.out Hby6.out hlm
      rw [hll] at hq
      refine hq.mono ?_
      clear hq
      rintro e w7 ⟨rfl, q7, rfl⟩
      have hbel7 := belN hbel6 q7
      go_simp
      refine hK _ _ ?_
      clear hK K
      refine wpAny_take (i := 9) (v := ?_) rfl (by kernel_rfl) (by kernel_rfl) (by kernel_rfl) (fun _ _ _ h => h) (Or.inl ⟨by kernel_rfl, ?_⟩) ?_
      rotate_left 1
      · intro w; go_simp; try exact rfl
      refine wpAny_take (i := 10) (v := ?_) rfl (by kernel_rfl) (by kernel_rfl) (by kernel_rfl) (fun _ _ _ h => h) (Or.inl ⟨by kernel_rfl, ?_⟩) ?_
      rotate_left 1
      · intro w; go_simp; try exact rfl
      refine wpAny_take (i := 11) (v := ?_) rfl (by kernel_rfl) (by kernel_rfl) (by kernel_rfl) (fun _ _ _ h => h) (Or.inl ⟨by kernel_rfl, ?_⟩) ?_
      rotate_left 1
      · intro w; go_simp; try exact rfl
      refine wpAny_take (i := 12) (v := ?_) rfl (by kernel_rfl) (by kernel_rfl) (by kernel_rfl) (fun _ _ _ h => h) (Or.inl ⟨by kernel_rfl, ?_⟩) ?_
      rotate_left 1
      · intro w; go_simp; try exact rfl
      refine wpAny_take (i := 13) (v := ?_) rfl (by kernel_rfl) (by kernel_rfl) (by kernel_rfl) (fun _ _ _ h => h) (Or.inl ⟨by kernel_rfl, ?_⟩) ?_
      rotate_left 1
      · intro w; go_simp; try exact rfl
      refine wpAny_take (i := 14) (v := undef) rfl (by kernel_rfl) (by kernel_rfl) (by kernel_rfl) (fun _ _ _ h => h) (Or.inr ⟨by kernel_rfl, rfl⟩) ?_
      refine wpAny_take (i := 15) (v := undef) rfl (by kernel_rfl) (by kernel_rfl) (by kernel_rfl) (fun _ _ _ h => h) (Or.inr ⟨by kernel_rfl, rfl⟩) ?_
      refine wpAny_take (i := 16) (v := undef) rfl (by kernel_rfl) (by kernel_rfl) (by kernel_rfl) (fun _ _ _ h => h) (Or.inr ⟨by kernel_rfl, rfl⟩) ?_
      refine wpAny_take (i := 17) (v := undef) rfl (by kernel_rfl) (by kernel_rfl) (by kernel_rfl) (fun _ _ _ h => h) (Or.inr ⟨by kernel_rfl, rfl⟩) ?_
      refine wpAny_take (i := 18) (v := undef) rfl (by kernel_rfl) (by kernel_rfl) (by kernel_rfl) (fun _ _ _ h => h) (Or.inr ⟨by kernel_rfl, rfl⟩) ?_
      refine wpAny_take (i := 19) (v := ?_) rfl (by kernel_rfl) (by kernel_rfl) (by kernel_rfl) (fun _ _ _ h => h) (Or.inl ⟨by kernel_rfl, ?_⟩) ?_
      rotate_left 1
      · intro w; go_simp; try exact rfl
      refine wpAny_take (i := 20) (v := ?_) rfl (by kernel_rfl) (by kernel_rfl) (by kernel_rfl) (fun _ _ _ h => h) (Or.inl ⟨by kernel_rfl, ?_⟩) ?_
      rotate_left 1
      · intro w; go_simp; try exact rfl
      refine wpAny_take (i := 21) (v := ?_) rfl (by kernel_rfl) (by kernel_rfl) (by kernel_rfl) (fun _ _ _ h => h) (Or.inl ⟨by kernel_rfl, ?_⟩) ?_
      rotate_left 1
      · intro w; go_simp; try exact rfl
      refine wpAny_done (by kernel_rfl) ?_ _
      go_wp2_with fail
      go_ret
      refine ⟨?_, hbel7⟩
      first | (simp; done) | (go_simp; done)
  · exact quoteParts_else A n c a A' n' c' b w hb hn hm hb' hn' hm' hs
end Go.Proofs.YtoolfhjlhhcbgaaDoor

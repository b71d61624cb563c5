import Derived.Test.YtdhmmepcnladcaaDoorHd7
import Derived.Test.YtdhmmepcnladcaaDoorCatbyte
namespace Go.Proofs.YtdhmmepcnladcaaDoor
open Go.RowKit

theorem upto_u8 (w : World) (A : Option Addr) (n c : Nat) (ki : IntKind) (k : Int) (h0 : 0 ≤ k) (h1 : k ≤ n) (hc : n ≤ c) :
    (Instr.slice 22 (.slice A n c) none (some (.int ki k)) none).run Tryd.prog w = .ok (.slice (cutA A c 0 1) k.toNat c) w :=
  run_upto w _ _ 1 Tryd.underlying22 (Tryd.sizeOf5 w) A n c ki k h0 h1 hc
attribute [local go_sem high] upto_u8
theorem By.head {w : World} {B n c : Nat} {A : Option Addr} {l : List UInt8} (h : By w B A n l) (hc : n ≤ c) {k : Nat} (hk : k ≤ n) : By w B (cutA A c 0 1) k (l.take k) := by
  have h0 := h.cut (k := 0) (c := c) (by omega) hc
  rw [List.drop_zero, Nat.sub_zero] at h0
  exact h0.upto hk
def TrueP (w : World) (e : Ending) (w' : World) : Prop := e = .returned (.bool true) ∧ Below w.heap.size w w'
/-- A text read as fields. -/
theorem parse_str (W : World) (t : List UInt8) (ht : t.length ≤ 40000) : ∃ A c W', (convert 9 22 (str t)).run Tryd.prog W = .ok (.slice A t.length c) W' ∧ Below W.heap.size W W' ∧ Calls Tryd.prog 37 #[.slice A t.length c] W' (ParseRes (parseF t) W') := by
  obtain ⟨A, c, W', hc, hby, hcl, hb, _⟩ := run_toBytes (P := Tryd.prog) W 9 22 5 t Tryd.underlying9 Tryd.underlying22 Tryd.underlying5
  exact ⟨A, c, W', hc, hb, Parse_fields t A t.length c W' hby hcl (by unfold maxLen; omega)⟩
set_option maxRecDepth 100000 in
set_option maxHeartbeats 4000000 in
theorem HeaderBack_walk (l : List FieldD) (A0 : Option Addr) (n0 c0 : Nat) (b : List UInt8) (A1 : Option Addr) (n1 c1 : Nat) (more : List UInt8) (A2 : Option Addr) (n2 c2 : Nat) (w : World)
    (h0 : Sl w w.heap.size 2 A0 n0 (fieldC l)) (hs0 : smallF l) (hn0 : n0 ≤ c0) (hm0 : c0 ≤ maxLen) (h1 : By w w.heap.size A1 n1 b) (hn1 : n1 ≤ c1) (hm1 : c1 ≤ maxLen) (h2 : By w w.heap.size A2 n2 more) (hn2 : n2 ≤ c2) (hm2 : c2 ≤ maxLen) :
    Calls Tryd.prog 5 #[.slice A0 n0 c0, .slice A1 n1 c1, .slice A2 n2 c2] w (TrueP w) := by
  have hl0 : l.length = n0 := by have := h0.1; rw [fieldC_len] at this; omega
  have hl1 := h1.len
  have hl2 := h2.len
  have hpr := FPrint_any l A0 n0 c0 w.heap.size w h0 (Nat.le_refl _) hs0 (by omega)
  have hP1 := fun W (hb : Below w.heap.size w W) => Parse_fields b A1 n1 c1 W ((h1.below hb).more hb.size) hn1 (by omega)
  rcases hpb : parseF b with ⟨l1, k, e1⟩
  rw [hpb] at hP1
  have hback : e1 = 0 → _ := fun h => @parse_back b l1 k (by rw [hpb, h])
  have HP1 := Lib.hid hP1
  have H0 := Lib.hid h0
  have H1 := Lib.hid h1
  have H2 := Lib.hid h2
  have Hl0 := Lib.hid hl0
  have Hl1 := Lib.hid hl1
  have Hl2 := Lib.hid hl2
  have HB := Lib.hid hback
  unfold maxLen at hm0 hm1 hm2
  clear hP1 h0 h1 h2 hl0 hl1 hl2 hpb hback
  have hpt := @parse_text l
  have htl := @text_len l
  unfold PrintRes printF at hpr
  by_cases hck : chkF l = 0
  case' pos =>
    simp only [if_pos hck] at hpr
    have hpt := hpt hck
    have htl := htl hck
    have hl20 : n0 ≤ 20 := by rw [← Hl0.out]; exact (chk_len hck).1
    generalize textF l = t at hpr hpt htl
    have hkey := fun W => parse_str W t (by omega)
    rw [hpt] at hkey
    have Hkey := Lib.hid hkey
    have Hpr := Lib.hid hpr
    have hll : (l == l) = true := by simp
    clear hpr hpt hkey hck
    go_enter Tryd.func5, Tryd.ntmps5
    go_wp2_with fail
    refine Hpr.out.mono ?_
    rintro e w1 ⟨rfl, hb1⟩
    obtain ⟨A3, c3, w2, hconv, hb2, hcl⟩ := Hkey.out w1
    have Hcl := Lib.hid hcl
    have hb12 := hb1.trans (hb2.mono hb1.size)
    clear hcl Hkey Hpr hb1 hb2
    go_wp2_with fail
    refine Hcl.out.mono ?_
    unfold ParseRes
    simp only [Hl0.out]
    rintro e w3 ⟨S3, d3, rfl, hS3, _, hd3, _, hb⟩
    have hbA := hb12.trans (hb.mono hb12.size)
    have heq := Equal_fields S3 A0 n0 d3 n0 c0 w3.heap.size w.heap.size l l w3 hS3 (H0.out.below hbA) (by omega) (by omega)
    rw [hll] at heq
    have Heq := Lib.hid heq
    clear heq hS3 hb hb12 Hcl hconv
    go_wp2_with fail
    refine Heq.out.mono ?_
    rintro e w4 ⟨rfl, q4, rfl⟩
    have hbA := belN hbA q4
    generalize w3.drewN q4 = wA at hbA ⊢
    clear Heq
    go_wp2_with fail
  case' neg =>
    simp only [if_neg hck] at hpr
    generalize chkF l = kk at hpr hck
    have hkk : ((kk : Int) == 0) = false := by simp; omega
    have Hpr := Lib.hid hpr
    clear hpr hpt htl
    go_enter Tryd.func5, Tryd.ntmps5
    go_wp2_with fail
    refine Hpr.out.mono ?_
    rintro e wA ⟨rfl, hbA⟩
    clear Hpr
    go_wp2_with fail
  all_goals
    refine (HP1.out wA hbA).mono ?_
    rintro e wB ⟨S1, d1, rfl, hS1, hsm1, hd1, hd1m, hb⟩
    have hbB := hbA.trans (hb.mono hbA.size)
    have HS1 := Lib.hid hS1
    clear hb hS1
    simp only at hd1
    by_cases he1 : e1 = 0
    · subst he1
      obtain ⟨hck1, hkb, hb40, hmore⟩ := HB.out rfl
      have hmo := hmore (more.take (min n2 1000))
      have hpt1 := parse_text hck1
      have htl1 := text_len hck1
      have hk1 : k ≤ n1 := by rw [← Hl1.out]; exact hkb
      have hn40 : n1 ≤ 40000 := by rw [← Hl1.out]; exact hb40
      obtain ⟨m1, hm1d⟩ : ∃ m1, m1 = l1.length := ⟨_, rfl⟩
      have hm120 : m1 ≤ 20 := by rw [hm1d]; exact (chk_len hck1).1
      rw [← hm1d] at hd1 HS1 ⊢
      have Hm1 := Lib.hid hm1d
      have Hck1 := Lib.hid hck1
      have Hsm1 := Lib.hid hsm1
      clear HB hmore hck1 hm1d hsm1
      go_wp2_with fail
      refine (headed_any _).mono ?_
      rintro e wC ⟨rfl, hb⟩
      have hbC := hbB.trans (hb.mono hbB.size)
      have HS1 := Lib.hid ((HS1.out.below hb).more hb.size)
      clear hb hbB
      obtain ⟨mm, hmm⟩ : ∃ mm, mm = min n2 1000 := ⟨_, rfl⟩
      have hmi : min (n2 : Int) 1000 = (mm : Int) := by omega
      have hmm2 : mm ≤ n2 ∧ mm ≤ 1000 := by omega
      obtain ⟨hmm2, hmm3⟩ := hmm2
      rw [← hmm] at hmo
      clear hmm
      have hX := (H1.out.below hbC).head hn1 hk1
      have hY := (H2.out.below hbC).head hn2 hmm2
      have hbA5 : Below wC.heap.size wC (wC.drew.alloc (.cells #[.slice (cutA A1 c1 0 1) k c1, .slice (cutA A2 c2 0 1) mm c2] 22)) := (Below.refl wC.heap.size wC).drew.alloc (Nat.le_refl _) _
      have hsz5 : (wC.drew.alloc (.cells #[.slice (cutA A1 c1 0 1) k c1, .slice (cutA A2 c2 0 1) mm c2] 22)).heap.size = wC.heap.size + 1 := by simp
      have hcat := Concat_byte (some ⟨wC.heap.size, 0, none⟩) (cutA A1 c1 0 1) (cutA A2 c2 0 1) 2 k c1 mm c2 (Lib.byteCells (b.take k)) (Lib.byteCells (more.take mm)) (wC.drew.alloc (.cells #[.slice (cutA A1 c1 0 1) k c1, .slice (cutA A2 c2 0 1) mm c2] 22))
        (by rw [hsz5]; exact Sl.row wC.drew 22 1 2 [.slice (cutA A1 c1 0 1) k c1, .slice (cutA A2 c2 0 1) mm c2] rfl) ((Sl.belowN hX hbA5 hbC.size).more (Nat.le_trans hbC.size hbA5.size)) ((Sl.belowN hY hbA5 hbC.size).more (Nat.le_trans hbC.size hbA5.size)) (oneCell_byteCells _) (oneCell_byteCells _) (by omega)
      have Hcat := Lib.hid hcat
      have htl2 : (b.take k ++ more.take mm).length = k + mm := by rw [List.length_append, List.length_take, List.length_take, Hl1.out, Hl2.out]; omega
      clear hX hY hcat hsz5
      by_cases htot : k + mm ≤ 40000
      · have hpc : ∀ W S c', By W W.heap.size S (k + mm) (b.take k ++ more.take mm) → k + mm ≤ c' → Calls Tryd.prog 37 #[.slice S (k + mm) c'] W fun e w' => ∃ S c, e = .returned (.tuple #[.slice S m1 c, .int .i64 (k : Nat), .int .i64 0]) ∧ Sl w' w'.heap.size 2 S m1 (fieldC l1) ∧ m1 ≤ c ∧ Below W.heap.size W w' := by
          intro W S c' hby hcc
          have := Parse_fields (b.take k ++ more.take mm) S (k + mm) c' W hby hcc (by unfold maxLen; omega)
          rw [hmo (by omega)] at this
          exact this.mono fun e w' ⟨S, c, g1, g2, _, g4, _, g6⟩ => ⟨S, c, by rw [g1, Hm1.out]; rfl, by rw [Hm1.out]; exact g2, by rw [Hm1.out]; exact g4, g6⟩
        have HPc := Lib.hid hpc
        have hkk2 : ((k : Int) == (k : Int)) = true := by simp
        clear hpc hmo htl2
        go_wp2_with fail
        go_region_with (first
          | (go_at_call 38; refine Hcat.out.mono ?_; rintro e w5 ⟨S5, c5, rfl, hown5, hb5⟩; rw [← byteCells_append] at hown5; have hc5 := own_cap hown5; have hby5 := By.of_own hown5; have hb5w := hbA5.trans (hb5.mono hbA5.size))
          | (go_at_call 37; refine (HPc.out _ _ _ hby5 hc5).mono ?_; rintro e w6 ⟨S6, d6, rfl, hS6, hd6, hb6⟩; have hb6w := hb5w.trans (hb6.mono hb5w.size)))
        all_goals have HS6 := Lib.hid hS6
        -- Print, Parse once more
        have hpr2 := fun W (hb : Below wC.heap.size wC W) => FPrint_any l1 S1 m1 d1 W.heap.size W ((HS1.out.below hb).more hb.size) (Nat.le_refl _) Hsm1.out (by unfold maxLen; omega)
        unfold PrintRes printF at hpr2
        simp only [if_pos Hck1.out] at hpr2
        have hkey2 := fun W => parse_str W (textF l1) (by omega)
        rw [hpt1] at hkey2
        obtain ⟨t1, ht1⟩ : ∃ t1, t1 = textF l1 := ⟨_, rfl⟩
        rw [← ht1] at hpr2 hkey2
        have Hpr2 := Lib.hid hpr2
        have Hkey2 := Lib.hid hkey2
        have hll1 : (l1 == l1) = true := by simp
        have hzz : ((t1.length : Int) == (t1.length : Int)) = true := by simp
        have ht40 : t1.length ≤ 40000 := by rw [ht1]; omega
        clear hpr2 hkey2 hpt1 htl1 ht1
        all_goals
          go_wp2_with fail
          refine (Hpr2.out _ hb6w).mono ?_
          rintro e w7 ⟨rfl, hb7⟩
          have hb7w := hb6w.trans (hb7.mono hb6w.size)
          obtain ⟨A8, c8, w8, hconv8, hb8, hcl8⟩ := Hkey2.out w7
          have Hcl8 := Lib.hid hcl8
          have hb8w := hb7w.trans (hb8.mono hb7w.size)
          clear hcl8
          go_wp2_with fail
          refine Hcl8.out.mono ?_
          unfold ParseRes
          simp only [← Hm1.out]
          rintro e w9 ⟨S9, d9, rfl, hS9, _, hd9, _, hb9⟩
          have hb9w := hb8w.trans (hb9.mono hb8w.size)
          have hb69 := (hb7.trans (hb8.mono hb7.size)).trans (hb9.mono (hb7.trans (hb8.mono hb7.size)).size)
          have heq1 := Equal_fields S6 S1 m1 d6 m1 d1 _ _ l1 l1 w9 ((HS6.out.below hb69).more hb69.size) ((HS1.out.below hb9w).more hb9w.size) (by omega) (by omega)
          rw [hll1] at heq1
          have Heq1 := Lib.hid heq1
          have HS9 := Lib.hid hS9
          clear heq1 hconv8 hS9
          go_wp2_with fail
          refine Heq1.out.mono ?_
          rintro e wX ⟨rfl, qX, rfl⟩
          have hbX := belN hb9w qX
          have heq2 := Equal_fields S9 S1 m1 d9 m1 d1 _ _ l1 l1 (w9.drewN qX) (HS9.out.drewN qX) ((HS1.out.below hbX).more hbX.size) (by omega) (by omega)
          rw [hll1] at heq2
          have Heq2 := Lib.hid heq2
          clear heq2
          go_wp2_with fail
          refine Heq2.out.mono ?_
          rintro e wY ⟨rfl, qY, rfl⟩
          go_wp2_with fail
          go_ret
          exact ⟨rfl, hbC.trans ((belN hb9w (qX + qY)).mono hbC.size)⟩
      · have hpc : ∀ W S c', By W W.heap.size S (k + mm) (b.take k ++ more.take mm) → k + mm ≤ c' → Calls Tryd.prog 37 #[.slice S (k + mm) c'] W fun e w' => ∃ S c, e = .returned (.tuple #[.slice S 0 c, .int .i64 0, .int .i64 2]) ∧ Below W.heap.size W w' := by
          intro W S c' hby hcc
          have := Parse_fields (b.take k ++ more.take mm) S (k + mm) c' W hby hcc (by unfold maxLen; omega)
          rw [parse_many (by omega)] at this
          exact this.mono fun e w' ⟨S, c, g1, _, _, _, _, g6⟩ => ⟨S, c, g1, g6⟩
        have HPc := Lib.hid hpc
        clear hpc hmo htl2
        go_wp2_with fail
        go_region_with (first
          | (go_at_call 38; refine Hcat.out.mono ?_; rintro e w5 ⟨S5, c5, rfl, hown5, hb5⟩; rw [← byteCells_append] at hown5; have hc5 := own_cap hown5; have hby5 := By.of_own hown5; have hb5w := hbA5.trans (hb5.mono hbA5.size))
          | (go_at_call 37; refine (HPc.out _ _ _ hby5 hc5).mono ?_; rintro e w6 ⟨S6, d6, rfl, hb6⟩; have hb6w := hb5w.trans (hb6.mono hb5w.size)))
        -- Print, Parse once more
        have hpr2 := fun W (hb : Below wC.heap.size wC W) => FPrint_any l1 S1 m1 d1 W.heap.size W ((HS1.out.below hb).more hb.size) (Nat.le_refl _) Hsm1.out (by unfold maxLen; omega)
        unfold PrintRes printF at hpr2
        simp only [if_pos Hck1.out] at hpr2
        have hkey2 := fun W => parse_str W (textF l1) (by omega)
        rw [hpt1] at hkey2
        obtain ⟨t1, ht1⟩ : ∃ t1, t1 = textF l1 := ⟨_, rfl⟩
        rw [← ht1] at hpr2 hkey2
        have Hpr2 := Lib.hid hpr2
        have Hkey2 := Lib.hid hkey2
        have hll1 : (l1 == l1) = true := by simp
        have hzz : ((t1.length : Int) == (t1.length : Int)) = true := by simp
        have ht40 : t1.length ≤ 40000 := by rw [ht1]; omega
        clear hpr2 hkey2 hpt1 htl1 ht1
        all_goals
          go_wp2_with fail
          refine (Hpr2.out _ hb6w).mono ?_
          rintro e w7 ⟨rfl, hb7⟩
          have hb7w := hb6w.trans (hb7.mono hb6w.size)
          obtain ⟨A8, c8, w8, hconv8, hb8, hcl8⟩ := Hkey2.out w7
          have Hcl8 := Lib.hid hcl8
          have hb8w := hb7w.trans (hb8.mono hb7w.size)
          clear hcl8
          go_wp2_with fail
          refine Hcl8.out.mono ?_
          unfold ParseRes
          simp only [← Hm1.out]
          rintro e w9 ⟨S9, d9, rfl, hS9, _, hd9, _, hb9⟩
          have hb9w := hb8w.trans (hb9.mono hb8w.size)
          have heq2 := Equal_fields S9 S1 m1 d9 m1 d1 _ _ l1 l1 w9 hS9 ((HS1.out.below hb9w).more hb9w.size) (by omega) (by omega)
          rw [hll1] at heq2
          have Heq2 := Lib.hid heq2
          clear heq2 hconv8 hS9
          go_wp2_with fail
          refine Heq2.out.mono ?_
          rintro e wY ⟨rfl, qY, rfl⟩
          go_wp2_with fail
          go_ret
          exact ⟨rfl, hbC.trans ((belN hb9w qY).mono hbC.size)⟩
    · have he1b : ((e1 : Int) != 0) = true := by simp; omega
      clear HB
      go_wp2_with fail
      refine (headed_any _).mono ?_
      rintro e wC ⟨rfl, hb⟩
      have hbC := hbB.trans (hb.mono hbB.size)
      clear hb
      go_wp2_with fail
      refine (headed_any _).mono ?_
      rintro e wD ⟨rfl, hb⟩
      have hbD := hbC.trans (hb.mono hbC.size)
      go_wp2_with fail
      go_ret
      exact ⟨rfl, hbD⟩
end Go.Proofs.YtdhmmepcnladcaaDoor

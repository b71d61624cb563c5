import Derived.Test.YtinfjdfhkfhgjaaGreatDoorU7
import Derived.Test.YtinfjdfhkfhgjaaGreatDoorU2
import Derived.Test.YtinfjdfhkfhgjaaGreatDoorU3
import Derived.Test.YtinfjdfhkfhgjaaGreatDoorU1
import Derived.OrdersHeld
import Derived.Deep.RegionHeld
import Derived.Deep.CutBlock
set_option maxRecDepth 100000
set_option maxHeartbeats 40000000
namespace Go.Proofs.YtinfjdfhkfhgjaaGreatDoor
open Go.RowKit
theorem okP_tok (x : Nat) (hx : x < 256) : okP 33 126 tspec x = !badTok x := by
 unfold okP badTok idxB
 rw [show (x : Int).toNat.toUInt8 = UInt8.ofNat x from rfl]
 congr 3
 simp; omega
theorem all_not (l : List UInt8) (p q : Nat → Bool) (h : ∀ x, x < 256 → p x = !q x) : l.all (fun b => p b.toNat) = !l.any (fun b => q b.toNat) := by
 induction l with
 | nil => rfl
 | cons a l ih => rw [List.all_cons, List.any_cons, ih, h _ a.toNat_lt]; simp
theorem IsToken_any (l : List UInt8) (w : World) (hl : l.length ≤ maxLen) : Calls Tryz.prog 27 #[str l] w fun e w' => e = .returned (.bool (tokB l)) ∧ w' = w := by
 have hb := betweenP_any l 33 126 ⟨#[40, 41, 60, 62, 64, 44, 59, 58, 92, 34, 47, 91, 93, 63, 61]⟩ w hl (by omega) (by omega)
 rw [show (ByteArray.mk #[40, 41, 60, 62, 64, 44, 59, 58, 92, 34, 47, 91, 93, 63, 61]).data.toList = tspec from rfl, all_not l (okP 33 126 tspec) badTok okP_tok] at hb
 have ht : tokB l = (decide (1 ≤ l.length) && decide (l.length ≤ 30) && !l.any (fun b => badTok b.toNat)) := by
  unfold tokB
  cases l <;> simp
 rw [ht]
 generalize l.any (fun b => badTok b.toNat) = r at hb ⊢
 have Hb := Lib.hid hb
 unfold maxLen at hl
 clear hb ht
 go_enter Tryz.func27, Tryz.ntmps27
 go_wp2_with fail
 case' _ =>
  refine Hb.out.mono ?_
  rintro e w1 ⟨rfl, rfl⟩
  go_wp2_with fail
  go_ret
  have e1 : decide (1 ≤ l.length) = true := by simp; omega
  have e2 : decide (l.length ≤ 30) = true := by simp; omega
  exact ⟨by rw [e1, e2]; simp, rfl⟩
 case' _ =>
  go_ret
  have e2 : decide (l.length ≤ 30) = false := by simp; omega
  exact ⟨by rw [e2]; simp, rfl⟩
 go_ret
 have e1 : decide (1 ≤ l.length) = false := by rw [decide_eq_false_iff_not]; omega
 exact ⟨by rw [e1]; simp, rfl⟩
theorem okP_word (x : Nat) (hx : x < 256) : okP 33 126 [34, 60, 62] x = !badWord x := by
 revert hx; revert x; decide +kernel
theorem IsWord_any (l : List UInt8) (w : World) (hl : l.length ≤ maxLen) : Calls Tryz.prog 28 #[str l] w fun e w' => e = .returned (.bool (wordB l)) ∧ w' = w := by
 have hb := betweenP_any l 33 126 ⟨#[34, 60, 62]⟩ w hl (by omega) (by omega)
 rw [show (ByteArray.mk #[34, 60, 62]).data.toList = [34, 60, 62] from rfl, all_not l (okP 33 126 [34, 60, 62]) badWord okP_word] at hb
 unfold wordB
 generalize l.any (fun b => badWord b.toNat) = r at hb ⊢
 have Hb := Lib.hid hb
 unfold maxLen at hl
 clear hb
 go_enter Tryz.func28, Tryz.ntmps28
 go_wp2_with fail
 case' _ =>
  refine Hb.out.mono ?_
  rintro e w1 ⟨rfl, rfl⟩
  go_wp2_with fail
  go_ret
  have e2 : decide (l.length ≤ 120) = true := by simp; omega
  exact ⟨by rw [e2]; simp, rfl⟩
 go_ret
 have e1 : decide (l.length ≤ 120) = false := by rw [decide_eq_false_iff_not]; omega
 exact ⟨by rw [e1]; simp, rfl⟩
theorem okP_val (x : Nat) (hx : x < 256) : okP 32 126 [] x = !badVal x := by
 revert hx; revert x; decide +kernel
theorem pre_one (l : List UInt8) (c : UInt8) : Lib.hasPrefix l [c] = (l.head? == some c) := by
 cases l with
 | nil => rfl
 | cons a l =>
  show (c == a && true) = (some a == some c)
  rw [Bool.eq_iff_iff]
  simp only [Bool.and_true, beq_iff_eq, Option.some.injEq]
  exact eq_comm
theorem suf_one (l : List UInt8) (c : UInt8) : Lib.hasSuffix l [c] = (l.getLast? == some c) := by
 have h : Lib.hasSuffix l [c] = Lib.hasPrefix l.reverse [c] := rfl
 rw [h, pre_one, List.head?_reverse]
theorem valB_doc (l : List UInt8) : valB l = (decide (l.length ≤ 900) && (!(l.any fun b => badVal b.toNat) && (!(Lib.hasPrefix l [32]) && !(Lib.hasSuffix l [32])))) := by
 rw [pre_one, suf_one]
 cases hv : valB l
 · symm
   cases h1 : decide (l.length ≤ 900)
   · rfl
   · cases h2 : (l.any fun b => badVal b.toNat)
     · rw [Bool.true_and, Bool.not_false, Bool.true_and]
       by_cases h3 : l.head? = some 32
       · simp [h3]
       · by_cases h4 : l.getLast? = some 32
         · simp [h4]
         · exfalso
           have h := trim_pad [] l [] [32] (by simp) (by simp) (fun x hx => by
            have : x ≠ 32 := fun e => h3 (by rw [hx, e])
            simp [this]) (fun x hx => by
            have : x ≠ 32 := fun e => h4 (by rw [hx, e])
            simp [this])
           rw [List.nil_append, List.append_nil] at h
           unfold valB at hv
           rw [h, h1, h2] at hv
           simp at hv
     · rfl
 · obtain ⟨h1, _, _⟩ := val_mem hv
   obtain ⟨h3, h4⟩ := val_ends hv
   have h2 : (l.any fun b => badVal b.toNat) = false := by
    unfold valB at hv
    simp only [Bool.and_eq_true, Bool.not_eq_true'] at hv
    exact hv.2
   have e3 : (l.head? == some 32) = false := by
    cases hh : l.head? with
    | none => rfl
    | some x => have := (h3 x hh).1; simp [this]
   have e4 : (l.getLast? == some 32) = false := by
    cases hh : l.getLast? with
    | none => rfl
    | some x => have := (h4 x hh).1; simp [this]
   rw [h2, e3, e4, decide_eq_true h1]
   rfl
theorem RIsValue_any (l : List UInt8) (w : World) (hl : l.length ≤ maxLen) : Calls Tryz.prog 85 #[str l] w fun e w' => e = .returned (.bool (valB l)) ∧ w' = w := by
 have hb := betweenP_any l 32 126 ⟨#[]⟩ w hl (by omega) (by omega)
 rw [show (ByteArray.mk #[]).data.toList = [] from rfl, all_not l (okP 32 126 []) badVal okP_val] at hb
 have hp := HasPrefix_any l [32] w
 have hs := HasSuffix_any l [32] w hl
 obtain ⟨R, hR⟩ : ∃ R, R = valB l := ⟨_, rfl⟩
 rw [← hR]
 rw [valB_doc] at hR
 generalize l.any (fun b => badVal b.toNat) = r at hb hR
 generalize Lib.hasPrefix l [32] = p at hp hR
 generalize Lib.hasSuffix l [32] = s at hs hR
 have Hb := Lib.hid hb
 have Hp := Lib.hid hp
 have Hs := Lib.hid hs
 have HR := Lib.hid hR
 unfold maxLen at hl
 clear hb hp hs hR
 by_cases h9 : l.length ≤ 900
 · have d9 : decide ((l.length : Int) ≤ 900) = true := by simp; omega
   have e9 : decide (l.length ≤ 900) = true := by simp; omega
   have HR2 := HR.out
   rw [e9, Bool.true_and] at HR2
   have HR := Lib.hid HR2
   clear HR2
   cases r with
   | true =>
    go_enter Tryz.func85, Tryz.ntmps85
    go_wp2_with fail
    refine Hb.out.mono ?_
    rintro e w1 ⟨rfl, rfl⟩
    go_wp2_with fail
    go_ret
    exact ⟨by rw [HR.out]; rfl, rfl⟩
   | false =>
    cases p with
    | true =>
     go_enter Tryz.func85, Tryz.ntmps85
     go_wp2_with fail
     refine Hb.out.mono ?_
     rintro e w1 ⟨rfl, rfl⟩
     go_wp2_with fail
     refine Hp.out.mono ?_
     rintro e w1 ⟨rfl, rfl⟩
     go_wp2_with fail
     go_ret
     exact ⟨by rw [HR.out]; rfl, rfl⟩
    | false =>
     go_enter Tryz.func85, Tryz.ntmps85
     go_wp2_with fail
     refine Hb.out.mono ?_
     rintro e w1 ⟨rfl, rfl⟩
     go_wp2_with fail
     refine Hp.out.mono ?_
     rintro e w1 ⟨rfl, rfl⟩
     go_wp2_with fail
     refine Hs.out.mono ?_
     rintro e w1 ⟨rfl, rfl⟩
     go_wp2_with fail
     go_ret
     exact ⟨by rw [HR.out]; cases s <;> rfl, rfl⟩
 · have d9 : decide ((l.length : Int) ≤ 900) = false := by simp; omega
   have e9 : decide (l.length ≤ 900) = false := by simp; omega
   have HR2 := HR.out
   rw [e9, Bool.false_and] at HR2
   have HR := Lib.hid HR2
   clear HR2
   go_enter Tryz.func85, Tryz.ntmps85
   go_wp2_with fail
   go_ret
   exact ⟨by rw [HR.out]; rfl, rfl⟩
theorem indexByte_bd5 (l : List UInt8) (c : UInt8) : -1 ≤ Lib.indexByte l c ∧ Lib.indexByte l c < l.length := by
 induction l with
 | nil => rw [Lib.indexByte]; simp
 | cons b l ih =>
  rw [Lib.indexByte, List.length_cons]
  split
  · omega
  · split <;> omega
theorem sp_step {s : List UInt8} {j : Nat} (hj : j < s.length) (h : nth s j = 32) : Lib.trimLeftS (s.drop j) [32] = Lib.trimLeftS (s.drop (j + 1)) [32] := by
 rw [List.drop_eq_getElem_cons hj]
 have h2 : s[j] = 32 := UInt8.toNat_inj.1 (by rw [← nth_of s j hj]; exact h)
 unfold Lib.trimLeftS
 rw [h2, List.dropWhile_cons_of_pos (by decide)]
theorem sp_stop {s : List UInt8} {j : Nat} (hj : j < s.length) (h : nth s j ≠ 32) : Lib.trimLeftS (s.drop j) [32] = s.drop j := by
 rw [List.drop_eq_getElem_cons hj]
 have h2 : s[j] ≠ 32 := fun e => h (by rw [nth_of s j hj, e]; rfl)
 unfold Lib.trimLeftS
 rw [List.dropWhile_cons_of_neg (by simpa using h2)]
theorem sp_end {s : List UInt8} {j : Nat} (hj : s.length ≤ j) : Lib.trimLeftS (s.drop j) [32] = s.drop j := by
 rw [List.drop_of_length_le hj]; rfl
theorem trimL_drop (s : List UInt8) (j : Nat) : s.drop (s.length - (Lib.trimLeftS (s.drop j) [32]).length) = Lib.trimLeftS (s.drop j) [32] := by
 have hsuf : Lib.trimLeftS (s.drop j) [32] <:+ s := (List.dropWhile_suffix _).trans (List.drop_suffix _ _)
 obtain ⟨p, hp⟩ := hsuf
 generalize Lib.trimLeftS (s.drop j) [32] = T at hp ⊢
 have hl := congrArg List.length hp
 rw [List.length_append] at hl
 rw [show s.length - T.length = p.length from by omega, ← hp, List.drop_left]
theorem idx_split (c : UInt8) : ∀ (l : List UInt8) (k : Nat), Lib.indexByte l c = k → k < l.length ∧ l = l.take k ++ c :: l.drop (k + 1) ∧ ∀ b ∈ l.take k, b ≠ c
 | [], k, h => by rw [Lib.indexByte] at h; omega
 | b :: l, k, h => by
  rw [Lib.indexByte] at h
  by_cases hb : (b == c) = true
  · rw [if_pos hb] at h
    obtain rfl : k = 0 := by omega
    have : b = c := by simpa using hb
    subst this
    exact ⟨by simp, rfl, by simp⟩
  · rw [if_neg hb] at h
    have hbd := indexByte_bd5 l c
    split at h
    · omega
    · rename_i h1
      have h1 : Lib.indexByte l c ≠ -1 := by simpa using h1
      obtain ⟨k, rfl⟩ : ∃ j, k = j + 1 := ⟨k - 1, by omega⟩
      obtain ⟨a1, a2, a3⟩ := idx_split c l k (by omega)
      refine ⟨by simpa using a1, ?_, ?_⟩
      · rw [List.take_succ_cons, List.drop_succ_cons, List.cons_append, ← a2]
      · intro x hx
        rw [List.take_succ_cons] at hx
        rcases List.mem_cons.1 hx with rfl | hx
        · simpa using hb
        · exact a3 x hx
theorem idx_none {l : List UInt8} {c : UInt8} (h : Lib.indexByte l c < 0) : ∀ b ∈ l, b ≠ c := fun _ hb e => (indexByte_neg l c).1 h (e ▸ hb)
theorem index_end5 (l : List UInt8) (c : UInt8) : Lib.indexByte (l ++ [c]) c = ((l.takeWhile (fun b => b != c)).length : Int) := by
 rw [indexByte_tw, if_pos (by simp)]
 by_cases h : c ∈ l
 · obtain ⟨x, y, rfl, hx⟩ := first_of l c h
   have hp : ∀ b ∈ x, (b != c) = true := fun b hb => by simp [hx b hb]
   rw [List.append_assoc, List.takeWhile_append_of_pos hp, List.takeWhile_append_of_pos hp]
   simp
 · have hp : ∀ b ∈ l, (b != c) = true := fun b hb => by simp only [bne_iff_ne, ne_eq]; exact fun e => h (e ▸ hb)
   rw [List.takeWhile_append_of_pos hp]
   have := (takeWhile_all hp []).1
   rw [List.append_nil] at this
   rw [this]
   simp
theorem take_tw (l : List UInt8) (p : UInt8 → Bool) : l.take (l.takeWhile p).length = l.takeWhile p := by
 have h := List.takeWhile_append_dropWhile (p := p) (l := l)
 generalize List.takeWhile p l = x at h ⊢
 rw [← h, List.take_left]
theorem drop_tw (l : List UInt8) (p : UInt8 → Bool) : l.drop (l.takeWhile p).length = l.dropWhile p := by
 have h := List.takeWhile_append_dropWhile (p := p) (l := l)
 generalize List.takeWhile p l = x at h ⊢
 generalize List.dropWhile p l = y at h ⊢
 rw [← h, List.drop_left]
theorem dw_head (l : List UInt8) (c : UInt8) : l.dropWhile (fun b => b != c) = [] ∨ ∃ t, l.dropWhile (fun b => b != c) = c :: t := by
 cases h : l.dropWhile (fun b => b != c) with
 | nil => exact .inl rfl
 | cons a t =>
  refine .inr ⟨t, ?_⟩
  have := List.head?_dropWhile_not (fun b => b != c) l
  rw [h] at this
  simp at this
  rw [this]
theorem many_take (l : List UInt8) : manyB l = (List.take 10 l == [109, 117, 108, 116, 105, 112, 97, 114, 116, 47]) := by
 unfold manyB Lib.hasPrefix
 rw [Bool.eq_iff_iff, List.isPrefixOf_iff_prefix, List.prefix_iff_eq_take, beq_iff_eq]
 exact eq_comm
theorem IsMany_any (l : List UInt8) (w : World) (hl : l.length ≤ maxLen) : Calls Tryz.prog 25 #[str l] w fun e w' => e = .returned (.bool (manyB l)) ∧ w' = w := by
 unfold maxLen at hl
 by_cases h10 : 10 ≤ l.length
 · have i1 : (10 : Int) ≤ l.length := by omega
   have i0 : (0 : Int) ≤ 10 := by omega
   go_enter Tryz.func25, Tryz.ntmps25
   go_wp2_with fail
   go_ret
   exact ⟨by rw [many_take]; rfl, rfl⟩
 · go_enter Tryz.func25, Tryz.ntmps25
   go_wp2_with fail
   go_ret
   refine ⟨?_, rfl⟩
   have : manyB l = false := by
    unfold manyB Lib.hasPrefix
    rw [Bool.eq_false_iff]
    intro h
    have := (List.isPrefixOf_iff_prefix.1 h).length_le
    simp at this
    omega
   rw [this]; rfl
theorem low_same_iff : ∀ (l : List UInt8), (lowL l == l) = !l.any (fun b => upR b.toNat)
 | [] => rfl
 | b :: l => by
  have ih := low_same_iff l
  unfold lowL at ih ⊢
  rw [List.map_cons, List.any_cons, List.cons_beq_cons, ih, Bool.not_or]
  congr 1
  rw [Bool.eq_iff_iff, beq_iff_eq, ← UInt8.toNat_inj, lowB_nat]
  simp only [upR, Bool.not_eq_true', Bool.and_eq_false_iff, decide_eq_false_iff_not]
  split <;> omega
theorem Index_chr1 (l : List UInt8) (c : UInt8) (w : World) : Calls Tryz.prog 67 #[str l, .string ⟨#[c]⟩] w fun e w' => e = .returned (.int .i64 (Lib.indexByte l c)) ∧ w = w' :=
 (Go.Proofs.Tryz.strings_Index_one ⟨l.toArray⟩ c w).mono fun _ _ ⟨h1, h2⟩ => ⟨h1, h2.symm⟩
theorem IsType_any (l : List UInt8) (w : World) (hl : l.length ≤ maxLen) (hT : U8Ok w) : Calls Tryz.prog 26 #[str l] w fun e w' => e = .returned (.bool (typB l)) ∧ Below w.heap.size w w' := by
 have hidx := Index_chr1 l 47 w
 have hasc := typ_ascii l
 have hls := low_same_iff l
 have htt : tokB (Lib.cut l [47]).1 = true → tokB (Lib.cut l [47]).2.1 = true → (Lib.cut l [47]).2.2 = true → l.length ≤ 1000 := by
  intro h1 h2 h0
  have e := cut_backT l 47 h0
  have l1 : (Lib.cut l [47]).1.length ≤ 30 := by simp [tokB] at h1; omega
  have l2 : (Lib.cut l [47]).2.1.length ≤ 30 := by simp [tokB] at h2; omega
  rw [e, List.length_append, List.length_cons]
  omega
 have hge := Lib.indexByte_ge l 47
 unfold typB
 by_cases h0 : 0 ≤ Lib.indexByte l 47
 · obtain ⟨k, hk⟩ := Int.eq_ofNat_of_zero_le h0
   have hlt : k < l.length := by
    have := (Lib.indexByte_some hk).1
    rcases Nat.lt_or_ge k l.length with h | h
    · exact h
    · rw [List.getElem?_eq_none h] at this; cases this
   rw [cut_one_yes hk] at hasc htt ⊢
   rw [hk] at hidx
   simp only at hasc htt ⊢
   have hta := fun W => IsToken_any (l.take k) W (by simp; omega)
   have htb := fun W => IsToken_any (l.drop (k + 1)) W (by simp; omega)
   generalize hA : tokB (l.take k) = ta at hta hasc htt
   generalize hB : tokB (l.drop (k + 1)) = tb at htb hasc htt
   have hkl : (k : Int) ≤ l.length := by omega
   have hk1 : IntKind.i64.wrap ((k : Int) + 1) = (k : Int) + 1 := IntWalk.i64_in _ (by unfold maxLen at hl; omega)
   have hk2 : (k : Int) + 1 ≤ l.length := by omega
   have hk3 : (0 : Int) ≤ (k : Int) + 1 := by omega
   have hk4 : ((k : Int) + 1).toNat = k + 1 := by omega
   have Hidx := Lib.hid hidx
   have Hta := Lib.hid hta
   have Htb := Lib.hid htb
   have Hls := Lib.hid hls
   unfold maxLen at hl
   cases ta
   · clear hidx hta htb hasc hA hB hls htt h0 hge hk
     go_enter Tryz.func26, Tryz.ntmps26
     go_wp2_with fail
     refine Hidx.out.mono ?_
     rintro e w1 ⟨rfl, rfl⟩
     go_wp2_with fail
     refine (Hta.out _).mono ?_
     rintro e w1 ⟨rfl, rfl⟩
     go_wp2_with fail
     go_ret
     exact ⟨by simp, Below.refl _ _⟩
   · cases tb
     · clear hidx hta htb hasc hA hB hls htt h0 hge hk
       go_enter Tryz.func26, Tryz.ntmps26
       go_wp2_with fail
       refine Hidx.out.mono ?_
       rintro e w1 ⟨rfl, rfl⟩
       go_wp2_with fail
       refine (Hta.out _).mono ?_
       rintro e w1 ⟨rfl, rfl⟩
       go_wp2_with fail
       refine (Htb.out _).mono ?_
       rintro e w1 ⟨rfl, rfl⟩
       go_wp2_with fail
       go_ret
       exact ⟨by simp, Below.refl _ _⟩
     · have hsm := fun W h => Small_ascii l W (by have := htt (by trivial) (by trivial) (by trivial); omega) (hasc (by trivial) (by trivial) (by trivial)) h
       have Hsm := Lib.hid hsm
       clear hidx hta htb hasc hA hB hls htt h0 hge hk hsm
       go_enter Tryz.func26, Tryz.ntmps26
       go_wp2_with fail
       refine Hidx.out.mono ?_
       rintro e w1 ⟨rfl, rfl⟩
       go_wp2_with fail
       refine (Hta.out _).mono ?_
       rintro e w1 ⟨rfl, rfl⟩
       go_wp2_with fail
       refine (Htb.out _).mono ?_
       rintro e w1 ⟨rfl, rfl⟩
       go_wp2_with fail
       refine (Hsm.out _ hT).mono ?_
       rintro e w1 ⟨rfl, hb⟩
       go_wp2_with fail
       go_ret
       exact ⟨by rw [Hls.out]; simp, hb⟩
 · rw [cut_one_no (by omega)]
   rw [show Lib.indexByte l 47 = -1 from by omega] at hidx
   have Hidx := Lib.hid hidx
   clear hidx hasc hls htt h0 hge
   go_enter Tryz.func26, Tryz.ntmps26
   go_wp2_with fail
   refine Hidx.out.mono ?_
   rintro e w1 ⟨rfl, rfl⟩
   go_wp2_with fail
   go_ret
   exact ⟨by simp, Below.refl _ _⟩
end Go.Proofs.YtinfjdfhkfhgjaaGreatDoor
namespace Go.Proofs.YtinfjdfhkfhgjaaGreatDoor
open Go.RowKit
section
variable {P : Program}
end
end Go.Proofs.YtinfjdfhkfhgjaaGreatDoor
namespace Go.Proofs.YtinfjdfhkfhgjaaGreatDoor
open Go.RowKit
end Go.Proofs.YtinfjdfhkfhgjaaGreatDoor
namespace Go.Proofs.YtinfjdfhkfhgjaaGreatDoor
open Go.RowKit
variable {P : Program}
theorem wpOp_runv {k : Nat} {K : Act → World → Prop} {w : World} {ops : Array Oper} {o : Oper} {a : Act} {Q : Exit → Act → World → Prop} (hi : ops[k]? = some o) (hw : Region.wanted o (yielded ops a.tmps) = true) (v : Value) (w' : World) (hv : (execOp a.eval o).run P w = .ok (.value v) w') (h : K (a.put o.dst v) w') : wpOp P ops Q k K a w := by
 unfold wpOp
 simp only [hi, hw, if_true]
 refine .inl ?_
 unfold Oper.wp
 simp only [hv, Oper.upon]
 exact h
theorem wpOp_appRun {k : Nat} {K : Act → World → Prop} {w : World} {ops : Array Oper} {o : Oper} {a : Act} {Q : Exit → Act → World → Prop} (hi : ops[k]? = some o) (hw : Region.wanted o (yielded ops a.tmps) = true) (s x : Operand) (t : TypeId)
 (ho : o.op = .call { callee := .builtin .append, args := #[s, x], argTypes := #[t, t] }) (v1 v2 : Value) (hs : a.eval s = v1) (hx : a.eval x = v2) (v : Value) (w' : World) (hrun : (Builtin.append_ #[t, t] o.type #[v1, v2]).run P w = .ok v w') (h : K (a.put o.dst v) w') : wpOp P ops Q k K a w := by
 unfold wpOp
 simp only [hi, hw, if_true]
 refine .inl ?_
 unfold Oper.wp execOp
 simp only [ho, resolve, invoke, builtin, Sem.run_bind, Sem.run_pure, Result.andThen_ok, List.map_toArray, List.map_cons, List.map_nil, hs, hx, hrun]
 exact h
theorem wpOp_callF {k : Nat} {K : Act → World → Prop} {w : World} {ops : Array Oper} {o : Oper} {a : Act} {Q : Exit → Act → World → Prop} (hi : ops[k]? = some o) (hw : Region.wanted o (yielded ops a.tmps) = true) (f : FuncId) (args : Array Value)
 (hrun : (execOp a.eval o).run P w = .ok (.enter f args) w) (v : Value) (R : World → Prop) (hc : Calls P f args w fun e w' => e = .returned v ∧ R w') (h : ∀ w', R w' → K (a.put o.dst v) w') : wpOp P ops Q k K a w := by
 unfold wpOp
 simp only [hi, hw, if_true]
 refine .inl ?_
 unfold Oper.wp
 rw [hrun, Oper.upon_enter]
 refine hc.mono fun e w'' hh => ?_
 obtain ⟨rfl, hr⟩ := hh
 exact h w'' hr
/-- A slice's block isn't a value's own. -/
def Apart (A : Option Addr) (v : Value) : Prop := ∀ b off, A = some ⟨b, off, none⟩ → v.ownBlock ≠ some b
theorem Sl.grown2 {w w' : World} {B size n : Nat} {A : Option Addr} {xs : List Value} (h : Sl w B size A n xs) (hB : B ≤ w.heap.size) {v : Value} (hg : w.grownBy w' v.ownBlock) (hr : Apart A v) : Sl w' B size A n xs := by
 refine ⟨h.1, fun hn => ?_⟩
 obtain ⟨b, off, e, hb, hc⟩ := h.2 hn
 exact ⟨b, off, e, hb, fun j u hu => (World.cell?_of_block (hg.block b (by omega) (fun e' => hr b off e e'.symm))).trans (hc j u hu)⟩
end Go.Proofs.YtinfjdfhkfhgjaaGreatDoor
namespace Go.Proofs.YtinfjdfhkfhgjaaGreatDoor
open Go.RowKit
theorem pofail_any (e : Nat) (w : World) : Calls Tryz.prog 84 #[.int .i64 (e : Nat)] w fun r w' => r = .returned (.tuple #[.string ⟨#[]⟩, .slice none 0 0, .int .i64 (e : Nat)]) ∧ w' = w := by
 go_enter Tryz.func84, Tryz.ntmps84
 go_wp2_with fail
 go_ret3
 exact ⟨rfl, rfl⟩
/-- A field in memory. -/
def FB2 (w : World) (b : Nat) (u v : Value) : Prop := w.cell? ⟨b, 0, none⟩ = some u ∧ w.cell? ⟨b, 1, none⟩ = some v ∧ ∀ k, w.frozen? ⟨b, k, none⟩ = false
theorem FB2.new (w : World) (t : TypeId) (u v : Value) : FB2 (w.alloc (.cells #[u, v] t)) w.heap.size u v := by
 have h := heap_alloc_new w (.cells #[u, v] t)
 refine ⟨by unfold World.cell?; rw [h]; rfl, by unfold World.cell?; rw [h]; rfl, fun k => by unfold World.frozen?; rw [h]; simp⟩
theorem FB2.below {w w' : World} {b : Nat} {u v : Value} (h : FB2 w b u v) {B : Nat} (hb : Below B w w') (hB : b < B) : FB2 w' b u v :=
 ⟨(hb.cell (p := ⟨b, 0, none⟩) hB).trans h.1, (hb.cell (p := ⟨b, 1, none⟩) hB).trans h.2.1, fun k => (hb.frozen (p := ⟨b, k, none⟩) hB).trans (h.2.2 k)⟩
theorem FB2.set0 {w : World} {b : Nat} {u v : Value} (h : FB2 w b u v) (x : Value) : FB2 (w.setCell ⟨b, 0, none⟩ x) b x v := by
 refine ⟨?_, ?_, fun k => ?_⟩
 · exact World.cell?_setCell_same _ _ _ h.1
 · rw [World.cell?_setCell_other _ _ _ _ (by simp)]; exact h.2.1
 · simpa using h.2.2 k
theorem FB2.set1 {w : World} {b : Nat} {u v : Value} (h : FB2 w b u v) (x : Value) : FB2 (w.setCell ⟨b, 1, none⟩ x) b u x := by
 refine ⟨?_, ?_, fun k => ?_⟩
 · rw [World.cell?_setCell_other _ _ _ _ (by simp)]; exact h.1
 · exact World.cell?_setCell_same _ _ _ h.2.1
 · simpa using h.2.2 k
theorem own_farF {w : World} {base : Nat} {e : TypeId} {size : Nat} {v : Value} {n : Nat} {xs : List Value} (h : w.ownsRow base e size v n xs) {p : Addr} (hp : v.ownBlock ≠ some p.block) (u : Value) : (w.setCell p u).ownsRow base e size v n xs := by
 rcases h with ⟨hl, h | ⟨g, cap, cur, hv, hb, hg, h1, h2, h3, h4⟩⟩
 · exact ⟨hl, .inl h⟩
 · refine ⟨hl, .inr ⟨g, cap, cur, hv, hb, ?_, h1, h2, h3, h4⟩⟩
   rw [← hg]
   refine heap_setCell_other w p g u fun e => hp ?_
   rw [hv, e]; rfl
theorem nth_head {s : List UInt8} {i : Nat} {c : UInt8} {z : List UInt8} (h : s.drop i = c :: z) : nth s i = c.toNat ∧ i < s.length ∧ s.drop (i + 1) = z := by
 have hl := congrArg List.length h
 rw [List.length_drop, List.length_cons] at hl
 refine ⟨?_, by omega, by rw [← List.drop_drop, h]; rfl⟩
 have := nth_drop s i 0
 rw [h, nth_cons_zero, Nat.add_zero] at this
 exact this.symm
def BkRel (s : List UInt8) (n i1 : Nat) (T : List UInt8) (wS : World) (iv : Value) (wr : World) : Prop :=
 ∃ j : Nat, iv = .int .i64 (j : Nat) ∧ i1 ≤ j ∧ j ≤ n ∧ wr = wS ∧ Hid (Lib.trimLeftS (s.drop j) [32] = T)
/-- At a ; or at the end: the fields so far, and what is to come of the rest. -/
def PoRel (s : List UInt8) (n : Nat) (R : List FieldD × Nat) (w : World) (iv lv : Value) (wr : World) : Prop :=
 ∃ (i m c : Nat) (out : List FieldD) (S : Option Addr), iv = .int .i64 (i : Nat) ∧ lv = .slice S m c ∧ i ≤ n ∧ Hid (PQ (s.drop i) out = R ∧ out.length = m ∧ (s.drop i = [] ∨ ∃ t, s.drop i = 59 :: t) ∧ (∀ f ∈ out, f.name.length ≤ 1000 ∧ f.value.length ≤ 1000)) ∧ m ≤ 20 ∧ m ≤ c ∧
  wr.ownsRow w.heap.size 100 2 (.slice S m c) m (fieldC out) ∧ Below w.heap.size w wr
theorem ParamsOf_any (s : List UInt8) (w : World) (hs : s.length ≤ maxLen) (hU : U8Ok w) :
 Calls Tryz.prog 40 #[str s] w (ParamsRes (paramsF s) w) := by
 obtain ⟨i0, hi0, hz0, hz1, hz2⟩ := info_parts infoField
 have hV := RIsValue_any s w hs
 have eg := enters_of Tryz.func84 (by kernel_rfl) rfl
 obtain ⟨r, hr⟩ : ∃ r, r = paramsF s := ⟨_, rfl⟩
 rw [← hr]
 rw [params_PQ] at hr
 have hvm := fun h => val_mem (s := s) h
 obtain ⟨q, hq⟩ : ∃ q, q = valB s := ⟨_, rfl⟩
 rw [← hq] at hV hr
 have HV := Lib.hid hV
 cases q with
 | false =>
  have hr1 : Hid (r = ([], [], 1)) := by show r = _; rw [hr, if_pos rfl]
  clear hr hvm hq hV
  go_enter Tryz.func40, Tryz.ntmps40
  go_wp2_with fail
  refine HV.out.mono ?_
  rintro e w1 ⟨rfl, rfl⟩
  go_wp2_with fail
  refine (pofail_any 1 _).mono ?_
  rintro e w9 ⟨rfl, rfl⟩
  go_wp2_with fail
  go_ret3
  rw [hr1.out]
  exact ParamsRes.fail 1 (Below.refl _ _)
 | true =>
  obtain ⟨h9, -, hasc⟩ := hvm hq.symm
  rw [if_neg (by simp)] at hr
  obtain ⟨n, hn⟩ : ∃ n, n = s.length := ⟨_, rfl⟩
  have Hn := Lib.hid hn
  rw [← hn] at h9
  have hasc2 : ∀ b ∈ s, b.toNat < 128 := fun b hb => by have := (hasc b hb).2; omega
  have Hasc := Lib.hid hasc2
  obtain ⟨R, hR⟩ : ∃ R, R = PQ (s.dropWhile (· != 59)) [] := ⟨_, rfl⟩
  rw [← hR] at hr
  obtain ⟨hd, hhd⟩ : ∃ h, h = s.takeWhile (fun b => b != 59) := ⟨_, rfl⟩
  have hhl : hd.length ≤ n := by rw [hhd, hn]; exact (List.takeWhile_prefix _).length_le
  have htk : s.take hd.length = hd := by rw [hhd]; exact take_tw s _
  have hdr : s.drop hd.length = s.dropWhile (fun b => b != 59) := by rw [hhd]; exact drop_tw s _
  have hdh := dw_head s 59
  rw [← hdr] at hdh hR
  have hix : Lib.indexByte (s ++ [59]) 59 = (hd.length : Int) := by rw [index_end5, hhd]
  have hI := fun W => Index_chr1 (s ++ [59]) 59 W
  rw [hix] at hI
  have hT := fun W => Trim_any hd [32] W (by unfold maxLen; omega) (by decide) (by decide)
  have htl := trim_len hd [32]
  have hta : ∀ b ∈ Lib.trimS hd [32], b.toNat < 128 := fun b hb => hasc2 b (by
   have h1 := trim_mem hb
   rw [hhd] at h1
   exact (List.takeWhile_prefix _).subset h1)
  have hmn : lowL (Lib.trimS (s.takeWhile (fun b => b != 59)) [32]) = lowL (Lib.trimS hd [32]) := by rw [hhd]
  obtain ⟨th, hth⟩ : ∃ th, th = Lib.trimS hd [32] := ⟨_, rfl⟩
  rw [← hth] at hT htl hta hmn
  have hSm := fun (W : World) (hW : Below w.heap.size w W) => Small_ascii th W (by omega) hta (hU.below hW)
  obtain ⟨mn, hmn2⟩ : ∃ x, x = lowL th := ⟨_, rfl⟩
  rw [← hmn2] at hSm hmn
  have hr2 : r = if R.2 = 0 then (mn, R.1, 0) else ([], [], R.2) := by rw [hr, ← hmn]
  have hmnl : mn.length ≤ 1000 := by rw [hmn2]; unfold lowL; rw [List.length_map]; omega
  have HI := Lib.hid hI
  have HT := Lib.hid hT
  have HSm := Lib.hid hSm
  have Hr := Lib.hid hr2
  have HR := Lib.hid hR
  have Htk := Lib.hid htk
  have Hdh := Lib.hid hdh
  have HU := Lib.hid hU
  obtain ⟨hl, hhl2⟩ : ∃ hl, hl = hd.length := ⟨_, rfl⟩
  rw [← hhl2] at HI hhl Htk HR Hdh
  clear hr hr2 hvm hq hV hn hasc hasc2 hR hhd htk hdr hdh hix hI hT htl hta hmn hth hSm hmn2 hhl2 hU
  have H9 := Lib.hid (And.intro h9 (And.intro hhl hmnl))
  clear h9 hhl hmnl hs
  go_enter Tryz.func40, Tryz.ntmps40
  go_wp2_with fail
  refine HV.out.mono ?_
  rintro e w1 ⟨rfl, hw1⟩
  obtain rfl := hw1.symm
  have hsn : s.length = n := Hn.out.symm
  have hs9 : s.length ≤ 900 := by rw [← Hn.out]; exact H9.out.1
  go_wp2_with fail
  refine (HI.out _).mono ?_
  rintro e w2 ⟨rfl, hw2⟩
  obtain rfl := hw2
  obtain ⟨h9, hhl, hmnl⟩ := H9.out
  have hsl0 : (0 : Int) ≤ (hl : Int) := by omega
  have hsl1 : (hl : Int) ≤ (s.length : Int) := by rw [← Hn.out]; omega
  have hsl2 : hl ≤ s.length := by rw [← Hn.out]; exact hhl
  have htk2 : s.take hl = hd := Htk.out
  go_wp2_with fail
  refine (HT.out _).mono ?_
  rintro e w3 ⟨rfl, hb3⟩
  go_wp2_with fail
  refine (HSm.out _ hb3).mono ?_
  rintro e w4 ⟨rfl, hb4⟩
  have hbel4 := hb3.trans (hb4.mono hb3.size)
  clear htk2 hb3 hb4 hsl0 hsl1 hsl2
  go_wp2_with fail
  go_loopw [6, 8] (PoRel s n R w) (fun iv _ _ => n + 1 - (intOf iv).toNat)
  case atStart => exact ⟨hl, 0, 0, [], none, rfl, rfl, hhl, ⟨HR.out.symm, rfl, Hdh.out, by intro f hf; cases hf⟩, Nat.zero_le _, Nat.le_refl _, World.ownsRow_nil _ _ _ _, hbel4⟩
  case round =>
   clear HR Hdh HI HT HSm Htk
   obtain ⟨i, m, cS, out, S, rfl, rfl, hin, hE, hm20, hmc, hown, hbel⟩ := hrel
   by_cases hi : i < n
   · obtain ⟨t, ht⟩ : ∃ t, s.drop i = 59 :: t := by
      rcases hE.out.2.2.1 with h | h
      · have := congrArg List.length h
        rw [List.length_drop, ← Hn.out] at this
        simp at this
        omega
      · exact h
     have hPQ := hE.out.1
     rw [ht] at hPQ
     have ht1 : s.drop (i + 1) = t := by rw [← List.drop_drop, ht]; rfl
     obtain ⟨T, hT⟩ : ∃ T, T = Lib.trimLeftS t [32] := ⟨_, rfl⟩
     have hTl : T.length ≤ n - (i + 1) := by rw [hT, ← ht1]; have := trimL_len (s.drop (i + 1)) [32]; rw [List.length_drop, ← Hn.out] at this; exact this
     have hTd : s.drop (n - T.length) = T := by rw [hT, ← ht1, Hn.out]; exact trimL_drop s (i + 1)
     have h0 : Lib.trimLeftS (s.drop (i + 1)) [32] = T := by rw [ht1, hT]
     have HPQ := Lib.hid hPQ
     have HT := Lib.hid hT
     have HTd := Lib.hid hTd
     have H0 := Lib.hid h0
     have hi1 : i + 1 ≤ n := hi
     have Hol := Lib.hid (And.intro hE.out.2.1 hE.out.2.2.2)
     have Hown := Lib.hid hown
     clear hPQ hT hTd h0 ht ht1 hE hown
     go_upto_block 2 with fail
     go_cut [6] from 29 to 46 (fun s6 wx => s6 = .int .i64 ((n - (T).length : Nat) : Int) ∧ wr = wx)
     case first =>
      go_wp2_with fail
      go_loopw [6] (BkRel s n (i + 1) (T) wr) (fun iv _ => n - (intOf iv).toNat)
      case atStart => exact ⟨i + 1, by go_num, Nat.le_refl _, hi1, rfl, Lib.hid (H0.out)⟩
      case round =>
       obtain ⟨j, rfl, hj1, hj2, rfl, hTj⟩ := hrel
       by_cases hjn : j < n
       · by_cases h32 : nth s j = 32
         · have t1 : ((nth s j : Int) == 32) = true := by simp [h32]
           have hT3 := hTj.out
           rw [sp_step (by rw [← Hn.out]; exact hjn) h32] at hT3
           have HT3 := Lib.hid hT3
           clear hT3 hTj h32
           go_wp2_with fail
           exact ⟨⟨j + 1, by go_num, by omega, by omega, rfl, HT3⟩, by simp [intOf]; omega⟩
         · have t1 : ((nth s j : Int) == 32) = false := by simp; omega
           have hT3 := hTj.out
           rw [sp_stop (by rw [← Hn.out]; exact hjn) h32] at hT3
           have hjl : j = n - (T).length := by rw [← hT3, List.length_drop, ← Hn.out]; omega
           have Hjl := Lib.hid hjl
           clear hT3 hTj h32 hjl
           go_wp2_with fail
           go_meet
           exact ⟨by rw [← Hjl.out], rfl⟩
       · obtain rfl : j = n := by omega
         have hT3 := hTj.out
         rw [sp_end (by rw [← Hn.out]; exact Nat.le_refl _)] at hT3
         have hjl : j = j - (T).length := by rw [← hT3, List.length_drop, ← Hn.out]; omega
         have Hjl := Lib.hid hjl
         clear hT3 hTj hjl
         go_wp2_with fail
         go_meet
         exact ⟨by rw [← Hjl.out], rfl⟩
     case rest =>
      obtain ⟨rfl, hwx⟩ := hcut
      subst hwx
      obtain ⟨i2, hi2⟩ : ∃ i2, i2 = n - T.length := ⟨_, rfl⟩
      have hi2n : i2 ≤ n := by omega
      have htl : n - i2 = T.length := by omega
      rw [← hi2] at HTd ⊢
      have Htl := Lib.hid htl
      have hi2g : i + 1 ≤ i2 := by omega
      clear hi2 htl
      have hsd2 : s.drop i2 = T := HTd.out
      have hi2a : (0 : Int) ≤ (i2 : Int) := by omega
      have hi2b : (i2 : Int) ≤ (n : Int) := by omega
      have hI2 := fun W => Index_chr1 T 61 W
      have hin2 := @idx_none T 61
      have his2 := fun k => idx_split 61 T k
      have hbd2 := indexByte_bd5 T 61
      generalize Lib.indexByte T 61 = ix2 at hI2 hin2 his2 hbd2
      have HI2 := Lib.hid hI2
      clear hI2
      by_cases hneg : ix2 < 0
      · have d1 : decide (ix2 < 0) = true := by simpa using hneg
        have hr1 : Hid (r = ([], [], 1)) := by
         show r = _
         have h := PQ_noeq (t := t) (l := out) (by rw [← HT.out]; exact hin2 hneg)
         rw [Hr.out, ← HPQ.out, h]
         rfl
        clear hin2 his2 hbd2 hneg
        go_wp2_with fail
        refine (HI2.out _).mono ?_
        rintro e w4 ⟨rfl, hw4⟩
        obtain rfl := hw4
        go_wp2_with fail
        refine (pofail_any 1 _).mono ?_
        rintro e w9 ⟨rfl, rfl⟩
        go_wp2_with fail
        go_ret3
        rw [hr1.out]
        exact ParamsRes.fail 1 hbel
      · obtain ⟨k, rfl⟩ : ∃ k : Nat, ix2 = k := ⟨ix2.toNat, by omega⟩
        obtain ⟨hkT, hsp, hxn⟩ := his2 k rfl
        have htl := Htl.out
        have d1 : decide ((k : Int) < 0) = false := by simp
        obtain ⟨x, hx⟩ : ∃ x, x = T.take k := ⟨_, rfl⟩
        obtain ⟨y, hy⟩ : ∃ y, y = T.drop (k + 1) := ⟨_, rfl⟩
        rw [← hx, ← hy] at hsp
        rw [← hx] at hxn
        have hxl : x.length = k := by rw [hx, List.length_take]; omega
        have hmid : (s.take (i2 + k)).drop i2 = x := by rw [List.drop_take, show i2 + k - i2 = k from by omega, hsd2, hx]
        have hyd : s.drop (i2 + k + 1) = y := by rw [hy, ← hsd2, List.drop_drop]; congr 1
        have hTx := fun W => Trim_any x [32] W (by unfold maxLen; omega) (by decide) (by decide)
        have hta : ∀ b ∈ Lib.trimS x [32], b.toNat < 128 := fun b hb => Hasc.out b (by
         have h1 := trim_mem hb
         rw [hx, ← hsd2] at h1
         exact (List.drop_suffix _ _).subset ((List.take_prefix _ _).subset h1))
        have htl0 := trim_len x [32]
        have hPQn := fun h => PQ_name (t := t) (x := x) (y := y) (l := out) (by rw [← HT.out]; exact hsp) hxn h
        have hPQo := fun (z : List UInt8) h1 h2 h3 => PQ_open (t := t) (x := x) (y := y) (l := out) (z := z) (by rw [← HT.out]; exact hsp) hxn h1 h2 h3
        have hPQq := fun (z v g : List UInt8) h1 h2 h3 h4 => PQ_quote (t := t) (x := x) (y := y) (l := out) (z := z) (v := v) (g := g) (by rw [← HT.out]; exact hsp) hxn h1 h2 h3 h4
        have hPQt := fun h1 h2 => PQ_tok (t := t) (x := x) (y := y) (l := out) (by rw [← HT.out]; exact hsp) hxn h1 h2
        obtain ⟨nm0, hnm0⟩ : ∃ a, a = Lib.trimS x [32] := ⟨_, rfl⟩
        rw [← hnm0] at hTx hta htl0 hPQn hPQo hPQq hPQt
        have hTk := fun W => IsToken_any nm0 W (by unfold maxLen; omega)
        obtain ⟨tk, htk⟩ : ∃ a, a = tokB nm0 := ⟨_, rfl⟩
        rw [← htk] at hTk hPQn hPQo hPQq hPQt
        have hSm2 := fun (W : World) (hW : Below w.heap.size w W) => Small_ascii nm0 W (by omega) hta (HU.out.below hW)
        obtain ⟨nm, hnm⟩ : ∃ a, a = lowL nm0 := ⟨_, rfl⟩
        rw [← hnm] at hSm2 hPQq hPQt
        have hnml : nm.length ≤ 1000 := by rw [hnm]; unfold lowL; rw [List.length_map]; omega
        have hikn : i2 + k ≤ n := by omega
        have hikn1 : i2 + k + 1 ≤ n := by omega
        have hikI : (i2 : Int) ≤ (i2 : Int) + (k : Int) := by omega
        have hikJ : (i2 : Int) + (k : Int) ≤ (n : Int) := by omega
        obtain ⟨T2, hT2⟩ : ∃ T2, T2 = Lib.trimLeftS y [32] := ⟨_, rfl⟩
        rw [← hT2] at hPQo hPQq hPQt
        have hT2l : T2.length ≤ n - (i2 + k + 1) := by rw [hT2, ← hyd]; have := trimL_len (s.drop (i2 + k + 1)) [32]; rw [List.length_drop, ← Hn.out] at this; exact this
        have hT2d : s.drop (n - T2.length) = T2 := by rw [hT2, ← hyd, Hn.out]; exact trimL_drop s (i2 + k + 1)
        have hT20 : Lib.trimLeftS (s.drop (i2 + k + 1)) [32] = T2 := by rw [hyd, hT2]
        have HTx := Lib.hid hTx
        have HTk := Lib.hid hTk
        have HSm2 := Lib.hid hSm2
        have HPQn := Lib.hid hPQn
        have HPQo := Lib.hid hPQo
        have HPQq := Lib.hid hPQq
        have HPQt := Lib.hid hPQt
        have HT2d := Lib.hid hT2d
        have HT20 := Lib.hid hT20
        clear hin2 his2 hbd2 hneg hkT hsp hxn hx hy hyd hTx hta htl0 hPQn hPQo hPQq hPQt hnm0 hTk htk hSm2 hnm hT2 hT2d hT20 hxl htl
        go_wp2_with fail
        refine (HI2.out _).mono ?_
        rintro e w4 ⟨rfl, hw4⟩
        obtain rfl := hw4
        go_wp2_with fail
        refine (HTx.out _).mono ?_
        rintro e w5 ⟨rfl, hb5⟩
        have hbel5 := hbel.trans (hb5.mono hbel.size)
        have hown5 := own_below Hown.out hb5
        obtain ⟨W6, hW6⟩ : ∃ W6, W6 = w5.alloc (.cells #[str nm0, .string ⟨#[]⟩] 100) := ⟨_, rfl⟩
        have hb6 : Below w5.heap.size w5 W6 := by rw [hW6]; exact (Below.refl _ _).alloc (Nat.le_refl _) _
        have hf6 : FB2 W6 w5.heap.size (str nm0) (.string ⟨#[]⟩) := by rw [hW6]; exact FB2.new w5 _ _ _
        have hs6 : w5.heap.size < W6.heap.size := by rw [hW6]; simp
        have hbel6 := hbel5.trans (hb6.mono hbel5.size)
        have hown6 := own_below hown5 hb6
        have Hown6 := Lib.hid hown6
        obtain ⟨fb, hfb⟩ : ∃ fb, fb = w5.heap.size := ⟨_, rfl⟩
        have hsz5 := hbel5.size
        have hofb : ∀ q, Value.ownBlock (.slice S m cS) = some q → q ≠ fb := fun q hq => by have := (hown5.lt q hq).2; omega
        have hfbw : w.heap.size ≤ fb := by omega
        rw [← hfb] at hf6 hs6
        have Hofb := Lib.hid hofb
        clear hown5 hown6 hb6 hb5 hbel5 hofb Hown hsz5 hsd2 hmid
        go_upto_region 15 with fail
        rw [← hW6]
        rw [← hfb]
        clear hW6 hfb
        have ⟨x0, x1, xf⟩ := hf6
        have Hf6 := Lib.hid hf6
        clear hf6
        cases tk with
        | false =>
         have hr1 : Hid (r = ([], [], 1)) := by
          show r = _
          rw [Hr.out, ← HPQ.out, HPQn.out rfl]
          rfl
         clear HPQn HPQo HPQq HPQt
         go_wp2_with fail
         refine (HTk.out _).mono ?_
         rintro e w7 ⟨rfl, hw7⟩
         obtain rfl := hw7.symm
         go_wp2_with fail
         refine (pofail_any 1 _).mono ?_
         rintro e w9 ⟨rfl, rfl⟩
         go_wp2_with fail
         go_ret3
         rw [hr1.out]
         exact ParamsRes.fail 1 hbel6
        | true =>
         clear HPQn
         go_wp2_with fail
         refine (HTk.out _).mono ?_
         rintro e w7 ⟨rfl, hw7⟩
         obtain rfl := hw7.symm
         go_wp2_with fail
         refine (HSm2.out _ hbel6).mono ?_
         rintro e w8 ⟨rfl, hb8⟩
         have hf8 := Hf6.out.below hb8 hs6
         have hbel8 := hbel6.trans (hb8.mono hbel6.size)
         have hown8 := own_below Hown6.out hb8
         have hs8 : fb < w8.heap.size := Nat.lt_of_lt_of_le hs6 hb8.size
         obtain ⟨w9, hw9⟩ : ∃ w9, w9 = w8.setCell ⟨fb, 0, none⟩ (str nm) := ⟨_, rfl⟩
         have hf9 := hf8.set0 (str nm)
         have hown9 := own_farF hown8 (p := ⟨fb, 0, none⟩) (fun e => Hofb.out _ e rfl) (str nm)
         have hbel9 := hbel8.setCell (p := ⟨fb, 0, none⟩) hfbw (str nm)
         have hs9 : fb < w9.heap.size := by rw [hw9]; simpa [World.setCell] using hs8
         rw [← hw9] at hf9 hown9 hbel9
         have Hf9 := Lib.hid hf9
         have Hown9 := Lib.hid hown9
         have ⟨y0, y1, yf⟩ := hf8
         clear x0 x1 xf hf8 hb8 hown8 hbel8 hf9 hown9 hbel6 Hf6 Hown6 hs6
         go_upto_region 18 with fail
         rw [← hw9]
         clear hw9 y0 y1 yf
         go_upto_block 4 with fail
         go_cut [6] from 79 to 94 (fun s6 wx => s6 = .int .i64 ((n - (T2).length : Nat) : Int) ∧ w9 = wx)
         case first =>
          go_wp2_with fail
          go_loopw [6] (BkRel s n (i2 + k + 1) (T2) w9) (fun iv _ => n - (intOf iv).toNat)
          case atStart => exact ⟨i2 + k + 1, by go_num, Nat.le_refl _, hikn1, rfl, Lib.hid (HT20.out)⟩
          case round =>
           obtain ⟨j, rfl, hj1, hj2, rfl, hTj⟩ := hrel
           by_cases hjn : j < n
           · by_cases h32 : nth s j = 32
             · have t1 : ((nth s j : Int) == 32) = true := by simp [h32]
               have hT3 := hTj.out
               rw [sp_step (by rw [← Hn.out]; exact hjn) h32] at hT3
               have HT3 := Lib.hid hT3
               clear hT3 hTj h32
               go_wp2_with fail
               exact ⟨⟨j + 1, by go_num, by omega, by omega, rfl, HT3⟩, by simp [intOf]; omega⟩
             · have t1 : ((nth s j : Int) == 32) = false := by simp; omega
               have hT3 := hTj.out
               rw [sp_stop (by rw [← Hn.out]; exact hjn) h32] at hT3
               have hjl : j = n - (T2).length := by rw [← hT3, List.length_drop, ← Hn.out]; omega
               have Hjl := Lib.hid hjl
               clear hT3 hTj h32 hjl
               go_wp2_with fail
               go_meet
               exact ⟨by rw [← Hjl.out], rfl⟩
           · obtain rfl : j = n := by omega
             have hT3 := hTj.out
             rw [sp_end (by rw [← Hn.out]; exact Nat.le_refl _)] at hT3
             have hjl : j = j - (T2).length := by rw [← hT3, List.length_drop, ← Hn.out]; omega
             have Hjl := Lib.hid hjl
             clear hT3 hTj hjl
             go_wp2_with fail
             go_meet
             exact ⟨by rw [← Hjl.out], rfl⟩
         case rest =>
          obtain ⟨rfl, hwx⟩ := hcut
          subst hwx
          obtain ⟨i3, hi3⟩ : ∃ i3, i3 = n - T2.length := ⟨_, rfl⟩
          have hi3n : i3 ≤ n := by omega
          have htl3 : n - i3 = T2.length := by omega
          rw [← hi3] at HT2d ⊢
          have Htl3 := Lib.hid htl3
          have hi3g : i2 + k + 1 ≤ i3 := by omega
          clear hi3 htl3
          obtain ⟨qb, hqb⟩ : ∃ q, q = (T2.head? == some 34) := ⟨_, rfl⟩
          have Hqb := Lib.hid hqb
          clear hqb
          go_upto_region 21 with fail
          go_cut [104] from 95 to 103 (fun s104 wx => s104 = .bool qb ∧ w9 = wx)
          case first =>
           have ht3 := Htl3.out
           have hd3 := HT2d.out
           have hq := Hqb.out
           cases hT2c : T2 with
           | nil =>
            rw [hT2c] at ht3 hq
            obtain rfl : i3 = n := by simp at ht3; omega
            have Hq := Lib.hid (show qb = false by rw [hq]; rfl)
            clear ht3 hd3 hq hT2c
            go_wp2_with fail
            go_meet
            exact ⟨by rw [Hq.out], rfl⟩
           | cons c z =>
            rw [hT2c] at ht3 hq hd3
            obtain ⟨hc, hlt, _⟩ := nth_head hd3
            rw [← Hn.out] at hlt
            have hcI : ((nth s i3 : Nat) : Int) = (c.toNat : Int) := by rw [hc]
            have hq2 : ((nth s i3 : Int) == 34) = qb := by
             rw [hq, hcI]
             show _ = (some c == some 34)
             rw [Bool.eq_iff_iff, beq_iff_eq, beq_iff_eq]
             constructor
             · intro h
               have : c = 34 := UInt8.toNat_inj.1 (by show c.toNat = 34; omega)
               rw [this]
             · intro h; injection h with h; rw [h]; rfl
            clear ht3 hd3 hq hT2c hc hcI
            go_wp2_with fail
            go_meet
            exact ⟨rfl, rfl⟩
          case rest =>
           obtain ⟨rfl, hwx⟩ := hcut
           subst hwx
           go_upto_if 104 with fail
           go_cut [6, 11, 12] from 105 to 181 (fun s6 s11 s12 wx => ∃ (i5 : Nat) (v5 : List UInt8), s6 = .int .i64 (i5 : Nat) ∧ FB2 wx fb (str nm) (str v5) ∧ wx.ownsRow w.heap.size 100 2 (.slice S m cS) m (fieldC out) ∧ Below w.heap.size w wx ∧ fb < wx.heap.size ∧ i3 ≤ i5 ∧ i5 ≤ n ∧ v5.length ≤ 1000 ∧
            Hid (R = if 20 < (out ++ [FieldD.mk nm v5]).length then ([], 2) else PQ (s.drop i5) (out ++ [FieldD.mk nm v5])) ∧ Hid (s.drop i5 = [] ∨ ∃ t, s.drop i5 = 59 :: t))
           case first =>
            have hsd3 : s.drop i3 = T2 := HT2d.out
            have hi3a : (0 : Int) ≤ (i3 : Int) := by omega
            have hi3b : (i3 : Int) ≤ (n : Int) := by omega
            have ht3 := Htl3.out
            have ⟨y0, y1, yf⟩ := Hf9.out
            cases qb with
            | true =>
             obtain ⟨z, hz⟩ : ∃ z, T2 = 34 :: z := by
              have hq := Hqb.out
              cases T2 with
              | nil => simp at hq
              | cons c z => simp at hq; exact ⟨z, by rw [hq]⟩
             rw [hz] at hsd3 ht3
             obtain ⟨_, hlt3, hdz⟩ := nth_head hsd3
             rw [← Hn.out] at hlt3
             rw [List.length_cons] at ht3
             have hi3c : (0 : Int) ≤ (i3 : Int) + 1 := by omega
             have hi3d : (i3 : Int) + 1 ≤ (n : Int) := by omega
             have hI3 := fun W => Index_chr1 z 34 W
             have hin3 := @idx_none z 34
             have his3 := fun k => idx_split 34 z k
             have hbd3 := indexByte_bd5 z 34
             have hPo := fun h => HPQo.out z trivial hz h
             have hPq := fun v g h1 h2 => HPQq.out z v g trivial hz h1 h2
             generalize Lib.indexByte z 34 = ix3 at hI3 hin3 his3 hbd3
             have HI3 := Lib.hid hI3
             have HZ := Lib.hid hz
             clear hI3 hsd3 hz
             by_cases hneg : ix3 < 0
             · have d3 : decide (ix3 < 0) = true := by simpa using hneg
               have hr1 : Hid (r = ([], [], 1)) := by
                show r = _
                rw [Hr.out, ← HPQ.out, hPo (hin3 hneg)]
                rfl
               clear hin3 his3 hbd3 hneg hPo hPq ht3
               go_wp2_with fail
               refine (HI3.out _).mono ?_
               rintro e w10 ⟨rfl, hw10⟩
               obtain rfl := hw10
               go_wp2_with fail
               refine (pofail_any 1 _).mono ?_
               rintro e w9 ⟨rfl, rfl⟩
               go_wp2_with fail
               go_ret3
               rw [hr1.out]
               exact ParamsRes.fail 1 hbel9
             · obtain ⟨k3, rfl⟩ : ∃ k : Nat, ix3 = k := ⟨ix3.toNat, by omega⟩
               obtain ⟨hkz, hspz, hvn⟩ := his3 k3 rfl
               have d3 : decide ((k3 : Int) < 0) = false := by simp
               obtain ⟨v, hv⟩ : ∃ v, v = z.take k3 := ⟨_, rfl⟩
               obtain ⟨g, hg⟩ : ∃ g, g = z.drop (k3 + 1) := ⟨_, rfl⟩
               rw [← hv, ← hg] at hspz
               rw [← hv] at hvn
               have hvl : v.length ≤ 1000 := by rw [hv, List.length_take]; omega
               have hmid3 : (s.take (i3 + 1 + k3)).drop (i3 + 1) = v := by rw [List.drop_take, show i3 + 1 + k3 - (i3 + 1) = k3 from by omega, hdz, hv]
               have hgd : s.drop (i3 + k3 + 2) = g := by rw [hg, ← hdz, List.drop_drop]; congr 1; omega
               have hq5 := hPq v g hspz hvn
               obtain ⟨T3, hT3⟩ : ∃ T3, T3 = Lib.trimLeftS g [32] := ⟨_, rfl⟩
               have hgi := gap_iff g
               have hgp := fun h => gap_drop g h
               rw [← hT3] at hgi hgp
               have hT3l : T3.length ≤ n - (i3 + k3 + 2) := by rw [hT3, ← hgd]; have := trimL_len (s.drop (i3 + k3 + 2)) [32]; rw [List.length_drop, ← Hn.out] at this; exact this
               have hT3d : s.drop (n - T3.length) = T3 := by rw [hT3, ← hgd, Hn.out]; exact trimL_drop s (i3 + k3 + 2)
               have hT30 : Lib.trimLeftS (s.drop (i3 + k3 + 2)) [32] = T3 := by rw [hgd, hT3]
               have hik2 : i3 + k3 + 2 ≤ n := by omega
               have hikI3 : (i3 : Int) + 1 ≤ (i3 : Int) + 1 + (k3 : Int) := by omega
               have hikJ3 : (i3 : Int) + 1 + (k3 : Int) ≤ (n : Int) := by omega
               have HT3d := Lib.hid hT3d
               have HT30 := Lib.hid hT30
               have HQ5 := Lib.hid hq5
               have Hgi := Lib.hid hgi
               have Hgp := Lib.hid hgp
               obtain ⟨w10, hw10⟩ : ∃ w10, w10 = w9.setCell ⟨fb, 1, none⟩ (str v) := ⟨_, rfl⟩
               have hf10 := Hf9.out.set1 (str v)
               have hown10 := own_farF Hown9.out (p := ⟨fb, 1, none⟩) (fun e => Hofb.out _ e rfl) (str v)
               have hbel10 := hbel9.setCell (p := ⟨fb, 1, none⟩) hfbw (str v)
               have hs10 : fb < w10.heap.size := by rw [hw10]; simpa [World.setCell] using hs9
               rw [← hw10] at hf10 hown10 hbel10
               have Hf10 := Lib.hid hf10
               have Hown10 := Lib.hid hown10
               clear hin3 his3 hbd3 hneg hkz hspz hvn hv hg hgd hq5 hT3 hgi hgp hT3d hT30 hPo hPq hf10 hown10 ht3
               go_wp2_with fail
               refine (HI3.out _).mono ?_
               rintro e wi ⟨rfl, hwi⟩
               obtain rfl := hwi
               go_upto_region 26 with fail
               rw [← hw10]
               clear hw10 y0 y1 yf hmid3 hdz
               go_upto_block 6 with fail
               go_cut [6] from 127 to 141 (fun s6 wx => s6 = .int .i64 ((n - (T3).length : Nat) : Int) ∧ w10 = wx)
               case first =>
                go_wp2_with fail
                go_loopw [6] (BkRel s n (i3 + k3 + 2) (T3) w10) (fun iv _ => n - (intOf iv).toNat)
                case atStart => exact ⟨i3 + k3 + 2, by go_num, Nat.le_refl _, hik2, rfl, Lib.hid (HT30.out)⟩
                case round =>
                 obtain ⟨j, rfl, hj1, hj2, rfl, hTj⟩ := hrel
                 by_cases hjn : j < n
                 · by_cases h32 : nth s j = 32
                   · have t1 : ((nth s j : Int) == 32) = true := by simp [h32]
                     have hT3 := hTj.out
                     rw [sp_step (by rw [← Hn.out]; exact hjn) h32] at hT3
                     have HT3 := Lib.hid hT3
                     clear hT3 hTj h32
                     go_wp2_with fail
                     exact ⟨⟨j + 1, by go_num, by omega, by omega, rfl, HT3⟩, by simp [intOf]; omega⟩
                   · have t1 : ((nth s j : Int) == 32) = false := by simp; omega
                     have hT3 := hTj.out
                     rw [sp_stop (by rw [← Hn.out]; exact hjn) h32] at hT3
                     have hjl : j = n - (T3).length := by rw [← hT3, List.length_drop, ← Hn.out]; omega
                     have Hjl := Lib.hid hjl
                     clear hT3 hTj h32 hjl
                     go_wp2_with fail
                     go_meet
                     exact ⟨by rw [← Hjl.out], rfl⟩
                 · obtain rfl : j = n := by omega
                   have hT3 := hTj.out
                   rw [sp_end (by rw [← Hn.out]; exact Nat.le_refl _)] at hT3
                   have hjl : j = j - (T3).length := by rw [← hT3, List.length_drop, ← Hn.out]; omega
                   have Hjl := Lib.hid hjl
                   clear hT3 hTj hjl
                   go_wp2_with fail
                   go_meet
                   exact ⟨by rw [← Hjl.out], rfl⟩
               case rest =>
                obtain ⟨rfl, hwx⟩ := hcut
                subst hwx
                obtain ⟨i4, hi4⟩ : ∃ i4, i4 = n - T3.length := ⟨_, rfl⟩
                have hi4n : i4 ≤ n := by omega
                have hi4g : i3 ≤ i4 := by omega
                have htl4 : n - i4 = T3.length := by omega
                rw [← hi4] at HT3d ⊢
                clear hi4
                have hd4 := HT3d.out
                by_cases hgap : ∀ c r, T3 = c :: r → c = 59
                · have hz0 := Hgi.out.2 hgap
                  have hq6 := HQ5.out
                  rw [if_neg (fun h => h hz0), HPQ.out, Hgp.out hgap, ← hd4] at hq6
                  have HQ6 := Lib.hid hq6
                  cases hT3c : T3 with
                  | nil =>
                   rw [hT3c] at htl4 hd4
                   obtain rfl : i4 = n := by simp at htl4; omega
                   have Hd4 := Lib.hid hd4
                   clear hgap hz0 hq6 hd4 hT3c htl4
                   go_wp2_with fail
                   go_meet
                   exact ⟨_, v, rfl, Hf10.out, Hown10.out, hbel10, hs10, hi4g, Nat.le_refl _, hvl, HQ6, Lib.hid (.inl Hd4.out)⟩
                  | cons c t3 =>
                   rw [hT3c] at hd4
                   obtain rfl := hgap c t3 hT3c
                   obtain ⟨hc4, hlt4, _⟩ := nth_head hd4
                   rw [← Hn.out] at hlt4
                   have t4 : ((nth s i4 : Int) == 59) = true := by rw [hc4]; rfl
                   have Hd4 := Lib.hid hd4
                   clear hgap hz0 hq6 hd4 hT3c htl4 hc4
                   go_wp2_with fail
                   go_meet
                   exact ⟨i4, v, rfl, Hf10.out, Hown10.out, hbel10, hs10, hi4g, hi4n, hvl, HQ6, Lib.hid (.inr ⟨_, Hd4.out⟩)⟩
                · have hz0 : Lib.trimS (Lib.cut g [59]).1 [32] ≠ [] := fun h => hgap (Hgi.out.1 h)
                  have hq6 := HQ5.out
                  rw [if_pos hz0, HPQ.out] at hq6
                  have hr1 : Hid (r = ([], [], 1)) := by
                   show r = _
                   rw [Hr.out, hq6]
                   rfl
                  cases hT3c : T3 with
                  | nil => exact absurd (fun c r h => by rw [hT3c] at h; cases h) hgap
                  | cons c t3 =>
                   rw [hT3c] at hd4
                   have hc59 : c ≠ 59 := fun h => hgap (fun c' r h' => by rw [hT3c] at h'; injection h' with h1 _; rw [← h1]; exact h)
                   obtain ⟨hc4, hlt4, _⟩ := nth_head hd4
                   rw [← Hn.out] at hlt4
                   have t4 : ((nth s i4 : Int) == 59) = false := by
                    rw [hc4]
                    have : c.toNat ≠ 59 := fun h => hc59 (UInt8.toNat_inj.1 h)
                    simp; omega
                   clear hgap hz0 hq6 hd4 hT3c htl4 hc4 hc59
                   go_wp2_with fail
                   refine (pofail_any 1 _).mono ?_
                   rintro e w9 ⟨rfl, rfl⟩
                   go_wp2_with fail
                   go_ret3
                   rw [hr1.out]
                   exact ParamsRes.fail 1 hbel10
            | false =>
             have hh : T2.head? ≠ some 34 := fun h => by have hq := Hqb.out; rw [h] at hq; simp at hq
             have hPt := HPQt.out trivial hh
             obtain ⟨tw, htw⟩ : ∃ x, x = T2.takeWhile (fun b => b != 59) := ⟨_, rfl⟩
             rw [← htw] at hPt
             have hI4 := fun W => Index_chr1 (T2 ++ [59]) 59 W
             rw [index_end5, ← htw] at hI4
             have htk4 : T2.take tw.length = tw := by rw [htw]; exact take_tw T2 _
             have hdr4 : T2.drop tw.length = T2.dropWhile (fun b => b != 59) := by rw [htw]; exact drop_tw T2 _
             have hdh4 := dw_head T2 59
             rw [← hdr4] at hdh4 hPt
             have htwl : tw.length ≤ T2.length := by rw [htw]; exact (List.takeWhile_prefix _).length_le
             have hTr := fun W => TrimRight_any tw [32] W (by unfold maxLen; omega) (by decide) (by decide)
             have htrl := trimR_len tw [32]
             obtain ⟨v5, hv5⟩ : ∃ x, x = Lib.trimRightS tw [32] := ⟨_, rfl⟩
             rw [← hv5] at hTr htrl hPt
             have hv5l : v5.length ≤ 1000 := by omega
             have hTk5 := fun W => IsToken_any v5 W (by unfold maxLen; omega)
             obtain ⟨tk5, htk5⟩ : ∃ x, x = tokB v5 := ⟨_, rfl⟩
             rw [← htk5] at hTk5 hPt
             obtain ⟨k4, hk4⟩ : ∃ k, k = tw.length := ⟨_, rfl⟩
             rw [← hk4] at hI4 htk4 hPt htwl hdh4
             have hmid4 : (s.take (i3 + k4)).drop i3 = tw := by rw [List.drop_take, show i3 + k4 - i3 = k4 from by omega, hsd3, htk4]
             have hd5 : s.drop (i3 + k4) = T2.drop k4 := by rw [← hsd3, List.drop_drop]
             rw [← hd5] at hPt hdh4
             have hik4 : i3 + k4 ≤ n := by omega
             have hikI4 : (i3 : Int) ≤ (i3 : Int) + (k4 : Int) := by omega
             have hikJ4 : (i3 : Int) + (k4 : Int) ≤ (n : Int) := by omega
             have hT2s : T2.length ≤ 900 := by omega
             have HI4 := Lib.hid hI4
             have HTr := Lib.hid hTr
             have HTk5 := Lib.hid hTk5
             have HPt := Lib.hid hPt
             have Hdh4 := Lib.hid hdh4
             clear hh hPt htw hI4 htk4 hdr4 hdh4 hTr htrl hv5 hTk5 htk5 hk4 hd5 ht3 htwl
             go_wp2_with fail
             refine (HI4.out _).mono ?_
             rintro e wi ⟨rfl, hwi⟩
             obtain rfl := hwi
             go_wp2_with fail
             refine (HTr.out _).mono ?_
             rintro e w10 ⟨rfl, hb10⟩
             have hf10 := Hf9.out.below hb10 hs9
             have hbel10 := hbel9.trans (hb10.mono hbel9.size)
             have hown10 := own_below Hown9.out hb10
             have hs10 : fb < w10.heap.size := Nat.lt_of_lt_of_le hs9 hb10.size
             obtain ⟨w11, hw11⟩ : ∃ w11, w11 = w10.setCell ⟨fb, 1, none⟩ (str v5) := ⟨_, rfl⟩
             have hf11 := hf10.set1 (str v5)
             have hown11 := own_farF hown10 (p := ⟨fb, 1, none⟩) (fun e => Hofb.out _ e rfl) (str v5)
             have hbel11 := hbel10.setCell (p := ⟨fb, 1, none⟩) hfbw (str v5)
             have hs11 : fb < w11.heap.size := by rw [hw11]; simpa [World.setCell] using hs10
             rw [← hw11] at hf11 hown11 hbel11
             have Hf11 := Lib.hid hf11
             have Hown11 := Lib.hid hown11
             clear y0 y1 yf
             have ⟨y0, y1, yf⟩ := hf10
             clear hf10 hb10 hbel10 hown10 hf11 hown11 hmid4 hsd3
             go_upto_region 33 with fail
             rw [← hw11]
             clear hw11 y0 y1 yf
             have ⟨z0, z1, _⟩ := Hf11.out
             cases tk5 with
             | false =>
              have hr1 : Hid (r = ([], [], 1)) := by
               show r = _
               rw [Hr.out, ← HPQ.out, HPt.out]
               rfl
              clear HPt
              go_wp2_with fail
              refine (HTk5.out _).mono ?_
              rintro e w12 ⟨rfl, hw12⟩
              obtain rfl := hw12.symm
              go_wp2_with fail
              refine (pofail_any 1 _).mono ?_
              rintro e w9 ⟨rfl, rfl⟩
              go_wp2_with fail
              go_ret3
              rw [hr1.out]
              exact ParamsRes.fail 1 hbel11
             | true =>
              have hq6 := HPt.out
              rw [if_neg (by simp), HPQ.out] at hq6
              have HQ6 := Lib.hid hq6
              clear hq6 HPt
              go_wp2_with fail
              refine (HTk5.out _).mono ?_
              rintro e w12 ⟨rfl, hw12⟩
              obtain rfl := hw12.symm
              go_wp2_with fail
              go_meet
              exact ⟨i3 + k4, v5, by go_num, Hf11.out, Hown11.out, hbel11, hs11, by omega, hik4, hv5l, HQ6, Hdh4⟩
           case rest =>
            obtain ⟨i5, v5, rfl, hf5, hown5, hbel5, hs5, hi5g, hi5n, hv5l, hQ5, hD5⟩ := hcut
            have ⟨z0, z1, _⟩ := hf5
            have hml : (out ++ [FieldD.mk nm v5]).length = m + 1 := by simp [Hol.out.1]
            have hq5 := hQ5.out
            rw [hml] at hq5
            have HQ5 := Lib.hid hq5
            have Hml := Lib.hid hml
            have Hown5 := Lib.hid hown5
            have h63 : m + 1 ≤ maxLen := by unfold maxLen; omega
            have h47 : (m + 1) * 32 ≤ 140737488355328 := by omega
            have hone : ∀ u ∈ [str nm, str v5], u.oneCell' = true := by intro u hu; simp at hu; rcases hu with rfl | rfl <;> rfl
            have Hone := Lib.hid hone
            have hsz5 := hbel5.size
            clear hf5 hml hq5 hQ5 hown5 hone
            go_wp2_with (at_builtin; refine wpList_app rfl _ _ 59 rfl w.heap.size 100 i0 (.agg #[.string ⟨#[]⟩, .string ⟨#[]⟩]) 2 32 Tryz.underlying59 hi0 hz0 hz1 hz2 rfl (by decide) S m cS (fieldC out) rfl (Hown5.out.alloc _) _ _ 1 1 [str nm, str v5] rfl (Sl.row _ _ 2 1 _ rfl) Hone.out h63 h47 ?c2 ?_)
            case c2 => simp; omega
            intro S' c' w12 hown12 hb12 _
            have hc' := own_cap hown12
            have hbel12 := (hbel5.alloc hsz5 (.cells #[str nm, str v5] 100)).trans hb12
            rw [show fieldC out ++ [str nm, str v5] = fieldC (out ++ [⟨nm, v5⟩]) from by rw [fieldC_app]; rfl] at hown12
            have Hown12 := Lib.hid hown12
            clear hown12 hb12 z0 z1
            by_cases h20 : 20 < m + 1
            · have d20 : decide ((20 : Int) < (m : Int) + 1) = true := by simp; omega
              have hr1 : Hid (r = ([], [], 2)) := by show r = _; rw [Hr.out, HQ5.out, if_pos h20]; rfl
              go_wp2_with fail
              refine (pofail_any 2 _).mono ?_
              rintro e w9 ⟨rfl, rfl⟩
              go_wp2_with fail
              go_ret3
              rw [hr1.out]
              exact ParamsRes.fail 2 hbel12
            · have d20 : decide ((20 : Int) < (m : Int) + 1) = false := by simp; omega
              have hR3 : Hid (PQ (s.drop i5) (out ++ [⟨nm, v5⟩]) = R) := by show _ = R; rw [HQ5.out, if_neg h20]
              have hall : ∀ f ∈ out ++ [FieldD.mk nm v5], f.name.length ≤ 1000 ∧ f.value.length ≤ 1000 := by
               intro f hf
               rcases List.mem_append.1 hf with hf | hf
               · exact Hol.out.2 f hf
               · simp only [List.mem_cons, List.not_mem_nil, or_false] at hf; rw [hf]; exact ⟨hnml, hv5l⟩
              have Hall := Lib.hid hall
              clear hall
              go_wp2_with fail
              exact ⟨⟨i5, m + 1, c', _, S', rfl, rfl, hi5n, ⟨hR3.out, Hml.out, hD5.out, Hall.out⟩, by omega, hc', Hown12.out, hbel12⟩, by simp [intOf]; omega⟩
   · obtain rfl : i = n := by omega
     have hfin := hE.out.1
     rw [List.drop_of_length_le (by rw [← Hn.out]; exact Nat.le_refl _), PQ] at hfin
     have hol := hE.out.2.1
     have hsm : smallF out := fun f hf => by have := hE.out.2.2.2 f hf; unfold maxLen; omega
     have hr1 : Hid (r = (mn, out, 0)) := by show r = _; rw [Hr.out, ← hfin]; rfl
     have hslw := Sl.of_own hown
     have hcm2 := own_capF hown
     have Hslw := Lib.hid hslw
     have Hol := Lib.hid hol
     have Hsm := Lib.hid hsm
     clear hfin hE hown hslw hol hsm
     go_wp2_with fail
     go_ret3
     rw [hr1.out]
     exact ⟨S, cS, by rw [← Hol.out]; rfl, by rw [show (mn, out, 0).2.1.length = m from Hol.out]; exact Hslw.out, Hsm.out, by show out.length ≤ cS; rw [Hol.out]; exact hmc, hcm2, hbel⟩
theorem RCheckFields_any (l : List FieldD) (A : Option Addr) (n c B : Nat) (w : World) (h : Sl w B 2 A n (fieldC l)) (hB : B ≤ w.heap.size) (hs : smallF l) (hn : n ≤ maxLen) :
 Calls Tryz.prog 80 #[.slice A n c] w fun e w' => e = .returned (.int .i64 (chkF l : Nat)) ∧ Below w.heap.size w w' := by
 have hl : l.length = n := by have := h.1; rw [fieldC_len] at this; omega
 unfold maxLen at hn
 by_cases h20 : 20 < n
 · rw [show chkF l = 2 from by unfold chkF; rw [if_pos (by omega)]]
   have d : decide ((20 : Int) < n) = true := by simp; omega
   clear h hl hs
   go_enter Tryz.func80, Tryz.ntmps80
   go_wp2_with fail
   go_ret
   exact ⟨rfl, Below.refl _ _⟩
 · have d : decide ((20 : Int) < n) = false := by simp; omega
   have hR : chkF l = if l.all okF then 0 else 1 := by unfold chkF; rw [if_neg (by omega)]
   rw [hR]
   obtain ⟨R, hRd⟩ : ∃ R, l.all okF = R := ⟨_, rfl⟩
   rw [hRd]
   have HR := Lib.hid hRd
   have Hl := Lib.hid hl
   have Hs := Lib.hid hs
   have HS := Lib.hid h
   clear h hl hs hR hRd
   go_enter Tryz.func80, Tryz.ntmps80
   go_wp2_with fail
   go_loopw [10] (FChkRel l n R w) (fun iv _ => n - (intOf iv).toNat)
   case atStart => exact ⟨0, rfl, Nat.zero_le _, Below.refl _ _, HR.out⟩
   case round =>
    clear HR
    obtain ⟨i, rfl, hi, hbel, hE⟩ := hrel
    by_cases hin : i < n
    · obtain ⟨b, off, x, rfl, hbB, hx, x0, x1⟩ := (HS.out.below (hbel.mono hB)).field i hin
      obtain ⟨hx1, hx2⟩ := Hs.out.at_ hx
      have h1 := fun W => IsToken_any x.name W hx1
      have h2 := fun W => RIsValue_any x.value W hx2
      have hE2 : Hid ((okF x && (l.drop (i + 1)).all okF) = R) := by show _ = R; rw [← hE.out, hx, List.all_cons]
      have hok : okF x = (tokB x.name && valB x.value) := rfl
      rw [hok] at hE2
      generalize tokB x.name = t1 at h1 hE2
      generalize valB x.value = t2 at h2 hE2
      have H1 := Lib.hid h1
      have H2 := Lib.hid h2
      have hbA := hbel.alloc hbel.size (.cells #[str x.name, str x.value] 100)
      have y1 := (box2_new wr 100 (str x.name) (str x.value)).2
      clear hx hE hok h1 h2
      cases t1
      · obtain rfl : false = R := by simpa using hE2.out
        go_wp2_with fail
        refine (H1.out _).mono ?_
        rintro e w1 ⟨rfl, hw1⟩
        subst hw1
        clear x0 x1
        go_wp2_with fail
        go_ret
        exact ⟨rfl, hbA⟩
      · go_wp2_with fail
        refine (H1.out _).mono ?_
        rintro e w1 ⟨rfl, hw1⟩
        subst hw1
        clear x0 x1
        go_wp2_with fail
        refine (H2.out _).mono ?_
        rintro e w2 ⟨rfl, hw2⟩
        subst hw2
        cases t2
        · obtain rfl : false = R := by simpa using hE2.out
          go_wp2_with fail
          go_ret
          exact ⟨rfl, hbA⟩
        · have hE3 : Hid ((l.drop (i + 1)).all okF = R) := by show _ = R; rw [← hE2.out]; simp
          clear hE2
          go_wp2_with fail
          exact ⟨⟨i + 1, by go_num, by omega, hbA, hE3⟩, by simp [intOf]; omega⟩
    · obtain rfl : true = R := by rw [← hE.out, List.drop_of_length_le (by rw [Hl.out]; omega)]; rfl
      go_wp2_with fail
      go_ret
      exact ⟨rfl, hbel⟩
end Go.Proofs.YtinfjdfhkfhgjaaGreatDoor

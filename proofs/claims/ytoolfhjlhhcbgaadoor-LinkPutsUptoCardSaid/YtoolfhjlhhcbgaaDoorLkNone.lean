import Derived.Test.YtoolfhjlhhcbgaaDoorLk13
import Derived.Test.YtoolfhjlhhcbgaaDoorLinkN
import Derived.Test.YtoolfhjlhhcbgaaDoorBase
import Derived.Test.YtoolfhjlhhcbgaaDoorCatbyte
import Derived.Laws.OwnMore
namespace Go.Proofs.YtoolfhjlhhcbgaaDoor
open Go.RowKit

def YesPost (w : World) (e : Ending) (w' : World) : Prop := e = .returned (.bool true) ∧ Below w.heap.size w w'
theorem infoStr : (Tryd.prog.info? 9).map (fun i => (i.zero, i.size, i.bytes)) = some (some (.string ⟨#[]⟩), 1, 16) := by kernel_rfl
theorem findE_two (l : List UInt8) : (findE l).2 = 0 ∨ (findE l) = ([], 2) := by
  unfold findE
  split
  · exact .inr rfl
  · cases findB l with
    | none => exact .inr rfl
    | some ls => exact .inl rfl
theorem madeStr (n : Nat) : (madeCells (Value.string ⟨#[]⟩).cells (n * 1)).toList = (List.replicate n ([] : List UInt8)).map str := by
  rw [Nat.mul_one]
  unfold madeCells
  rw [Array.toList_map, Array.toList_range, List.map_replicate]
  induction n with
  | zero => rfl
  | succ n ih =>
    rw [List.range_succ, List.map_append, ih, List.replicate_succ']
    congr 1
    show [(#[Value.string ⟨#[]⟩] : Array Value)[n % 1]!] = _
    rw [Nat.mod_one]
    rfl
theorem own_capm {w : World} {base : Nat} {e : TypeId} {size : Nat} {S : Option Addr} {n c : Nat} {xs : List Value} (h : w.ownsRow base e size (.slice S n c) n xs) : c ≤ maxLen := by
  rcases h.2 with ⟨hv, h0⟩ | ⟨g', cap', cur', hv', _, _, hnc', hcm, _⟩
  · injection hv with _ _ hc; omega
  · injection hv' with _ _ hcc; omega
theorem own_set {w : World} {base : Nat} {e : TypeId} {size : Nat} {g n c : Nat} {xs : List Value} (h : w.ownsRow base e size (.slice (some ⟨g, 0, none⟩) n c) n xs) (k : Nat) (u : Value) :
    (w.setCell ⟨g, k, none⟩ u).ownsRow base e size (.slice (some ⟨g, 0, none⟩) n c) n (xs.set k u) := by
  refine ⟨by rw [List.length_set]; exact h.1, .inr ?_⟩
  rcases h.2 with ⟨hv, _⟩ | ⟨g', cap, cur, hv, h1, h2, h3, h4, h5, h6⟩
  · cases hv
  · injection hv with hv _ hc
    injection hv with hv
    injection hv with hv
    subst hv
    subst hc
    exact ⟨g, c, _, rfl, h1, Go.Joins.block_setCell h2 u, h3, h4, by simpa using h5, by rw [Array.toList_setIfInBounds, List.take_set, h6]⟩
theorem own_fz {w : World} {base : Nat} {e : TypeId} {size : Nat} {g n c : Nat} {xs : List Value} (h : w.ownsRow base e size (.slice (some ⟨g, 0, none⟩) n c) n xs) (o : Nat) : w.frozen? ⟨g, o, none⟩ = false := by
  rcases h.2 with ⟨hv, _⟩ | ⟨g', cap, cur, hv, h1, h2, _⟩
  · cases hv
  · injection hv with hv _ hc
    injection hv with hv
    injection hv with hv
    subst hv
    exact Go.Joins.unfrozen_of_block h2 o
theorem LOk.mem : ∀ {l : List LinkD} {at_ n : Nat}, LOk at_ n l → ∀ x ∈ l, x.frm ≤ n ∧ x.til ≤ n
  | [], _, _, _ => by simp
  | y :: l, _, _, h => by
    intro x hx
    have hle := h.2.2.le
    rcases List.mem_cons.1 hx with rfl | hx
    · exact ⟨Nat.le_trans h.2.1 hle, hle⟩
    · exact LOk.mem h.2.2 x hx
theorem link_set (n : Nat) (P D : List LinkD) (x : LinkD) : ((linkC (P ++ x :: D)).set (P.length * 3) (.int .i64 ((x.frm + n : Nat) : Int))).set (P.length * 3 + 1) (.int .i64 ((x.til + n : Nat) : Int)) = linkC (P ++ ⟨x.frm + n, x.til + n, x.text⟩ :: D) := by
  rw [linkC_app, linkC_app]
  have e := linkC_len P
  rw [List.set_append_right _ _ (by omega), e, Nat.sub_self, List.set_append_right _ _ (by omega), e, Nat.add_sub_cancel_left]
  rfl
def ShRel (w9 : World) (n m9 : Nat) (S9 : Option Addr) (c9 base : Nat) (ls : List LinkD) (iv : Value) (wr : World) : Prop :=
  ∃ i : Nat, iv = .int .i64 (i : Nat) ∧ i ≤ m9 ∧ wr.ownsRow base 54 3 (.slice S9 m9 c9) m9 (linkC (shiftL n (ls.take i) ++ ls.drop i)) ∧ Below base w9 wr
set_option maxRecDepth 100000 in
set_option maxHeartbeats 2000000 in
theorem linkNone_walk (A A' : Option Addr) (n c n' c' : Nat) (l l' : List UInt8) (w : World) (hM : MaxLenOk w) (hb : By w w.heap.size A n l) (hb' : By w w.heap.size A' n' l') (hc : n ≤ c) (hcm : c ≤ maxLen) (hc' : n' ≤ c') (hcm' : c' ≤ 140737488351232) :
    Calls Tryd.prog 6 #[.slice A n c, .slice A' n' c'] w (YesPost w) := by
  obtain ⟨i0, hi0, hz0, hz1, hz2⟩ := info_parts infoStr
  have Hi0 := Lib.hid hi0
  clear hi0
  have hnl := hb.len
  have hnl' := hb'.len
  have hf := Find_any A n c l w hM hb hc hcm
  rcases findE_two l with h2 | h2
  · obtain ⟨e1, e2, _⟩ := putE_some (ts := []) h2
    obtain ⟨ls, hls⟩ : ∃ ls, ls = (findE l).1 := ⟨_, rfl⟩
    have hF : findE l = (ls, 0) := by rw [hls, ← h2]
    rw [hF] at hf
    rw [← hls] at e1
    have hlen := findB_len e1
    clear hls h2
    obtain ⟨m, hm⟩ : ∃ m, m = ls.length := ⟨_, rfl⟩
    unfold FindOut at hf
    simp only at hf
    rw [← hm] at hf hlen
    have hput := put_none l ls e1 e2
    rw [← hm] at hput
    have hputE : putE l (List.replicate m []) = (l, 0) := by unfold putE; rw [if_neg (by omega)]; exact hput
    obtain ⟨h60, hh60⟩ : ∃ h60, h60 = l.any (fun b => b == 60) := ⟨_, rfl⟩
    have hn4 : n ≤ 4000 := by omega
    have Hf := Lib.hid hf
    have Hm := Lib.hid hm
    have HpE := Lib.hid hputE
    have H60 := Lib.hid hh60
    have E1 := Lib.hid e1
    have Hb := Lib.hid hb
    have Hb' := Lib.hid hb'
    have Hnl := Lib.hid hnl
    have Hnl' := Lib.hid hnl'
    clear hf hm hputE hput hF e1 e2 hh60 hnl hnl' hb hb'
    go_enter Tryd.func6, Tryd.ntmps6
    go_wp2_with fail
    refine Hf.out.mono ?_
    clear Hf
    rintro e w1 ⟨S, cS, rfl, hown1, hb1⟩
    go_wp2_with fail
    refine (linked_any _ (hM.below hb1)).mono ?_
    rintro e w2 ⟨rfl, hb2⟩
    have hbel2 := hb1.trans (hb2.mono hb1.size)
    clear hown1 hb1 hb2
    go_wp2_with fail
    have hcon := Contains_byte 60 A n c w.heap.size l w2 (Hb.out.below hbel2) (by unfold maxLen; omega)
    rw [← H60.out] at hcon
    refine hcon.mono ?_
    clear hcon
    rintro e w3 ⟨rfl, rfl⟩
    have hmz : h60 = false → m = 0 := by
      intro h
      have := find_no60 l (by rw [← H60.out]; exact h)
      rw [E1.out] at this
      have := Option.some.inj this
      rw [Hm.out, this]; rfl
    obtain ⟨wm, hrunm, hownm, hgm⟩ := run_make_full (P := Tryd.prog) w3 w3.heap.size 48 9 i0 _ 1 Tryd.underlying48 Hi0.out hz0 hz1 .i64 .i64 m (by rw [hz2]; omega) (by unfold maxLen; omega) (Nat.le_refl _)
    rw [madeStr] at hownm
    have hbm : Below w3.heap.size w3 wm := (Below.refl _ w3).grown hgm (Nat.le_refl _) (fun k hk => by cases hk)
    have hbelm := hbel2.trans (hbm.mono hbel2.size)
    have hslm := (Sl.of_own hownm)
    have hsz0 : sumL (List.replicate m ([] : List UInt8)) = 0 := by
      unfold sumL
      rw [List.map_replicate]
      simp
    have hp := Put_any A (some ⟨w3.heap.size, 0, none⟩) n c m m l (List.replicate m []) wm (hM.below hbelm) ((Hb.out.below hbelm).more hbelm.size) hc hcm hslm (by rw [hsz0]; omega)
    rw [HpE.out] at hp
    have Hp := Lib.hid hp
    clear hp hslm hownm hgm hsz0
    have hfin : ∀ (W : World), Below w.heap.size w W → Calls Tryd.prog 35 #[.slice A n c, .int .u8 60] W fun e w' => e = .returned (.bool h60) ∧ w' = W := by
      intro W hW
      have hcon := Contains_byte 60 A n c w.heap.size l W (Hb.out.below hW) (by unfold maxLen; omega)
      rw [← H60.out] at hcon
      exact hcon
    have Hfin := Lib.hid hfin
    clear hfin
    cases h60 with
    | true =>
      go_wp2_with fail
      refine Hp.out.mono ?_
      clear Hp
      rintro e w4 ⟨S4, c4, rfl, hown4, hb4⟩
      have hbel4 := hbelm.trans (hb4.mono hbelm.size)
      have hby4 := By.of_own hown4
      have heq := fun W (hW : Below w4.heap.size w4 W) => Equal_bytes S4 A l.length c4 n c _ _ l l W (hby4.below hW) ((Hb.out.below hbel4).belowN hW hbel4.size) (by unfold maxLen; have := Hnl.out; omega)
      rw [beq_self_eq_true] at heq
      have Heq := Lib.hid heq
      clear heq hown4
      go_wp2_with fail
      refine (Heq.out w4 (Below.refl _ _)).mono ?_
      rintro e w5 ⟨rfl, q5, rfl⟩
      go_wp2_with fail
      refine (Hfin.out _ (belN hbel4 q5)).mono ?_
      rintro e w6 ⟨rfl, rfl⟩
      go_wp2_with fail
      refine (Heq.out _ (belN (Below.refl _ w4) q5)).mono ?_
      rintro e w7 ⟨rfl, q7, rfl⟩
      go_wp2_with fail
      go_ret
      exact ⟨rfl, belN hbel4 (q5 + q7)⟩
    | false =>
      have hm0 := hmz rfl
      have hd : decide (0 < m) = false := by simp [hm0]
      have Hm0 := Lib.hid hm0
      clear hm0 hmz
      go_wp2_with fail
      refine Hp.out.mono ?_
      clear Hp
      rintro e w4 ⟨S4, c4, rfl, hown4, hb4⟩
      have hbel4 := hbelm.trans (hb4.mono hbelm.size)
      have hby4 := By.of_own hown4
      have heq := Equal_bytes S4 A l.length c4 n c _ _ l l w4 hby4 (Hb.out.below hbel4) (by unfold maxLen; have := Hnl.out; omega)
      rw [beq_self_eq_true] at heq
      have Heq := Lib.hid heq
      clear heq hown4 hby4
      go_wp2_with fail
      refine Heq.out.mono ?_
      rintro e w5 ⟨rfl, q5, rfl⟩
      have hbel5 := belN hbel4 q5
      generalize w4.drewN q5 = w5 at hbel5 ⊢
      go_wp2_with fail
      refine (Hfin.out _ hbel5).mono ?_
      rintro e w6 ⟨rfl, rfl⟩
      go_wp2_with fail
      have hbC : Below w6.heap.size w6 (w6.alloc (.cells #[.slice A n c, .slice A' n' c'] 22)) := (Below.refl _ w6).alloc (Nat.le_refl _) _
      have hbelC := hbel5.trans (hbC.mono hbel5.size)
      have hslC : Sl (w6.alloc (.cells #[.slice A n c, .slice A' n' c'] 22)) (w6.alloc (.cells #[.slice A n c, .slice A' n' c'] 22)).heap.size 1 (some ⟨w6.heap.size, 0, none⟩) 2 [.slice A n c, .slice A' n' c'] := (Sl.row w6 22 1 2 [.slice A n c, .slice A' n' c'] rfl).more (by simp)
      have hcat := Concat_byte (some ⟨w6.heap.size, 0, none⟩) A A' 2 n c n' c' (Lib.byteCells l) (Lib.byteCells l') _ hslC ((Hb.out.below hbelC).more hbelC.size) ((Hb'.out.below hbelC).more hbelC.size) (oneCell_byteCells l) (oneCell_byteCells l') (by omega)
      rw [← byteCells_append] at hcat
      refine hcat.mono ?_
      clear hcat hslC hbC
      rintro e w7 ⟨S7, c7, rfl, hown7, hb7⟩
      have hbel7 := hbelC.trans (hb7.mono hbelC.size)
      have hf8 := Find_any S7 (n + n') c7 (l ++ l') w7 (hM.below hbel7) (By.of_own hown7) (own_cap hown7) (own_capm hown7)
      have hah := find_ahead l l' (by rw [← H60.out])
      rcases findE_two (l ++ l') with h8 | h8
      · obtain ⟨e8, g8, _⟩ := putE_some (ts := []) h8
        obtain ⟨ls8, hls8⟩ : ∃ ls8, ls8 = (findE (l ++ l')).1 := ⟨_, rfl⟩
        have hF8 : findE (l ++ l') = (ls8, 0) := by rw [hls8, ← h8]
        rw [hF8] at hf8
        rw [← hls8, hah] at e8
        have hn4' : n' ≤ 4000 := by rw [List.length_append, Hnl.out, Hnl'.out] at g8; omega
        obtain ⟨ls9, h9, hls⟩ := Option.map_eq_some_iff.1 e8
        have hF9 : findE l' = (ls9, 0) := by unfold findE; rw [if_neg (by rw [Hnl'.out]; omega), h9]; rfl
        have h960 := findB_len h9
        have hok9 := (LOk.find h9).mem
        rw [Hnl'.out] at hok9
        rw [Hnl.out] at hls
        subst hls
        have hl8 : (shiftL n ls9).length = ls9.length := by simp [shiftL]
        obtain ⟨m9, hm9⟩ : ∃ m9, m9 = ls9.length := ⟨_, rfl⟩
        unfold FindOut at hf8
        simp only at hf8
        rw [hl8, ← hm9] at hf8
        rw [← hm9] at h960
        have Hf8 := Lib.hid hf8
        have HF9 := Lib.hid hF9
        have Hm9 := Lib.hid hm9
        clear hf8 hF9 hm9 h8 e8 h9 hls8 hF8 hah g8 hl8 hown7
        go_wp2_with fail
        refine Hf8.out.mono ?_
        clear Hf8
        rintro e w8 ⟨S8, c8, rfl, hown8, hb8⟩
        have hbel8 := hbel7.trans (hb8.mono hbel7.size)
        have hf9 := Find_any A' n' c' l' w8 (hM.below hbel8) ((Hb'.out.below hbel8).more hbel8.size) hc' (by unfold maxLen; omega)
        rw [HF9.out] at hf9
        unfold FindOut at hf9
        simp only at hf9
        rw [← Hm9.out] at hf9
        have Hf9 := Lib.hid hf9
        clear hf9
        go_wp2_with fail
        refine Hf9.out.mono ?_
        clear Hf9
        rintro e w9 ⟨S9, c9, rfl, hown9, hb9⟩
        have hbel9 := hbel8.trans (hb9.mono hbel8.size)
        have hown89 := own_below hown8 hb9
        have hsz9 := hb9.size
        have hown8' := Sl.of_own hown8
        clear hown8
        go_wp2_with fail
        go_loopw [82] (fun iv wr => ShRel w9 n m9 S9 c9 w8.heap.size ls9 iv wr) (fun iv _ => m9 - (intOf iv).toNat)
        case atStart => exact ⟨0, rfl, Nat.zero_le _, by simpa [shiftL] using hown9, Below.refl _ _⟩
        case round =>
          obtain ⟨i, rfl, hi, hO, hbel⟩ := hrel
          by_cases hin : i < m9
          · have hil : i < ls9.length := by rw [← Hm9.out]; exact hin
            have hdx := List.drop_eq_getElem_cons hil
            obtain ⟨x, hx⟩ : ∃ x, x = ls9[i] := ⟨_, rfl⟩
            have hxm := hok9 x (by rw [hx]; exact List.getElem_mem hil)
            have htk : ls9.take (i + 1) = ls9.take i ++ [x] := by rw [List.take_add_one, List.getElem?_eq_getElem hil, hx]; rfl
            rw [← hx] at hdx
            have hPl : (shiftL n (ls9.take i)).length = i := by simp [shiftL]; omega
            have hO0 := hO
            rw [hdx] at hO
            obtain ⟨g, rfl⟩ : ∃ g, S9 = some ⟨g, 0, none⟩ := by
              rcases hO.2 with ⟨hv, h0⟩ | ⟨g, cap, cur, hv, _⟩
              · omega
              · injection hv with hv; exact ⟨g, hv⟩
            have hls := Sl.of_own hO
            obtain ⟨b, off, hbo, _, hcc⟩ := hls.2 (by omega)
            injection hbo with hbo
            injection hbo with hb1 hb2
            subst hb1
            subst hb2
            have hat : ∀ k v, [Value.int .i64 ((x.frm : Nat) : Int), .int .i64 ((x.til : Nat) : Int), str x.text][k]? = some v → wr.cell? ⟨g, i * 3 + k, none⟩ = some v := by
              intro k v hk
              have := hcc (i * 3 + k) v (by
                rw [linkC_app, List.getElem?_append_right (by rw [linkC_len, hPl]; omega), linkC_len, hPl, Nat.add_sub_cancel_left]
                show ([Value.int .i64 ((x.frm : Nat) : Int), .int .i64 ((x.til : Nat) : Int), str x.text] ++ linkC (ls9.drop (i + 1)))[k]? = some v
                rw [List.getElem?_append_left (by rcases Nat.lt_or_ge k 3 with h | h; exact h; rw [List.getElem?_eq_none (by simpa using h)] at hk; cases hk)]
                exact hk)
              rw [Nat.zero_add] at this
              exact this
            have x0 : wr.cell? ⟨g, i * 3, none⟩ = some (.int .i64 (x.frm : Nat)) := hat 0 _ rfl
            have x1 : wr.cell? ⟨g, i * 3 + 1, none⟩ = some (.int .i64 (x.til : Nat)) := hat 1 _ rfl
            have xf0 := own_fz hO (i * 3)
            have xf1 := own_fz hO (i * 3 + 1)
            have hO1 := own_set hO (i * 3) (.int .i64 ((x.frm : Int) + n))
            have x1' : (wr.setCell ⟨g, i * 3, none⟩ (.int .i64 ((x.frm : Int) + n))).cell? ⟨g, i * 3 + 1, none⟩ = some (.int .i64 (x.til : Nat)) := by
              rw [World.cell?_setCell_other _ _ _ _ (by intro e; injection e with _ e _; omega)]; exact x1
            have xf1' := own_fz hO1 (i * 3 + 1)
            have hO2 := own_set hO1 (i * 3 + 1) (.int .i64 ((x.til : Int) + n))
            have hls2 := link_set n (shiftL n (ls9.take i)) (ls9.drop (i + 1)) x
            rw [hPl] at hls2
            have hO3 : ((wr.setCell ⟨g, i * 3, none⟩ (.int .i64 ((x.frm : Int) + n))).setCell ⟨g, i * 3 + 1, none⟩ (.int .i64 ((x.til : Int) + n))).ownsRow w8.heap.size 54 3 (.slice (some ⟨g, 0, none⟩) m9 c9) m9 (linkC (shiftL n (ls9.take (i + 1)) ++ ls9.drop (i + 1))) := by
              have e : shiftL n (ls9.take (i + 1)) ++ ls9.drop (i + 1) = shiftL n (ls9.take i) ++ ⟨x.frm + n, x.til + n, x.text⟩ :: ls9.drop (i + 1) := by rw [htk]; simp [shiftL]
              rw [e, ← hls2]
              exact hO2
            have hg8 : w8.heap.size ≤ g := (hO.lt g rfl).1
            have hbel3 : Below w8.heap.size w9 ((wr.setCell ⟨g, i * 3, none⟩ (.int .i64 ((x.frm : Int) + n))).setCell ⟨g, i * 3 + 1, none⟩ (.int .i64 ((x.til : Int) + n))) := (hbel.setCell (p := ⟨g, i * 3, none⟩) hg8 _).setCell (p := ⟨g, i * 3 + 1, none⟩) hg8 _
            have HO3 := Lib.hid hO3
            clear hx hdx htk hPl hO0 hO hls hcc hat hO1 hO2 hls2 hO3
            go_wp2_with fail
            exact ⟨⟨i + 1, by go_num, by omega, HO3.out, hbel3⟩, by simp [intOf]; omega⟩
          · obtain rfl : i = m9 := by omega
            rw [List.take_of_length_le (by rw [Hm9.out]; exact Nat.le_refl _), List.drop_of_length_le (by rw [Hm9.out]; exact Nat.le_refl _), List.append_nil] at hO
            have hs8 := (hown8'.below hb9).below hbel
            have heq := Equal_links S8 S9 i c8 i c9 _ _ (shiftL n ls9) (shiftL n ls9) wr hs8 (Sl.of_own hO) (by omega) (by omega)
            rw [beq_self_eq_true] at heq
            have Heq := Lib.hid heq
            clear heq hO hs8
            go_wp2_with fail
            refine Heq.out.mono ?_
            rintro e w10 ⟨rfl, q10, rfl⟩
            go_wp2_with fail
            go_ret
            exact ⟨rfl, belN (hbel9.trans (hbel.mono hbel8.size)) q10⟩
      · rw [h8] at hf8
        have Hf8 := Lib.hid hf8
        clear hf8 h8 hah hown7
        go_wp2_with fail
        refine Hf8.out.mono ?_
        clear Hf8
        rintro e w8 ⟨S8, c8, rfl, hown8, hb8⟩
        have hbel8 := hbel7.trans (hb8.mono hbel7.size)
        have hf9 := Find_any A' n' c' l' w8 (hM.below hbel8) ((Hb'.out.below hbel8).more hbel8.size) hc' (by unfold maxLen; omega)
        obtain ⟨F9, hF9⟩ : ∃ F9, F9 = findE l' := ⟨_, rfl⟩
        rw [← hF9] at hf9
        have Hf9 := Lib.hid hf9
        clear hf9 hF9
        go_wp2_with fail
        refine Hf9.out.mono ?_
        clear Hf9
        rintro e w9 ⟨S9, c9, rfl, hown9, hb9⟩
        have hbel9 := hbel8.trans (hb9.mono hbel8.size)
        go_wp2_with fail
        go_ret
        exact ⟨rfl, hbel9⟩
  · rw [h2] at hf
    have Hf := Lib.hid hf
    clear hf h2 hnl hnl'
    go_enter Tryd.func6, Tryd.ntmps6
    go_wp2_with fail
    refine Hf.out.mono ?_
    clear Hf
    rintro e w1 ⟨S, cS, rfl, hown1, hb1⟩
    go_wp2_with fail
    refine (linked_any _ (hM.below hb1)).mono ?_
    rintro e w2 ⟨rfl, hb2⟩
    have hbel2 := hb1.trans (hb2.mono hb1.size)
    go_wp2_with fail
    refine (linked_any _ (hM.below hbel2)).mono ?_
    rintro e w3 ⟨rfl, hb3⟩
    go_wp2_with fail
    go_ret
    exact ⟨rfl, hbel2.trans (hb3.mono hbel2.size)⟩
end Go.Proofs.YtoolfhjlhhcbgaaDoor

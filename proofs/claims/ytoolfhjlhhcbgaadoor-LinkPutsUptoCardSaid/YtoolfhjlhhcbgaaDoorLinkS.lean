import Derived.Test.YtoolfhjlhhcbgaaDoorLinkF
namespace Go.Proofs.YtoolfhjlhhcbgaaDoor

theorem prefix_take : ∀ (s l : List UInt8) (k : Nat), s.length ≤ k → s.isPrefixOf (l.take k) = s.isPrefixOf l
  | [], l, k, _ => rfl
  | a :: s, [], k, _ => by simp
  | a :: s, b :: l, k + 1, h => by
    simp only [List.take_succ_cons, List.isPrefixOf]
    rw [prefix_take s l k (by simpa using h)]
  | a :: s, b :: l, 0, h => by simp at h
theorem take4 {r s : List UInt8} (h : r.take 4 = s.take 4) : (∀ p : List UInt8, p.length ≤ 4 → Lib.hasPrefix r p = Lib.hasPrefix s p) ∧ (∀ j, j < 4 → nth r j = nth s j) ∧ (∀ j, j < 4 → decide (j < r.length) = decide (j < s.length)) := by
  refine ⟨fun p hp => ?_, fun j hj => ?_, fun j hj => ?_⟩
  · unfold Lib.hasPrefix
    rw [← prefix_take p r 4 hp, ← prefix_take p s 4 hp, h]
  · unfold nth
    have e : ∀ l : List UInt8, l.getD j 0 = (l.take 4).getD j 0 := by
      intro l
      simp [List.getD, List.getElem?_take, hj]
    rw [e r, e s, h]
  · have e : ∀ l : List UInt8, decide (j < l.length) = decide (j < (l.take 4).length) := by
      intro l
      rw [List.length_take]
      congr 1
      exact propext (by omega)
    rw [e r, e s, h]

theorem index_keep (t r W : List UInt8) (k : Nat) (h : Lib.index r t = k) (ht : t ≠ []) : Lib.index (r.take (k + t.length) ++ W) t = k ∧ k + t.length ≤ r.length := by
  have hocc : Lib.occAt r t k = true ∧ (∀ j, j < k → Lib.occAt r t j = false) ∧ k + t.length ≤ r.length := by
    have hk := Lib.index_le r t
    rw [h] at hk
    by_cases ho : ∃ j, j ≤ r.length ∧ Lib.occAt r t j = true
    · obtain ⟨j0, hj0, ho0⟩ := ho
      -- the first one
      have hfirst : ∃ j, j ≤ r.length ∧ Lib.occAt r t j = true ∧ ∀ i, i < j → Lib.occAt r t i = false := by
        induction j0 using Nat.strongRecOn with
        | _ j0 ih =>
          by_cases he : ∃ i, i < j0 ∧ Lib.occAt r t i = true
          · obtain ⟨i, hi, hoi⟩ := he
            exact ih i hi (by omega) hoi
          · refine ⟨j0, hj0, ho0, fun i hi => ?_⟩
            cases hb : Lib.occAt r t i with
            | false => rfl
            | true => exact absurd ⟨i, hi, hb⟩ he
      obtain ⟨j, hj, hoj, hno⟩ := hfirst
      have := Lib.index_first hj hoj hno
      rw [h] at this
      have hjk : j = k := by omega
      subst hjk
      refine ⟨hoj, hno, ?_⟩
      rcases Lib.occAt_room hoj with h' | h'
      · exact h'
      · exact absurd h' ht
    · have := Lib.index_none (s := r) (sub := t) (fun j hj => by
        cases hb : Lib.occAt r t j with
        | false => rfl
        | true => exact absurd ⟨j, hj, hb⟩ ho)
      rw [h] at this
      omega
  obtain ⟨h1, h2, h3⟩ := hocc
  refine ⟨?_, h3⟩
  have e : ∀ j, j ≤ k → Lib.occAt (r.take (k + t.length) ++ W) t j = Lib.occAt r t j := by
    intro j hj
    rw [Lib.occAt_iff_take r t j (by omega), Lib.occAt_iff_take _ t j (by simp; omega)]
    congr 1
    rw [List.drop_append_of_le_length (by simp; omega), List.take_append_of_le_length (by simp; omega), List.drop_take, List.take_take, Nat.min_eq_left (by omega)]
  exact Lib.index_first (by simp; omega) (by rw [e k (Nat.le_refl _)]; exact h1) (fun j hj => by rw [e j (by omega)]; exact h2 j hj)

theorem past_new (t r W : List UInt8) (ht : t ≠ []) (hW : Lib.index r t < 0 → W = []) : pastL t (pastP t r ++ W) = W ∧ pastP t (pastP t r ++ W) = pastP t r := by
  have h1 : pastL t (pastP t r ++ W) = W := by
    by_cases h0 : Lib.index r t < 0
    · rw [hW h0, List.append_nil]
      have : pastL t r = [] := by unfold pastL; rw [if_pos h0]
      have h2 := pastP_app t r
      rw [this, List.append_nil] at h2
      rw [h2, this]
    · obtain ⟨k, hk⟩ := Int.eq_ofNat_of_zero_le (show 0 ≤ Lib.index r t by omega)
      obtain ⟨h2, h3⟩ := index_keep t r W k hk ht
      have hp : pastP t r = r.take (k + t.length) := by
        unfold pastP pastL
        rw [if_neg h0, hk, Int.toNat_natCast, List.length_drop]
        congr 1
        omega
      rw [hp]
      unfold pastL
      rw [h2, if_neg (by omega), Int.toNat_natCast, List.drop_append, List.drop_of_length_le (by simp; omega)]
      have : k + t.length - (r.take (k + t.length)).length = 0 := by simp; omega
      rw [this]; rfl
  refine ⟨h1, ?_⟩
  show (pastP t r ++ W).take ((pastP t r ++ W).length - (pastL t (pastP t r ++ W)).length) = _
  rw [h1, List.length_append, Nat.add_sub_cancel, List.take_left]

/-- What holds no > is told ahead of it. -/
theorem prefix_gt : ∀ (s c y y' : List UInt8), (∀ b ∈ s, b ≠ 62) → s.isPrefixOf (c ++ 62 :: y) = s.isPrefixOf (c ++ 62 :: y')
  | [], _, _, _, _ => rfl
  | a :: s, [], y, y', h => by
    have : (a == 62) = false := by simpa using h a (by simp)
    simp [List.isPrefixOf, this]
  | a :: s, b :: c, y, y', h => by
    simp only [List.cons_append, List.isPrefixOf]
    rw [prefix_gt s c y y' (fun b hb => h b (by simp [hb]))]

theorem tagP_none {r : List UInt8} (shut : Bool) (h : attrsP ((stopD pName r).length + 1) (stopD pName r) [] = none) : tagP r shut = (raw r, []) := by unfold tagP; rw [h]
theorem tagP_open {r : List UInt8} {P : Pcs} {r' : List UInt8} (h : attrsP ((stopD pName r).length + 1) (stopD pName r) [] = some (P, r')) : tagP r false = (prep (stopT pName r) P, r') := by
  unfold tagP; rw [h]; rfl
theorem tagP_shut {r : List UInt8} {P : Pcs} {r' : List UInt8} (h : attrsP ((stopD pName r).length + 1) (stopD pName r) [] = some (P, r')) : tagP r true = (raw (stopT pName r ++ weave P (vals P)), r') := by
  unfold tagP; rw [h]; rfl
theorem subst_same (P : Pcs) : subst P (vals P) = P := by
  have e : ∀ l : List (List UInt8 × List UInt8), substL l (l.map (·.1)) = l := by
    intro l
    induction l with
    | nil => rfl
    | cons a l ih => simp [substL, ih]
  unfold subst vals; rw [e]
theorem tagP_new (c : UInt8) (r : List UInt8) (shut : Bool) (hc : pName c.toNat = false) (ts : List (List UInt8)) (hts : OkTs (tagP (c :: r) shut).1.2 ts) (W : List UInt8) (hW : (tagP (c :: r) shut).2 = [] → W = []) :
    tagP (weave (tagP (c :: r) shut).1 ts ++ W) shut = (subst (tagP (c :: r) shut).1 ts, W) ∧ ∃ y, weave (tagP (c :: r) shut).1 ts ++ W = c :: y := by
  have hx : ∃ x, stopT pName (c :: r) = c :: x := by
    unfold stopT; rw [List.takeWhile_cons]; simp [hc]
  obtain ⟨x, hx⟩ := hx
  have hn := stopT_not pName (c :: r)
  rcases h : attrsP ((stopD pName (c :: r)).length + 1) (stopD pName (c :: r)) [] with _ | ⟨P, r'⟩
  · rw [tagP_none shut h] at hts hW ⊢
    simp only [raw] at hts hW ⊢
    cases hts
    obtain rfl := hW trivial
    have e : weave (c :: r, []) [] ++ [] = c :: r := by simp [weave, weaveL]
    rw [e]
    exact ⟨by rw [tagP_none shut h]; rfl, r, rfl⟩
  · obtain ⟨h1, h2, _⟩ := attrsP_app _ _ _ P r' h
    obtain ⟨a0, p0, hp0⟩ := nonnil_of_stop h2
    have ha0 : pName a0.toNat = true := by
      have := weave_head hp0 (vals P) r'
      rw [← h1] at this
      exact stopD_head _ _ _ _ this
    have key : ∀ us, OkTs P.2 us → ∀ z, stopD pName (stopT pName (c :: r) ++ (weave P us ++ z)) = weave P us ++ z ∧ stopT pName (stopT pName (c :: r) ++ (weave P us ++ z)) = stopT pName (c :: r) ∧
        attrsP ((weave P us ++ z).length + 1) (weave P us ++ z) [] = some (subst P us, z) := by
      intro us hus z
      have e1 := stopD_pre pName (stopT pName (c :: r)) (weave P us ++ z) hn
      have e2 := stopD_at pName a0 (p0 ++ weaveL P.2 us ++ z) ha0
      rw [← weave_head hp0 us z] at e2
      rw [e2.1, e2.2, List.append_nil] at e1
      exact ⟨e1.1, e1.2, attrsP_some _ _ _ _ (attrsP_new _ _ _ P r' h us hus z) _ (by omega)⟩
    cases shut with
    | false =>
      rw [tagP_open h] at hts hW ⊢
      simp only at hts hW ⊢
      obtain ⟨k1, k2, k3⟩ := key ts hts W
      have et : weave (prep (stopT pName (c :: r)) P) ts ++ W = stopT pName (c :: r) ++ (weave P ts ++ W) := by rw [weave_prep, List.append_assoc]
      rw [et]
      refine ⟨?_, x ++ (weave P ts ++ W), by rw [hx]; rfl⟩
      rw [tagP_open (P := subst P ts) (r' := W) (by rw [k1]; exact k3), k2]
      rfl
    | true =>
      rw [tagP_shut h] at hts hW ⊢
      simp only [raw] at hts hW ⊢
      cases hts
      obtain ⟨k1, k2, k3⟩ := key (vals P) (OkTs.same P.2) W
      have et : weave (stopT pName (c :: r) ++ weave P (vals P), []) [] ++ W = stopT pName (c :: r) ++ (weave P (vals P) ++ W) := by simp [weave, weaveL]
      rw [et]
      refine ⟨?_, x ++ (weave P (vals P) ++ W), by rw [hx]; rfl⟩
      rw [tagP_shut (P := subst P (vals P)) (r' := W) (by rw [k1]; exact k3), k2, subst_same]
      rfl
theorem isLet_not : ∀ x : Fin 256, isLet x.val = true → pName x.val = false ∧ x.val ≠ 33 ∧ x.val ≠ 63 ∧ x.val ≠ 47 := by decide +kernel
theorem let_not (c : UInt8) (h : isLet c.toNat = true) : pName c.toNat = false ∧ c ≠ 33 ∧ c ≠ 63 ∧ c ≠ 47 := by
  have := isLet_not ⟨c.toNat, c.toNat_lt⟩ h
  refine ⟨this.1, ?_, ?_, ?_⟩
  · rintro rfl; exact this.2.1 rfl
  · rintro rfl; exact this.2.2.1 rfl
  · rintro rfl; exact this.2.2.2 rfl

theorem stepP_new (r : List UInt8) (ts : List (List UInt8)) (hts : OkTs (stepP (60 :: r)).1.2 ts) (W : List UInt8) (hW : W.take 3 = (stepP (60 :: r)).2.take 3) :
    stepP (weave (stepP (60 :: r)).1 ts ++ W) = (subst (stepP (60 :: r)).1 ts, W) ∧ ∃ y, weave (stepP (60 :: r)).1 ts ++ W = 60 :: y := by
  have hW0 : (stepP (60 :: r)).2 = [] → W = [] := by
    intro h
    rw [h] at hW
    cases W with
    | nil => rfl
    | cons a w => simp at hW
  unfold stepP at hts hW hW0
  by_cases h1 : Lib.hasPrefix (60 :: r) [60, 33, 45, 45] = true
  · rw [if_pos h1] at hts hW hW0
    have hS : stepP (60 :: r) = (raw ((60 :: r).take 4 ++ pastP [45, 45, 62] ((60 :: r).drop 4)), pastL [45, 45, 62] ((60 :: r).drop 4)) := by unfold stepP; rw [if_pos h1]
    rw [hS]
    simp only at hts hW hW0 ⊢
    cases hts
    obtain ⟨y, hy⟩ : ∃ y, 60 :: r = 60 :: 33 :: 45 :: 45 :: y := by
      obtain ⟨y, hy⟩ := List.isPrefixOf_iff_prefix.1 h1
      exact ⟨y, hy.symm⟩
    rw [hy] at hW0 ⊢
    have hp := past_new [45, 45, 62] y W (by simp) (fun h => hW0 (by show pastL _ y = []; unfold pastL; rw [if_pos h]))
    have et : weave (raw ((60 :: 33 :: 45 :: 45 :: y).take 4 ++ pastP [45, 45, 62] ((60 :: 33 :: 45 :: 45 :: y).drop 4))) [] ++ W = 60 :: 33 :: 45 :: 45 :: (pastP [45, 45, 62] y ++ W) := by simp [raw, weave, weaveL]
    rw [et]
    refine ⟨?_, _, rfl⟩
    have hq : Lib.hasPrefix (60 :: 33 :: 45 :: 45 :: (pastP [45, 45, 62] y ++ W)) [60, 33, 45, 45] = true := rfl
    unfold stepP
    rw [if_pos hq]
    show (raw ([60, 33, 45, 45] ++ pastP [45, 45, 62] (pastP [45, 45, 62] y ++ W)), pastL [45, 45, 62] (pastP [45, 45, 62] y ++ W)) = _
    rw [hp.1, hp.2]
    rfl
  · rw [if_neg h1] at hts hW hW0
    by_cases h2 : (Lib.hasPrefix (60 :: r) [60, 33] || Lib.hasPrefix (60 :: r) [60, 63]) = true
    · rw [if_pos h2] at hts hW hW0
      have hS : stepP (60 :: r) = (raw (pastP [62] (60 :: r)), pastL [62] (60 :: r)) := by unfold stepP; rw [if_neg h1, if_pos h2]
      rw [hS]
      simp only at hts hW hW0 ⊢
      cases hts
      have et : weave (raw (pastP [62] (60 :: r))) [] ++ W = pastP [62] (60 :: r) ++ W := by simp [raw, weave, weaveL]
      rw [et]
      by_cases h0 : Lib.index (60 :: r) [62] < 0
      · have e : pastL [62] (60 :: r) = [] := by unfold pastL; rw [if_pos h0]
        obtain rfl := hW0 e
        have e2 := pastP_app [62] (60 :: r)
        rw [e, List.append_nil] at e2
        rw [List.append_nil, e2]
        refine ⟨?_, r, rfl⟩
        rw [hS, e, e2]
        rfl
      · obtain ⟨k, hk⟩ := Int.eq_ofNat_of_zero_le (show 0 ≤ Lib.index (60 :: r) [62] by omega)
        have hp := past_new [62] (60 :: r) W (by simp) (fun h => absurd h h0)
        have hk' := hk
        rw [Lib.index_one] at hk'
        have hk2 := (Lib.indexByte_some hk').1
        have hlen := (index_keep [62] (60 :: r) W k hk (by simp)).2
        simp only [List.length_singleton] at hlen
        have hPP : pastP [62] (60 :: r) = (60 :: r).take k ++ [62] := by
          unfold pastP pastL
          rw [if_neg h0, hk, Int.toNat_natCast, List.length_drop]
          have e : (60 :: r).length - ((60 :: r).length - (k + ([62] : List UInt8).length)) = k + 1 := by simp only [List.length_singleton]; omega
          rw [e, List.take_add_one, hk2]
          rfl
        have hold : 60 :: r = (60 :: r).take k ++ 62 :: (60 :: r).drop (k + 1) := by
          have := pastP_app [62] (60 :: r)
          rw [hPP] at this
          have e : pastL [62] (60 :: r) = (60 :: r).drop (k + 1) := by unfold pastL; rw [if_neg h0, hk, Int.toNat_natCast]; rfl
          rw [e, List.append_assoc] at this
          exact this.symm
        have hnew : pastP [62] (60 :: r) ++ W = (60 :: r).take k ++ 62 :: W := by rw [hPP, List.append_assoc]; rfl
        have hpre : ∀ s : List UInt8, (∀ b ∈ s, b ≠ 62) → Lib.hasPrefix (pastP [62] (60 :: r) ++ W) s = Lib.hasPrefix (60 :: r) s := by
          intro s hs
          unfold Lib.hasPrefix
          rw [hnew]
          conv => rhs; rw [hold]
          exact prefix_gt s _ _ _ hs
        have n1 : ¬ Lib.hasPrefix (pastP [62] (60 :: r) ++ W) [60, 33, 45, 45] = true := by rw [hpre _ (by decide)]; exact h1
        have n2 : (Lib.hasPrefix (pastP [62] (60 :: r) ++ W) [60, 33] || Lib.hasPrefix (pastP [62] (60 :: r) ++ W) [60, 63]) = true := by rw [hpre _ (by decide), hpre _ (by decide)]; exact h2
        refine ⟨?_, ?_⟩
        · rw [show stepP (pastP [62] (60 :: r) ++ W) = (raw (pastP [62] (pastP [62] (60 :: r) ++ W)), pastL [62] (pastP [62] (60 :: r) ++ W)) by unfold stepP; rw [if_neg n1, if_pos n2], hp.1, hp.2]
          rfl
        · rw [hnew]
          cases k with
          | zero => simp at hk2
          | succ k => exact ⟨_, by rw [List.take_succ_cons]; rfl⟩
    · rw [if_neg h2] at hts hW hW0
      by_cases h3 : (decide (1 < (60 :: r).length) && isLet (nth (60 :: r) 1)) = true
      · rw [if_pos h3] at hts hW hW0
        have hS : stepP (60 :: r) = (prep ((60 :: r).take 1) (tagP ((60 :: r).drop 1) false).1, (tagP ((60 :: r).drop 1) false).2) := by unfold stepP; rw [if_neg h1, if_neg h2, if_pos h3]
        rw [hS]
        simp only [Bool.and_eq_true, decide_eq_true_eq] at h3
        match r, h3 with
        | [], h3 => simp at h3
        | c :: r2, h3 =>
          have hl : isLet c.toNat = true := h3.2
          obtain ⟨l1, l2, l3, l4⟩ := let_not c hl
          obtain ⟨t1, y, t2⟩ := tagP_new c r2 false l1 ts hts W hW0
          have et : weave (prep ((60 :: c :: r2).take 1) (tagP ((60 :: c :: r2).drop 1) false).1) ts ++ W = 60 :: (weave (tagP (c :: r2) false).1 ts ++ W) := by rw [weave_prep]; rfl
          rw [et]
          refine ⟨?_, _, rfl⟩
          rw [t2]
          have n1 : ¬ Lib.hasPrefix (60 :: c :: y) [60, 33, 45, 45] = true := by simp [Lib.hasPrefix, List.isPrefixOf, Ne.symm l2]
          have n2 : ¬ (Lib.hasPrefix (60 :: c :: y) [60, 33] || Lib.hasPrefix (60 :: c :: y) [60, 63]) = true := by simp [Lib.hasPrefix, List.isPrefixOf, Ne.symm l2, Ne.symm l3]
          have n3 : (decide (1 < (60 :: c :: y).length) && isLet (nth (60 :: c :: y) 1)) = true := by simp [nth, hl]
          rw [show stepP (60 :: c :: y) = (prep ((60 :: c :: y).take 1) (tagP ((60 :: c :: y).drop 1) false).1, (tagP ((60 :: c :: y).drop 1) false).2) by unfold stepP; rw [if_neg n1, if_neg n2, if_pos n3]]
          show (prep [60] (tagP (c :: y) false).1, (tagP (c :: y) false).2) = _
          rw [← t2, t1]
          rfl
      · rw [if_neg h3] at hts hW hW0
        by_cases h4 : (decide (2 < (60 :: r).length) && nth (60 :: r) 1 == 47 && isLet (nth (60 :: r) 2)) = true
        · rw [if_pos h4] at hts hW hW0
          have hS : stepP (60 :: r) = (prep ((60 :: r).take 2) (tagP ((60 :: r).drop 2) true).1, (tagP ((60 :: r).drop 2) true).2) := by unfold stepP; rw [if_neg h1, if_neg h2, if_neg h3, if_pos h4]
          rw [hS]
          simp only [Bool.and_eq_true, decide_eq_true_eq] at h4
          match r, h4 with
          | [], h4 => simp at h4
          | [a], h4 => simp at h4
          | a :: c :: r2, h4 =>
            have hl : isLet c.toNat = true := h4.2
            have ha : a = 47 := by
              have : a.toNat = 47 := by simpa [nth] using h4.1.2
              exact UInt8.toNat_inj.1 this
            subst ha
            obtain ⟨l1, l2, l3, l4⟩ := let_not c hl
            obtain ⟨t1, y, t2⟩ := tagP_new c r2 true l1 ts hts W hW0
            have et : weave (prep ((60 :: 47 :: c :: r2).take 2) (tagP ((60 :: 47 :: c :: r2).drop 2) true).1) ts ++ W = 60 :: 47 :: (weave (tagP (c :: r2) true).1 ts ++ W) := by rw [weave_prep]; rfl
            rw [et]
            refine ⟨?_, _, rfl⟩
            rw [t2]
            have n1 : ¬ Lib.hasPrefix (60 :: 47 :: c :: y) [60, 33, 45, 45] = true := by simp [Lib.hasPrefix, List.isPrefixOf]
            have n2 : ¬ (Lib.hasPrefix (60 :: 47 :: c :: y) [60, 33] || Lib.hasPrefix (60 :: 47 :: c :: y) [60, 63]) = true := by simp [Lib.hasPrefix, List.isPrefixOf]
            have n3 : ¬ (decide (1 < (60 :: 47 :: c :: y).length) && isLet (nth (60 :: 47 :: c :: y) 1)) = true := by simp [nth]; decide
            have n4 : (decide (2 < (60 :: 47 :: c :: y).length) && nth (60 :: 47 :: c :: y) 1 == 47 && isLet (nth (60 :: 47 :: c :: y) 2)) = true := by simp [nth, hl]
            rw [show stepP (60 :: 47 :: c :: y) = (prep ((60 :: 47 :: c :: y).take 2) (tagP ((60 :: 47 :: c :: y).drop 2) true).1, (tagP ((60 :: 47 :: c :: y).drop 2) true).2) by unfold stepP; rw [if_neg n1, if_neg n2, if_neg n3, if_pos n4]]
            show (prep [60, 47] (tagP (c :: y) true).1, (tagP (c :: y) true).2) = _
            rw [← t2, t1]
            rfl
        · rw [if_neg h4] at hts hW hW0
          have hS : stepP (60 :: r) = (raw ((60 :: r).take 1), (60 :: r).drop 1) := by unfold stepP; rw [if_neg h1, if_neg h2, if_neg h3, if_neg h4]
          rw [hS]
          simp only at hts hW hW0 ⊢
          cases hts
          have h44 : (60 :: W).take 4 = (60 :: r).take 4 := by simpa using hW
          obtain ⟨q1, q2, q3⟩ := take4 h44
          refine ⟨?_, W, by simp [raw, weave, weaveL]⟩
          have et : weave (raw ((60 :: r).take 1)) [] ++ W = 60 :: W := by simp [raw, weave, weaveL]
          rw [et]
          have n1 : ¬ Lib.hasPrefix (60 :: W) [60, 33, 45, 45] = true := by rw [q1 _ (by decide)]; exact h1
          have n2 : ¬ (Lib.hasPrefix (60 :: W) [60, 33] || Lib.hasPrefix (60 :: W) [60, 63]) = true := by rw [q1 _ (by decide), q1 _ (by decide)]; exact h2
          have n3 : ¬ (decide (1 < (60 :: W).length) && isLet (nth (60 :: W) 1)) = true := by rw [q2 1 (by omega), q3 1 (by omega)]; exact h3
          have n4 : ¬ (decide (2 < (60 :: W).length) && nth (60 :: W) 1 == 47 && isLet (nth (60 :: W) 2)) = true := by rw [q2 1 (by omega), q2 2 (by omega), q3 2 (by omega)]; exact h4
          rw [show stepP (60 :: W) = (raw ((60 :: W).take 1), (60 :: W).drop 1) by unfold stepP; rw [if_neg n1, if_neg n2, if_neg n3, if_neg n4]]
          rfl
end Go.Proofs.YtoolfhjlhhcbgaaDoor

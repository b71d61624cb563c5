import Derived.Test.YtoolfhjlhhcbgaaDoorLinkQ
namespace Go.Proofs.YtoolfhjlhhcbgaaDoor

theorem valueR_nil {t : List UInt8} (h : stopD pNotSp t = []) : valueR t = ([], [], []) := by unfold valueR; rw [h]
theorem valueR_cons {r : List UInt8} {c : UInt8} {r2 : List UInt8} (h : stopD pNotSp r = c :: r2) : valueR r = if c = 34 ∨ c = 39 then (r2, stopD (pIs c.toNat) r2, (stopD (pIs c.toNat) r2).drop 1) else (c :: r2, stopD pVal (c :: r2), stopD pVal (c :: r2)) := by
  show (match stopD pNotSp r with | [] => _ | c :: r2 => _) = _
  rw [h]
theorem valueR_valP (t : List UInt8) : (valueR t).2.2 = (valP t).2.2.2 ∧ (valueR t).1 = (valP t).2.1 ++ ((valP t).2.2.1 ++ (valP t).2.2.2) ∧ (valueR t).2.1 = (valP t).2.2.1 ++ (valP t).2.2.2 := by
  rcases h : stopD pNotSp t with _ | ⟨c, r2⟩
  · rw [valueR_nil h, valP_nil h]; exact ⟨rfl, rfl, rfl⟩
  · rw [valueR_cons h, valP_cons h]
    split
    · refine ⟨rfl, ?_, ?_⟩
      · show r2 = _ ++ (_ ++ _)
        rw [List.take_append_drop, stop_app]
      · show stopD _ r2 = _
        rw [List.take_append_drop]
    · refine ⟨rfl, ?_, rfl⟩
      show c :: r2 = stopT pVal (c :: r2) ++ ([] ++ stopD pVal (c :: r2))
      rw [List.nil_append, stop_app]
theorem attrsL_eq (n : Nat) : ∀ (f : Nat) (r : List UInt8) (seen : List (List UInt8)) (ls : List LinkD) (pos : Nat), pos + r.length = n →
    attrsL n f r seen ls = (attrsP f r seen).map fun q => (q.2, ls ++ links pos q.1) := by
  intro f
  induction f with
  | zero => intro r seen ls pos h; rfl
  | succ f ih =>
    intro r seen ls pos h
    unfold attrsL attrsP
    have h0 := stop_app pAttr r
    rcases hc : stopD pAttr r with _ | ⟨c, r2⟩
    · rfl
    · rw [hc] at h0
      simp only
      have h1 := stop_app pEq r2
      split
      · simp [links, linksL]
      · split
        · rename_i h61
          have h4 := stop_app pNotSp (stopD pEq r2)
          have h5 : stopD pNotSp (stopD pEq r2) = 61 :: (stopD pNotSp (stopD pEq r2)).tail := by
            cases hd : stopD pNotSp (stopD pEq r2) with
            | nil => rw [hd] at h61; cases h61
            | cons d x => rw [hd] at h61; simp at h61; rw [h61]; rfl
          rw [h5] at h4
          obtain ⟨v1, v2, v3⟩ := valueR_valP (stopD pNotSp (stopD pEq r2)).tail
          have h6 := valP_app (stopD pNotSp (stopD pEq r2)).tail
          generalize (stopD pNotSp (stopD pEq r2)).tail = V at *
          have L0 := congrArg List.length h0
          have L1 := congrArg List.length h1
          have L4 := congrArg List.length h4
          have L6 := congrArg List.length h6
          simp only [List.length_append, List.length_cons] at L0 L1 L4 L6
          rw [v1, ih _ _ _ (n - (valP V).2.2.2.length) (by omega), Option.map_map]
          congr 1
          funext q
          simp only [Function.comp]
          congr 1
          have hpos : n - (valP V).2.2.2.length = pos + (stopT pAttr r ++ (c :: stopT pEq r2) ++ stopT pNotSp (stopD pEq r2) ++ [61] ++ (valP V).1 ++ (valP V).2.1 ++ (valP V).2.2.1).length := by
            simp only [List.length_append, List.length_cons, List.length_nil]
            omega
          unfold addLink
          split
          · have hf : n - (valueR V).1.length = pos + (stopT pAttr r ++ (c :: stopT pEq r2) ++ stopT pNotSp (stopD pEq r2) ++ [61] ++ (valP V).1).length := by
              rw [v2]
              simp only [List.length_append, List.length_cons, List.length_nil]
              omega
            have ht : n - (valueR V).2.1.length = pos + (stopT pAttr r ++ (c :: stopT pEq r2) ++ stopT pNotSp (stopD pEq r2) ++ [61] ++ (valP V).1).length + (valP V).2.1.length := by
              rw [v3]
              simp only [List.length_append, List.length_cons, List.length_nil]
              omega
            have hx : (valueR V).1.take ((valueR V).1.length - (valueR V).2.1.length) = (valP V).2.1 := by
              rw [v2, v3]
              have : ((valP V).2.1 ++ ((valP V).2.2.1 ++ (valP V).2.2.2)).length - ((valP V).2.2.1 ++ (valP V).2.2.2).length = (valP V).2.1.length := by simp only [List.length_append]; omega
              rw [this, List.take_left]
            rw [hf, ht, hx, hpos, List.append_assoc]
            unfold links
            have e : (pos + (stopT pAttr r ++ (c :: stopT pEq r2) ++ stopT pNotSp (stopD pEq r2) ++ [61] ++ (valP V).1 ++ (valP V).2.1 ++ (valP V).2.2.1).length) + q.1.1.length = (pos + (stopT pAttr r ++ (c :: stopT pEq r2) ++ stopT pNotSp (stopD pEq r2) ++ [61] ++ (valP V).1).length) + (valP V).2.1.length + ((valP V).2.2.1 ++ q.1.1).length := by
              simp only [List.length_append]
              omega
            rw [e]
            rfl
          · rw [links_prep, hpos]
        · have L0 := congrArg List.length h0
          have L1 := congrArg List.length h1
          simp only [List.length_append, List.length_cons] at L0 L1
          rw [ih _ _ _ (n - (stopD pEq r2).length) (by omega), Option.map_map]
          congr 1
          funext q
          simp only [Function.comp, links_prep]
          congr 3
          simp only [List.length_append, List.length_cons]
          omega
theorem tagL_eq (n : Nat) (r : List UInt8) (shut : Bool) (out : List LinkD) (pos : Nat) (h : pos + r.length = n) : tagL n r shut out = ((tagP r shut).2, out ++ links pos (tagP r shut).1) := by
  have h0 := congrArg List.length (stop_app pName r)
  rw [List.length_append] at h0
  have e := attrsL_eq n ((stopD pName r).length + 1) (stopD pName r) [] [] (pos + (stopT pName r).length) (by omega)
  unfold tagL
  rcases ha : attrsP ((stopD pName r).length + 1) (stopD pName r) [] with _ | ⟨P, r'⟩
  · rw [ha] at e
    rw [e, tagP_none shut ha]
    simp [links, raw, linksL]
  · rw [ha] at e
    rw [e]
    cases shut with
    | false => rw [tagP_open ha]; simp [links_prep]
    | true => rw [tagP_shut ha]; simp [links, raw, linksL]
theorem stepL_eq (n : Nat) (r : List UInt8) (out : List LinkD) (pos : Nat) (h : pos + r.length = n) : stepL n r out = ((stepP r).2, out ++ links pos (stepP r).1) := by
  have hraw : ∀ (x : List UInt8), links pos (raw x) = [] := fun x => rfl
  unfold stepL stepP
  split
  · rw [hraw, List.append_nil]
  · split
    · rw [hraw, List.append_nil]
    · split
      · rename_i h3
        simp only [Bool.and_eq_true, decide_eq_true_eq] at h3
        rw [tagL_eq n _ _ _ (pos + 1) (by rw [List.length_drop]; omega)]
        show _ = (_, out ++ links pos (prep (r.take 1) _))
        rw [links_prep, List.length_take]
        congr 3
        omega
      · split
        · rename_i h3
          simp only [Bool.and_eq_true, decide_eq_true_eq] at h3
          rw [tagL_eq n _ _ _ (pos + 2) (by rw [List.length_drop]; omega)]
          show _ = (_, out ++ links pos (prep (r.take 2) _))
          rw [links_prep, List.length_take]
          congr 3
          omega
        · rw [hraw, List.append_nil]
theorem findL_eq (n : Nat) : ∀ (f : Nat) (r : List UInt8) (out : List LinkD) (pos : Nat) (P : Pcs), pos + r.length = n → findP f r = some P → out.length ≤ 60 →
    findL n f r out = if 60 < (out ++ links pos P).length then none else some (out ++ links pos P) := by
  intro f
  induction f with
  | zero =>
    intro r out pos P h hP ho
    unfold findP at hP
    split at hP
    · injection hP with hP
      subst hP
      unfold findL
      rw [show links pos (raw []) = [] from rfl, List.append_nil, if_neg (by omega)]
    · cases hP
  | succ f ih =>
    intro r out pos P h hP ho
    unfold findP at hP
    unfold findL
    split at hP
    · rename_i hr
      injection hP with hP
      subst hP
      rw [if_pos hr, show links pos (raw []) = [] from rfl, List.append_nil, if_neg (by omega)]
    · rename_i hr
      rw [if_neg hr]
      obtain ⟨Q, hQ, rfl⟩ := Option.map_eq_some_iff.1 hP
      have h0 := congrArg List.length (stop_app (pIs 60) r)
      have h1 := congrArg List.length (stepP_app (stopD (pIs 60) r))
      simp only [List.length_append] at h0 h1
      rw [stepL_eq n _ _ (pos + (stopT (pIs 60) r).length) (by omega)]
      have e : links pos (prep (stopT (pIs 60) r) (catP (stepP (stopD (pIs 60) r)).1 Q)) = links (pos + (stopT (pIs 60) r).length) (stepP (stopD (pIs 60) r)).1 ++ links (n - (stepP (stopD (pIs 60) r)).2.length) Q := by
        rw [links_prep, links_catP]
        congr 2
        omega
      rw [e, ← List.append_assoc]
      simp only
      split
      · rw [if_pos (by rw [List.length_append]; omega)]
      · exact ih _ _ _ Q (by omega) hQ (by omega)
theorem findB_eq (b : List UInt8) : findB b = if 60 < (pcs b).2.length then none else some (links 0 (pcs b)) := by
  have h := findL_eq b.length b.length b [] 0 (pcs b) (by omega) (pcs_find b _ (Nat.le_refl _)) (by simp)
  rw [List.nil_append, links_len] at h
  exact h

/-! ### Put -/
def badPut (x : Nat) : Bool := decide (x ≤ 32) || decide (126 < x) || x == 34 || x == 39 || x == 60 || x == 62 || x == 38 || x == 61
def pick (v t : List UInt8) : List UInt8 := if t = [] then v else t
def picks : List (List UInt8 × List UInt8) → List (List UInt8) → List (List UInt8)
  | x :: l, t :: ts => pick x.1 t :: picks l ts
  | _, _ => []
/-- Put's loop: from 'at' on, with what is out already. -/
def putL (b : List UInt8) : Nat → List UInt8 → List LinkD → List (List UInt8) → List UInt8
  | at_, out, x :: l, t :: ts => if t = [] then putL b at_ out l ts else putL b x.til (out ++ (b.take x.frm).drop at_ ++ t) l ts
  | at_, out, _, _ => out ++ b.drop at_
/-- link.Put, its answer and its error. -/
def putB (b : List UInt8) (ts : List (List UInt8)) : List UInt8 × Nat :=
  match findB b with
  | none => ([], 2)
  | some l => if ts.length ≠ l.length then ([], 4) else if ts.any (fun t => t.any fun c => badPut c.toNat) then ([], 1) else if 4000 < (putL b 0 [] l ts).length then ([], 2) else (putL b 0 [] l ts, 0)
theorem putL_eq : ∀ (l : List (List UInt8 × List UInt8)) (ts : List (List UInt8)) (pre out : List UInt8) (b : List UInt8) (at_ : Nat), ts.length = l.length → b = pre ++ weaveL l (l.map (·.1)) → at_ ≤ pre.length →
    putL b at_ out (linksL pre.length l) ts = out ++ (pre.drop at_ ++ weaveL l (picks l ts))
  | [], [], pre, out, b, at_, _, hb, h => by
    subst hb
    simp [linksL, putL, weaveL]
  | [], t :: ts, _, _, _, _, h, _, _ => by simp at h
  | x :: l, [], _, _, _, _, h, _, _ => by simp at h
  | x :: l, t :: ts, pre, out, b, at_, hl, hb, h => by
    have hb' : b = (pre ++ x.1 ++ x.2) ++ weaveL l (l.map (·.1)) := by rw [hb]; simp [weaveL]
    have hlen : (pre ++ x.1 ++ x.2).length = pre.length + x.1.length + x.2.length := by simp; omega
    simp only [linksL, putL, picks, pick]
    split
    · rename_i ht
      have := putL_eq l ts (pre ++ x.1 ++ x.2) out b at_ (by simpa using hl) hb' (by rw [hlen]; omega)
      rw [hlen] at this
      rw [this, List.append_assoc pre, List.drop_append_of_le_length h]
      simp [weaveL]
    · rename_i ht
      have := putL_eq l ts (pre ++ x.1 ++ x.2) (out ++ (b.take pre.length).drop at_ ++ t) b (pre.length + x.1.length) (by simpa using hl) hb' (by rw [hlen]; omega)
      rw [hlen] at this
      rw [this]
      have e1 : (b.take pre.length).drop at_ = pre.drop at_ := by rw [hb, List.take_left]
      have e2 : (pre ++ x.1 ++ x.2).drop (pre.length + x.1.length) = x.2 := by
        have : pre.length + x.1.length = (pre ++ x.1).length := by simp
        rw [this, List.drop_left]
      rw [e1, e2]
      simp [weaveL]
theorem putL_weave (b : List UInt8) (ts : List (List UInt8)) (h : ts.length = (pcs b).2.length) : putL b 0 [] (links 0 (pcs b)) ts = weave (pcs b) (picks (pcs b).2 ts) := by
  have := putL_eq (pcs b).2 ts (pcs b).1 [] b 0 h (pcs_app b) (Nat.zero_le _)
  unfold links
  rw [Nat.zero_add, this]
  rfl

/-! ### LinkPuts -/
theorem unamp_good (t : List UInt8) (h : ∀ b ∈ t, b ≠ 38) : unamp t = t := by
  have hi : Lib.index t [38, 97, 109, 112, 59] = -1 := by
    refine Lib.index_none fun j hj => ?_
    cases hb : Lib.occAt t [38, 97, 109, 112, 59] j with
    | false => rfl
    | true =>
      have := Lib.occAt_head rfl hb
      exact absurd rfl (h 38 (List.mem_of_getElem? this))
  have hc : Lib.count t [38, 97, 109, 112, 59] = 0 := Lib.count_miss hi
  unfold unamp Lib.replaceAll Lib.replace
  rw [if_neg (by decide), show Lib.replaceNum t [38, 97, 109, 112, 59] (-1) = 0 by unfold Lib.replaceNum; rw [hc]; simp]
  rfl
theorem good_of_bad {t : List UInt8} (h : t.any (fun c => badPut c.toNat) = false) (h0 : t ≠ []) : goodT t ∧ ∀ b ∈ t, b ≠ 38 := by
  have hall : ∀ b ∈ t, badPut b.toNat = false := by simpa using h
  refine ⟨⟨h0, fun b hb => ?_⟩, fun b hb => ?_⟩
  · have := hall b hb
    simp only [badPut, Bool.or_eq_false_iff, decide_eq_false_iff_not, beq_eq_false_iff_ne] at this
    obtain ⟨⟨⟨⟨⟨⟨⟨h1, h2⟩, h3⟩, h4⟩, h5⟩, h6⟩, h7⟩, h8⟩ := this
    refine ⟨?_, ?_, ?_, ?_⟩
    · simp only [isSp, Bool.or_eq_false_iff, beq_eq_false_iff_ne]; omega
    · rintro rfl; exact h6 rfl
    · rintro rfl; exact h3 rfl
    · rintro rfl; exact h4 rfl
  · have := hall b hb
    simp only [badPut, Bool.or_eq_false_iff, decide_eq_false_iff_not, beq_eq_false_iff_ne] at this
    rintro rfl
    exact this.1.2 rfl
theorem picks_ok : ∀ (l : List (List UInt8 × List UInt8)) (ts : List (List UInt8)), ts.length = l.length → ts.any (fun t => t.any fun c => badPut c.toNat) = false → OkTs l (picks l ts)
  | [], [], _, _ => .nil
  | [], t :: ts, h, _ => by simp at h
  | x :: l, [], h, _ => by simp at h
  | x :: l, t :: ts, h, hb => by
    rw [List.any_cons, Bool.or_eq_false_iff] at hb
    refine .cons ?_ (picks_ok l ts (by simpa using h) hb.2)
    unfold pick
    split
    · exact .inl rfl
    · rename_i h0
      exact .inr (good_of_bad hb.1 h0).1
/-- The law's loop. -/
def putsL (b c : List UInt8) : Nat → Nat → List LinkD → List LinkD → List (List UInt8) → Bool
  | x, y, l :: ls, m :: ms, t :: ts => m.text == (if t == [] then l.text else t) && ((b.take l.frm).drop x == (c.take m.frm).drop y) && decide (l.frm ≤ l.til) && putsL b c l.til m.til ls ms ts
  | x, y, _, _, _ => b.drop x == c.drop y
theorem putsL_true : ∀ (l : List (List UInt8 × List UInt8)) (ts : List (List UInt8)) (x y : Nat) (p q z b c : List UInt8), ts.length = l.length → ts.any (fun t => t.any fun c => badPut c.toNat) = false →
    b = p ++ (z ++ weaveL l (l.map (·.1))) → c = q ++ (z ++ weaveL l (picks l ts)) → x = p.length → y = q.length →
    putsL b c x y (linksL (p ++ z).length l) (linksL (q ++ z).length (substL l (picks l ts))) ts = true
  | [], [], x, y, p, q, z, b, c, _, _, hb, hc, hx, hy => by
    subst hb hc hx hy
    simp [putsL, linksL, weaveL]
  | [], t :: ts, _, _, _, _, _, _, _, h, _, _, _, _, _ => by simp at h
  | a :: l, [], _, _, _, _, _, _, _, h, _, _, _, _, _ => by simp at h
  | a :: l, t :: ts, x, y, p, q, z, b, c, h, hbad, hb, hc, hx, hy => by
    rw [List.any_cons, Bool.or_eq_false_iff] at hbad
    have ih := putsL_true l ts (p ++ z ++ a.1).length (q ++ z ++ pick a.1 t).length (p ++ z ++ a.1) (q ++ z ++ pick a.1 t) a.2 b c (by simpa using h) hbad.2 (by rw [hb]; simp [weaveL]) (by rw [hc]; simp [weaveL, picks]) rfl rfl
    simp only [putsL, linksL, picks, substL, Bool.and_eq_true]
    refine ⟨⟨⟨?_, ?_⟩, by simp⟩, ?_⟩
    · unfold pick
      by_cases ht : t = []
      · subst ht; simp
      · rw [if_neg ht, if_neg (by simpa using ht), unamp_good t (good_of_bad hbad.1 ht).2]
        simp
    · rw [hb, hc, hx, hy]
      have e1 : (p ++ (z ++ weaveL (a :: l) (List.map (·.1) (a :: l)))).take (p ++ z).length = p ++ z := by rw [← List.append_assoc, List.take_left]
      have e2 : (q ++ (z ++ weaveL (a :: l) (picks (a :: l) (t :: ts)))).take (q ++ z).length = q ++ z := by rw [← List.append_assoc, List.take_left]
      rw [e1, e2, List.drop_left, List.drop_left]
      simp
    · have e1 : (p ++ z).length + a.1.length = (p ++ z ++ a.1).length := by simp only [List.length_append]
      have e2 : (q ++ z).length + (pick a.1 t).length = (q ++ z ++ pick a.1 t).length := by simp only [List.length_append]
      have e3 : (p ++ z ++ a.1).length + a.2.length = (p ++ z ++ a.1 ++ a.2).length := by simp only [List.length_append]
      have e4 : (q ++ z ++ pick a.1 t).length + a.2.length = (q ++ z ++ pick a.1 t ++ a.2).length := by simp only [List.length_append]
      rw [e1, e2, e3, e4]
      exact ih
/-- What is found behind Put. -/
theorem puts_law (b : List UInt8) (l : List LinkD) (ts : List (List UInt8)) (hl : findB b = some l) (he : (putB b ts).2 = 0) :
    ∃ m, findB (putB b ts).1 = some m ∧ m.length = l.length ∧ putsL b (putB b ts).1 0 0 l m ts = true := by
  have hf := findB_eq b
  rw [hl] at hf
  split at hf
  · cases hf
  · rename_i h60
    have hf := Option.some.inj hf
    subst hf
    unfold putB at he ⊢
    rw [hl] at he ⊢
    simp only at he ⊢
    split at he
    · simp at he
    · rename_i hlen
      rw [if_neg hlen]
      split at he
      · simp at he
      · rename_i hbad
        rw [if_neg hbad]
        split at he
        · simp at he
        · rename_i h4
          rw [if_neg h4]
          have hbad : ts.any (fun t => t.any fun c => badPut c.toNat) = false := by simpa using hbad
          have hlen : ts.length = (pcs b).2.length := by rw [links_len] at hlen; omega
          simp only
          rw [putL_weave b ts hlen]
          have hok := picks_ok (pcs b).2 ts hlen hbad
          have hnew := pcs_new b (picks (pcs b).2 ts) hok
          have hsl : ∀ (l : List (List UInt8 × List UInt8)) (us : List (List UInt8)), us.length = l.length → (substL l us).length = l.length := by
            intro l
            induction l with
            | nil => intro us h; cases us with | nil => rfl | cons a us => simp at h
            | cons a l ih => intro us h; cases us with | nil => simp at h | cons u us => simp [substL, ih us (by simpa using h)]
          have h2 : (subst (pcs b) (picks (pcs b).2 ts)).2.length = (pcs b).2.length := hsl _ _ hok.len
          refine ⟨links 0 (subst (pcs b) (picks (pcs b).2 ts)), ?_, by rw [links_len, links_len, h2], ?_⟩
          · rw [findB_eq, hnew, h2, if_neg h60]
          · have := putsL_true (pcs b).2 ts 0 0 [] [] (pcs b).1 b (weave (pcs b) (picks (pcs b).2 ts)) hlen hbad (pcs_app b) rfl rfl rfl
            simpa [links, subst] using this
end Go.Proofs.YtoolfhjlhhcbgaaDoor

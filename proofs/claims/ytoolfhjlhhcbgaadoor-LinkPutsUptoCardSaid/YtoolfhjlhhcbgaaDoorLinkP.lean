import Derived.Test.YtoolfhjlhhcbgaaDoorLinkM
namespace Go.Proofs.YtoolfhjlhhcbgaaDoor

/-! ### A page in pieces: raw text, then values, raw text behind each -/
abbrev Pcs := List UInt8 × List (List UInt8 × List UInt8)
def weaveL : List (List UInt8 × List UInt8) → List (List UInt8) → List UInt8
  | x :: l, t :: ts => t ++ (x.2 ++ weaveL l ts)
  | _, _ => []
def weave (P : Pcs) (ts : List (List UInt8)) : List UInt8 := P.1 ++ weaveL P.2 ts
def prep (x : List UInt8) (P : Pcs) : Pcs := (x ++ P.1, P.2)
def vals (P : Pcs) : List (List UInt8) := P.2.map (·.1)
def substL : List (List UInt8 × List UInt8) → List (List UInt8) → List (List UInt8 × List UInt8)
  | x :: l, t :: ts => (t, x.2) :: substL l ts
  | _, _ => []
def subst (P : Pcs) (ts : List (List UInt8)) : Pcs := (P.1, substL P.2 ts)
/-- What may stand in the place of a value. -/
def goodT (t : List UInt8) : Prop := t ≠ [] ∧ ∀ b ∈ t, isSp b.toNat = false ∧ b ≠ 62 ∧ b ≠ 34 ∧ b ≠ 39
def okT (v t : List UInt8) : Prop := t = v ∨ goodT t
inductive OkTs : List (List UInt8 × List UInt8) → List (List UInt8) → Prop
  | nil : OkTs [] []
  | cons {x : List UInt8 × List UInt8} {l : List (List UInt8 × List UInt8)} {t : List UInt8} {ts : List (List UInt8)} : okT x.1 t → OkTs l ts → OkTs (x :: l) (t :: ts)
theorem OkTs.same : ∀ (l : List (List UInt8 × List UInt8)), OkTs l (l.map (·.1))
  | [] => .nil
  | _ :: l => .cons (.inl rfl) (OkTs.same l)
theorem OkTs.len {l : List (List UInt8 × List UInt8)} {ts : List (List UInt8)} (h : OkTs l ts) : ts.length = l.length := by
  induction h with
  | nil => rfl
  | cons _ _ ih => simp [ih]

/-- A value: raw text ahead, the value, raw text behind it, what is left. -/
def valP (r : List UInt8) : List UInt8 × List UInt8 × List UInt8 × List UInt8 :=
  match stopD pNotSp r with
  | [] => (r, [], [], [])
  | c :: r2 => if c = 34 ∨ c = 39 then (stopT pNotSp r ++ [c], stopT (pIs c.toNat) r2, (stopD (pIs c.toNat) r2).take 1, (stopD (pIs c.toNat) r2).drop 1) else (stopT pNotSp r, stopT pVal (c :: r2), [], stopD pVal (c :: r2))
def attrsP : Nat → List UInt8 → List (List UInt8) → Option (Pcs × List UInt8)
  | 0, _, _ => none
  | f + 1, r, seen =>
    match stopD pAttr r with
    | [] => none
    | c :: r2 =>
      if c = 62 then some ((stopT pAttr r ++ [62], []), r2)
      else if (stopD pNotSp (stopD pEq r2)).head? = some 61 then
        (attrsP f (valP (stopD pNotSp (stopD pEq r2)).tail).2.2.2 (lowL (c :: stopT pEq r2) :: seen)).map fun q =>
          (if leadsB (lowL (c :: stopT pEq r2)) && !seen.contains (lowL (c :: stopT pEq r2)) then
            (stopT pAttr r ++ (c :: stopT pEq r2) ++ stopT pNotSp (stopD pEq r2) ++ [61] ++ (valP (stopD pNotSp (stopD pEq r2)).tail).1,
              ((valP (stopD pNotSp (stopD pEq r2)).tail).2.1, (valP (stopD pNotSp (stopD pEq r2)).tail).2.2.1 ++ q.1.1) :: q.1.2)
          else prep (stopT pAttr r ++ (c :: stopT pEq r2) ++ stopT pNotSp (stopD pEq r2) ++ [61] ++ (valP (stopD pNotSp (stopD pEq r2)).tail).1 ++ (valP (stopD pNotSp (stopD pEq r2)).tail).2.1 ++ (valP (stopD pNotSp (stopD pEq r2)).tail).2.2.1) q.1, q.2)
      else (attrsP f (stopD pEq r2) (lowL (c :: stopT pEq r2) :: seen)).map fun q => (prep (stopT pAttr r ++ (c :: stopT pEq r2)) q.1, q.2)

theorem valP_app (r : List UInt8) : r = (valP r).1 ++ (valP r).2.1 ++ (valP r).2.2.1 ++ (valP r).2.2.2 := by
  unfold valP
  have h0 := stop_app pNotSp r
  split
  · simp
  · rename_i c r2 hc
    rw [hc] at h0
    split
    · have h1 := stop_app (pIs c.toNat) r2
      simp only [List.append_assoc, List.take_append_drop, List.singleton_append, List.cons_append, List.nil_append]
      rw [h1, h0]
    · have h1 := stop_app pVal (c :: r2)
      simp only [List.append_nil, List.append_assoc]
      rw [h1, h0]
theorem valP_nil {r : List UInt8} (h : stopD pNotSp r = []) : valP r = (r, [], [], []) := by unfold valP; rw [h]
theorem valP_cons {r : List UInt8} {c : UInt8} {r2 : List UInt8} (h : stopD pNotSp r = c :: r2) : valP r = if c = 34 ∨ c = 39 then (stopT pNotSp r ++ [c], stopT (pIs c.toNat) r2, (stopD (pIs c.toNat) r2).take 1, (stopD (pIs c.toNat) r2).drop 1) else (stopT pNotSp r, stopT pVal (c :: r2), [], stopD pVal (c :: r2)) := by
  show (match stopD pNotSp r with | [] => _ | c :: r2 => _) = _
  rw [h]
theorem isSp_not_eq : pNotSp 61 = true := by decide
/-- What a value's reading leans on: the new value in its place, behind it what begins alike. -/
theorem valP_new (r : List UInt8) (t W : List UInt8) (a0 : UInt8) (y W' : List UInt8) (hr : (valP r).2.2.2 = a0 :: y) (hW : W = a0 :: W') (ht : okT (valP r).2.1 t) :
    valP ((valP r).1 ++ (t ++ ((valP r).2.2.1 ++ W))) = ((valP r).1, t, (valP r).2.2.1, W) := by
  have hn := stopT_not pNotSp r
  rcases hc : stopD pNotSp r with _ | ⟨c, r2⟩
  · rw [valP_nil hc] at hr; cases hr
  · have hcs := stopD_head pNotSp r c r2 hc
    rw [valP_cons hc] at hr ht ⊢
    by_cases hq : c = 34 ∨ c = 39
    · simp only [if_pos hq] at hr ht ⊢
      have hS : ∃ y', stopD (pIs c.toNat) r2 = c :: y' := by
        cases hd : stopD (pIs c.toNat) r2 with
        | nil => rw [hd] at hr; cases hr
        | cons d y' =>
          have := stopD_head _ _ _ _ hd
          simp only [pIs, beq_iff_eq] at this
          exact ⟨y', by rw [show d = c from UInt8.toNat_inj.1 this]⟩
      obtain ⟨y', hS⟩ := hS
      have htn : ∀ b ∈ t, pIs c.toNat b.toNat = false := by
        intro b hb
        rcases ht with rfl | ht
        · exact stopT_not _ _ b hb
        · have := (ht.2 b hb).2.2
          simp only [pIs, beq_eq_false_iff_ne, ne_eq]
          intro e
          have e := UInt8.toNat_inj.1 e
          subst e
          rcases hq with rfl | rfl
          · exact this.1 rfl
          · exact this.2 rfl
      have e1 := stopD_pre pNotSp (stopT pNotSp r) (c :: (t ++ ((stopD (pIs c.toNat) r2).take 1 ++ W))) hn
      have e2 := stopD_at pNotSp c (t ++ ((stopD (pIs c.toNat) r2).take 1 ++ W)) hcs
      rw [e2.1, e2.2] at e1
      simp only [List.append_assoc, List.cons_append, List.nil_append, List.append_nil] at e1 ⊢
      rw [valP_cons e1.1, e1.2]
      simp only [if_pos hq]
      rw [hS]
      simp only [List.take_succ_cons, List.take_zero, List.cons_append, List.nil_append]
      have e3 := stopD_pre (pIs c.toNat) t (c :: W) htn
      have e4 := stopD_at (pIs c.toNat) c W (by simp [pIs])
      rw [e4.1, e4.2] at e3
      rw [e3.1, e3.2]
      simp
    · simp only [if_neg hq] at hr ht ⊢
      have ha0 := stopD_head _ _ _ _ hr
      have hhead : ∃ d x, t ++ W = d :: x ∧ pNotSp d.toNat = true ∧ ¬ (d = 34 ∨ d = 39) := by
        rcases ht with rfl | ht
        · rcases hv : stopT pVal (c :: r2) with _ | ⟨d, v'⟩
          · have := stop_app pVal (c :: r2)
            rw [hv, hr] at this
            simp only [List.nil_append, List.cons.injEq] at this
            obtain ⟨rfl, _⟩ := this
            exact ⟨a0, W', by rw [hW]; rfl, hcs, hq⟩
          · have := stop_app pVal (c :: r2)
            rw [hv] at this
            simp only [List.cons_append, List.cons.injEq] at this
            obtain ⟨rfl, _⟩ := this
            exact ⟨d, v' ++ W, rfl, hcs, hq⟩
        · cases t with
          | nil => exact absurd rfl ht.1
          | cons d t' =>
            have := ht.2 d (by simp)
            refine ⟨d, t' ++ W, rfl, by simp [pNotSp, this.1], ?_⟩
            rintro (h | h)
            · exact this.2.2.1 h
            · exact this.2.2.2 h
      have htn : ∀ b ∈ t, pVal b.toNat = false := by
        intro b hb
        rcases ht with rfl | ht
        · exact stopT_not _ _ b hb
        · have := ht.2 b hb
          simp only [pVal, this.1, Bool.false_or, beq_eq_false_iff_ne, ne_eq]
          intro e
          exact this.2.1 (UInt8.toNat_inj.1 e)
      obtain ⟨d, x, hd, hd1, hd2⟩ := hhead
      simp only [List.nil_append]
      rw [hd]
      have e1 := stopD_pre pNotSp (stopT pNotSp r) (d :: x) hn
      have e2 := stopD_at pNotSp d x hd1
      rw [e2.1, e2.2] at e1
      rw [List.append_nil] at e1
      rw [valP_cons e1.1, e1.2]
      simp only [if_neg hd2]
      rw [← hd]
      have e3 := stopD_pre pVal t W htn
      have e4 := stopD_at pVal a0 W' ha0
      rw [hW] at e3 ⊢
      rw [e4.1, e4.2] at e3
      rw [e3.1, e3.2]
      simp

/-- What begins alike. -/
theorem weave_head {P : Pcs} {a : UInt8} {p : List UInt8} (h : P.1 = a :: p) (ts : List (List UInt8)) (z : List UInt8) : weave P ts ++ z = a :: (p ++ weaveL P.2 ts ++ z) := by
  simp [weave, h]
theorem weave_prep (x : List UInt8) (P : Pcs) (ts : List (List UInt8)) : weave (prep x P) ts = x ++ weave P ts := by simp [weave, prep]
theorem vals_prep (x : List UInt8) (P : Pcs) : vals (prep x P) = vals P := rfl
theorem subst_prep (x : List UInt8) (P : Pcs) (ts : List (List UInt8)) : subst (prep x P) ts = prep x (subst P ts) := rfl

/-- The parts of a tag are what it is made of; it begins with what is no blank alone; where a link is, three bytes stand ahead. -/
theorem attrsP_app : ∀ (f : Nat) (r : List UInt8) (seen : List (List UInt8)) (P : Pcs) (r' : List UInt8), attrsP f r seen = some (P, r') →
    r = weave P (vals P) ++ r' ∧ stopD pNotSp P.1 ≠ [] ∧ (P.2 ≠ [] → 3 ≤ P.1.length) := by
  intro f
  induction f with
  | zero => intro r seen P r' h; cases h
  | succ f ih =>
    intro r seen P r' h
    unfold attrsP at h
    have h0 := stop_app pAttr r
    have hnon : ∀ (x y : List UInt8) (c : UInt8), pAttr c.toNat = true → stopD pNotSp (x ++ c :: y) ≠ [] := by
      intro x y c hc e
      have h1 : pNotSp c.toNat = true := by
        simp only [pNotSp, pAttr, Bool.and_eq_true] at hc ⊢
        exact hc.1
      have h2 := stop_app pNotSp (x ++ c :: y)
      rw [e, List.append_nil] at h2
      have h3 := stopT_not pNotSp (x ++ c :: y) c (by rw [h2]; simp)
      rw [h1] at h3
      cases h3
    split at h
    · cases h
    · rename_i c r2 hc
      rw [hc] at h0
      have hcA := stopD_head pAttr r c r2 hc
      have h1 := stop_app pEq r2
      split at h
      · rename_i h62
        injection h with h
        injection h with h2 h3
        subst h2 h3 h62
        refine ⟨h0.symm.trans (by simp [weave, weaveL, vals]), hnon _ _ _ hcA, fun h => absurd rfl h⟩
      · split at h
        · rename_i h61
          obtain ⟨q, hq, h⟩ := Option.map_eq_some_iff.1 h
          obtain ⟨Q, z⟩ := q
          injection h with h2 h3
          obtain ⟨ih1, ih2, ih3⟩ := ih _ _ Q z hq
          simp only at h2 h3
          subst h3
          have h4 := stop_app pNotSp (stopD pEq r2)
          have h5 : stopD pNotSp (stopD pEq r2) = 61 :: (stopD pNotSp (stopD pEq r2)).tail := by
            cases hd : stopD pNotSp (stopD pEq r2) with
            | nil => rw [hd] at h61; cases h61
            | cons d x => rw [hd] at h61; simp at h61; rw [h61]; rfl
          rw [h5] at h4
          have h6 := valP_app (stopD pNotSp (stopD pEq r2)).tail
          rw [ih1] at h6
          have hwhole : r = stopT pAttr r ++ (c :: stopT pEq r2) ++ stopT pNotSp (stopD pEq r2) ++ [61] ++ (valP (stopD pNotSp (stopD pEq r2)).tail).1 ++ (valP (stopD pNotSp (stopD pEq r2)).tail).2.1 ++ (valP (stopD pNotSp (stopD pEq r2)).tail).2.2.1 ++ (weave Q (vals Q) ++ z) := by
            simp only [List.append_assoc, List.cons_append, List.nil_append] at h6 ⊢
            rw [← h6, h4, h1, h0]
          split at h2
          · rename_i hl
            subst h2
            refine ⟨?_, ?_, fun _ => ?_⟩
            · refine hwhole.trans ?_
              simp [weave, weaveL, vals, List.append_assoc]
            · simp only [List.append_assoc, List.cons_append]
              exact hnon _ _ _ hcA
            · simp only [Bool.and_eq_true] at hl
              have hn := hl.1
              have : 3 ≤ (lowL (c :: stopT pEq r2)).length := by
                unfold leadsB at hn
                simp only [Bool.or_eq_true, beq_iff_eq] at hn
                rcases hn with e | e <;> rw [e] <;> decide
              unfold lowL at this
              rw [List.length_map] at this
              simp only [List.length_append, List.length_cons] at this ⊢
              omega
          · subst h2
            refine ⟨?_, ?_, fun h => ?_⟩
            · refine hwhole.trans ?_
              rw [weave_prep, vals_prep]
              simp only [List.append_assoc]
            · unfold prep
              simp only [List.append_assoc, List.cons_append]
              exact hnon _ _ _ hcA
            · have := ih3 h
              unfold prep
              simp only [List.length_append]
              omega
        · obtain ⟨q, hq, h⟩ := Option.map_eq_some_iff.1 h
          obtain ⟨Q, z⟩ := q
          injection h with h2 h3
          obtain ⟨ih1, ih2, ih3⟩ := ih _ _ Q z hq
          simp only at h2 h3
          subst h2 h3
          refine ⟨?_, ?_, fun h => ?_⟩
          · rw [weave_prep, vals_prep, List.append_assoc, ← ih1, List.append_assoc, List.cons_append, h1, h0]
          · unfold prep
            simp only [List.append_assoc, List.cons_append]
            exact hnon _ _ _ hcA
          · have := ih3 h
            unfold prep
            simp only [List.length_append]
            omega
theorem nonnil_of_stop {p : Nat → Bool} {l : List UInt8} (h : stopD p l ≠ []) : ∃ a x, l = a :: x := by
  cases l with
  | nil => exact absurd rfl h
  | cons a x => exact ⟨a, x, rfl⟩
theorem stopD_mid (p : Nat → Bool) : ∀ (x y : List UInt8), stopD p x ≠ [] → stopD p (x ++ y) = stopD p x ++ y ∧ stopT p (x ++ y) = stopT p x
  | [], _, h => absurd rfl h
  | a :: x, y, h => by
    unfold stopD at h
    unfold stopD stopT
    rw [List.cons_append, List.dropWhile_cons, List.takeWhile_cons, List.dropWhile_cons, List.takeWhile_cons]
    rw [List.dropWhile_cons] at h
    split
    · rename_i hp
      rw [if_pos hp] at h
      have := stopD_mid p x y h
      unfold stopD stopT at this
      rw [this.1, this.2]
      exact ⟨rfl, rfl⟩
    · exact ⟨rfl, rfl⟩

/-- A tag with other values is read as it was, with these. -/
theorem attrsP_new : ∀ (f : Nat) (r : List UInt8) (seen : List (List UInt8)) (P : Pcs) (r' : List UInt8), attrsP f r seen = some (P, r') →
    ∀ ts, OkTs P.2 ts → ∀ z, attrsP f (weave P ts ++ z) seen = some (subst P ts, z) := by
  intro f
  induction f with
  | zero => intro r seen P r' h; cases h
  | succ f ih =>
    intro r seen P r' h ts hts z
    unfold attrsP at h
    have hxn := stopT_not pAttr r
    split at h
    · cases h
    · rename_i c r2 hc
      have hcA := stopD_head pAttr r c r2 hc
      have hnn := stopT_not pEq r2
      have pre := fun (y : List UInt8) => stopD_pre pAttr (stopT pAttr r) (c :: y) hxn
      have at0 := fun (y : List UInt8) => stopD_at pAttr c y hcA
      split at h
      · rename_i h62
        injection h with h
        injection h with h2 h3
        subst h2 h3 h62
        cases hts
        have e := pre z
        rw [(at0 z).1, (at0 z).2] at e
        unfold attrsP
        simp only [weave, weaveL, List.append_nil, List.append_assoc, List.cons_append, List.nil_append]
        simp only [List.append_nil] at e
        rw [e.1, e.2]
        rfl
      · rename_i h62
        split at h
        · rename_i h61
          obtain ⟨q, hq, h⟩ := Option.map_eq_some_iff.1 h
          obtain ⟨Q, z0⟩ := q
          injection h with h2 h3
          simp only at h2 h3
          subst h3
          obtain ⟨ia, ib, ic⟩ := attrsP_app _ _ _ Q z0 hq
          obtain ⟨a0, q0, hq0⟩ := nonnil_of_stop ib
          have hr0 : (valP (stopD pNotSp (stopD pEq r2)).tail).2.2.2 = a0 :: (q0 ++ weaveL Q.2 (vals Q) ++ z0) := by rw [ia]; exact weave_head hq0 _ _
          have hbl : ∀ b ∈ stopT pNotSp (stopD pEq r2), pNotSp b.toNat = false := stopT_not _ _
          have h1 := stop_app pNotSp (stopD pEq r2)
          have h5 : stopD pNotSp (stopD pEq r2) = 61 :: (stopD pNotSp (stopD pEq r2)).tail := by
            cases hd : stopD pNotSp (stopD pEq r2) with
            | nil => rw [hd] at h61; cases h61
            | cons d x => rw [hd] at h61; simp at h61; rw [h61]; rfl
          rw [h5] at h1
          generalize hV : (stopD pNotSp (stopD pEq r2)).tail = V at *
          generalize hB : stopT pNotSp (stopD pEq r2) = Bk at *
          generalize hN : stopT pEq r2 = nm at *
          generalize hX : stopT pAttr r = X at *
          -- the head of what stands behind the name
          have hstop : ∀ y, stopD pEq (Bk ++ 61 :: y) = Bk ++ 61 :: y ∧ stopT pEq (Bk ++ 61 :: y) = [] := by
            intro y
            cases Bk with
            | nil => exact stopD_at pEq 61 y (by decide)
            | cons d bk =>
              rw [List.cons_append] at h1
              have := stopD_head pEq r2 d _ h1.symm
              exact stopD_at pEq d _ this
          have hname : ∀ y, stopD pEq (nm ++ (Bk ++ 61 :: y)) = Bk ++ 61 :: y ∧ stopT pEq (nm ++ (Bk ++ 61 :: y)) = nm := by
            intro y
            have e := stopD_pre pEq nm (Bk ++ 61 :: y) hnn
            rw [(hstop y).1, (hstop y).2, List.append_nil] at e
            exact e
          have hblank : ∀ y, stopD pNotSp (Bk ++ 61 :: y) = 61 :: y ∧ stopT pNotSp (Bk ++ 61 :: y) = Bk := by
            intro y
            have e := stopD_pre pNotSp Bk (61 :: y) hbl
            have e2 := stopD_at pNotSp 61 y (by decide)
            rw [e2.1, e2.2, List.append_nil] at e
            exact e
          have hall : ∀ (t y : List UInt8), okT (valP V).2.1 t → ∀ ts', OkTs Q.2 ts' →
              attrsP (f + 1) (X ++ (c :: nm) ++ Bk ++ [61] ++ (valP V).1 ++ (t ++ ((valP V).2.2.1 ++ (weave Q ts' ++ y)))) seen =
                some (if leadsB (lowL (c :: nm)) && !seen.contains (lowL (c :: nm)) then (X ++ (c :: nm) ++ Bk ++ [61] ++ (valP V).1, (t, (valP V).2.2.1 ++ Q.1) :: (subst Q ts').2) else prep (X ++ (c :: nm) ++ Bk ++ [61] ++ (valP V).1 ++ t ++ (valP V).2.2.1) (subst Q ts'), y) := by
            intro t y ht ts' hts'
            have hv := valP_new V t (weave Q ts' ++ y) a0 _ _ hr0 (weave_head hq0 ts' y) ht
            generalize hWW : (valP V).1 ++ (t ++ ((valP V).2.2.1 ++ (weave Q ts' ++ y))) = WW at *
            have etext : X ++ (c :: nm) ++ Bk ++ [61] ++ (valP V).1 ++ (t ++ ((valP V).2.2.1 ++ (weave Q ts' ++ y))) = X ++ c :: (nm ++ (Bk ++ 61 :: WW)) := by
              rw [← hWW]; simp
            rw [etext]
            have e := pre (nm ++ (Bk ++ 61 :: WW))
            rw [(at0 _).1, (at0 _).2, List.append_nil] at e
            unfold attrsP
            rw [e.1]
            simp only [if_neg h62, e.2, (hname WW).1, (hname WW).2, (hblank WW).1, (hblank WW).2, List.head?_cons, if_true, List.tail_cons, hv]
            have hq' := ih _ _ Q z0 hq ts' hts' y
            rw [hq']
            simp [subst]
          split at h2
          · rename_i hl
            subst h2
            cases hts with
            | cons ht hts' =>
              rename_i t ts'
              have := hall t z ht ts' hts'
              rw [if_pos hl] at this
              simp only [weave, weaveL, subst, substL, List.append_assoc] at this ⊢
              exact this
          · rename_i hl
            subst h2
            have := hall _ z (.inl rfl) ts hts
            rw [if_neg hl] at this
            rw [weave_prep, subst_prep]
            simp only [List.append_assoc] at this ⊢
            exact this
        · rename_i h61
          obtain ⟨q, hq, h⟩ := Option.map_eq_some_iff.1 h
          obtain ⟨Q, z0⟩ := q
          injection h with h2 h3
          simp only at h2 h3
          subst h2 h3
          obtain ⟨ia, ib, ic⟩ := attrsP_app _ _ _ Q z0 hq
          obtain ⟨a0, q0, hq0⟩ := nonnil_of_stop ib
          have hts' : OkTs Q.2 ts := hts
          have hW := weave_head hq0 ts z
          have hold : stopD pEq r2 = a0 :: (q0 ++ weaveL Q.2 (vals Q) ++ z0) := by rw [ia]; exact weave_head hq0 _ _
          have ha0 := stopD_head pEq r2 a0 _ hold
          have hname : stopD pEq (stopT pEq r2 ++ (weave Q ts ++ z)) = weave Q ts ++ z ∧ stopT pEq (stopT pEq r2 ++ (weave Q ts ++ z)) = stopT pEq r2 := by
            have e := stopD_pre pEq (stopT pEq r2) (weave Q ts ++ z) hnn
            have e2 := stopD_at pEq a0 (q0 ++ weaveL Q.2 ts ++ z) ha0
            rw [← hW] at e2
            rw [e2.1, e2.2, List.append_nil] at e
            exact e
          have h61' : ¬ (stopD pNotSp (weave Q ts ++ z)).head? = some 61 := by
            rw [ia] at h61
            unfold weave at h61 ⊢
            rw [List.append_assoc, (stopD_mid pNotSp Q.1 _ ib).1] at h61 ⊢
            cases hd : stopD pNotSp Q.1 with
            | nil => exact absurd hd ib
            | cons d x => rw [hd] at h61; simpa using h61
          have e := pre (stopT pEq r2 ++ (weave Q ts ++ z))
          rw [(at0 _).1, (at0 _).2, List.append_nil] at e
          rw [weave_prep, subst_prep]
          have etext : stopT pAttr r ++ (c :: stopT pEq r2) ++ weave Q ts ++ z = stopT pAttr r ++ c :: (stopT pEq r2 ++ (weave Q ts ++ z)) := by simp
          rw [etext]
          unfold attrsP
          rw [e.1]
          simp only [if_neg h62, e.2, hname.1, hname.2, if_neg h61']
          rw [ih _ _ Q z0 hq ts hts' z]
          rfl
end Go.Proofs.YtoolfhjlhhcbgaaDoor

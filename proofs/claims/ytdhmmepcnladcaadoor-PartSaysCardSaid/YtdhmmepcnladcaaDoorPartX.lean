import Derived.Test.YtdhmmepcnladcaaDoorPartN
namespace Go.Proofs.YtdhmmepcnladcaaDoor

/-! ### Two lists of parts, held against one another -/
def all2 (f : PartD → PartD → Bool) : List PartD → List PartD → Bool
  | [], [] => true
  | p :: ps, q :: qs => f p q && all2 f ps qs
  | [], _ :: _ => false
  | _ :: _, [] => false
theorem all2_len (f : PartD → PartD → Bool) : ∀ (ps qs : List PartD), ps.length ≠ qs.length → all2 f ps qs = false
  | [], [], h => absurd rfl h
  | [], _ :: _, _ => rfl
  | _ :: _, [], _ => rfl
  | p :: ps, q :: qs, h => by
    rw [all2, all2_len f ps qs (by simpa using h)]; simp
theorem all2_miss (f : PartD → PartD → Bool) : ∀ (ps qs : List PartD) (i : Nat) (p q : PartD), ps[i]? = some p → qs[i]? = some q → f p q = false → all2 f ps qs = false
  | [], _, i, p, q, h, _, _ => by simp at h
  | _ :: _, [], i, p, q, _, h, _ => by simp at h
  | a :: ps, b :: qs, 0, p, q, h1, h2, h3 => by
    simp at h1 h2
    rw [all2, h1, h2, h3]; rfl
  | a :: ps, b :: qs, i + 1, p, q, h1, h2, h3 => by
    rw [all2, all2_miss f ps qs i p q (by simpa using h1) (by simpa using h2) h3]; simp
theorem all2_hit (f : PartD → PartD → Bool) : ∀ (ps qs : List PartD), ps.length = qs.length → (∀ (i : Nat) (p q : PartD), ps[i]? = some p → qs[i]? = some q → f p q = true) → all2 f ps qs = true
  | [], [], _, _ => rfl
  | [], _ :: _, h, _ => by simp at h
  | _ :: _, [], h, _ => by simp at h
  | a :: ps, b :: qs, h, h2 => by
    rw [all2, h2 0 a b rfl rfl, all2_hit f ps qs (by simpa using h) (fun i p q h3 h4 => h2 (i + 1) p q (by simpa using h3) (by simpa using h4))]; rfl
theorem all2_congr (f g : PartD → PartD → Bool) : ∀ (ps qs : List PartD), (∀ p ∈ ps, ∀ q ∈ qs, f p q = g p q) → all2 f ps qs = all2 g ps qs
  | [], [], _ => rfl
  | [], _ :: _, _ => rfl
  | _ :: _, [], _ => rfl
  | a :: ps, b :: qs, h => by
    rw [all2, all2, h a (by simp) b (by simp), all2_congr f g ps qs (fun p hp q hq => h p (by simp [hp]) q (by simp [hq]))]
/-- part.Same, all tests by themselves. -/
def oneSame (p q : PartD) : Bool := p.type == q.type && (p.cs == q.cs && (p.id == q.id && (p.loc == q.loc && (p.how == q.how && p.body == q.body))))
mutual
def sameD : PartD → PartD → Bool
  | ⟨t, cs, id, loc, how, body, parts⟩, ⟨t', cs', id', loc', how', body', parts'⟩ => (t == t' && (cs == cs' && (id == id' && (loc == loc' && (how == how' && body == body'))))) && samesD parts parts'
def samesD : List PartD → List PartD → Bool
  | [], [] => true
  | p :: ps, q :: qs => sameD p q && samesD ps qs
  | [], _ :: _ => false
  | _ :: _, [] => false
end
theorem samesD_eq : ∀ (ps qs : List PartD), samesD ps qs = all2 sameD ps qs
  | [], [] => by rw [samesD, all2]
  | [], _ :: _ => by rw [samesD, all2]
  | _ :: _, [] => by rw [samesD, all2]
  | p :: ps, q :: qs => by rw [samesD, all2, samesD_eq ps qs]
theorem sameD_eq (p q : PartD) : sameD p q = (oneSame p q && all2 sameD p.parts q.parts) := by
  cases p; cases q; rw [sameD, samesD_eq]; rfl
mutual
theorem sameD_refl : ∀ (p : PartD), sameD p p = true
  | ⟨t, cs, id, loc, how, body, parts⟩ => by rw [sameD, samesD_refl parts]; simp
theorem samesD_refl : ∀ (ps : List PartD), samesD ps ps = true
  | [] => by rw [samesD]
  | p :: ps => by rw [samesD, sameD_refl p, samesD_refl ps]; rfl
end
theorem all2_refl (ps : List PartD) : all2 sameD ps ps = true := by rw [← samesD_eq]; exact samesD_refl ps

/-! ### A part put into another one -/
theorem firstErr_of : ∀ (L : List PartD), (∀ q ∈ L, chkD q = 0) → firstErr L = 0
  | [], _ => rfl
  | x :: L, h => by
    unfold firstErr
    rw [if_pos (h x (by simp))]
    exact firstErr_of L fun q hq => h q (by simp [hq])
theorem cntsD_mono (k : Nat) (ih : ∀ p c, cntD k p = some c → cntD (k + 1) p = some c) : ∀ (ps : List PartD) (n c : Nat), cntsD k n ps = some c → cntsD (k + 1) n ps = some c := by
  intro ps
  induction ps with
  | nil => intro n c h; rw [cntsD] at h ⊢; exact h
  | cons p ps ih2 =>
    intro n c h
    rw [cntsD_cons] at h ⊢
    cases hc : cntD k p with
    | none => rw [hc] at h; cases h
    | some d =>
      rw [hc] at h
      rw [ih p d hc]
      simp only [cntNext] at h ⊢
      split at h
      · cases h
      · rename_i h0
        rw [if_neg h0]
        exact ih2 _ _ h
theorem cntD_mono : ∀ (k : Nat) (p : PartD) (c : Nat), cntD k p = some c → cntD (k + 1) p = some c := by
  intro k
  induction k with
  | zero => intro p c h; obtain ⟨t, cs, id, loc, how, body, parts⟩ := p; rw [cntD] at h; cases h
  | succ k ih =>
    intro p c h
    obtain ⟨t, cs, id, loc, how, body, parts⟩ := p
    rw [cntD] at h ⊢
    exact cntsD_mono k ih parts 1 c h
def wrapD (p q : PartD) : PartD := { type := [109, 117, 108, 116, 105, 112, 97, 114, 116, 47, 109, 105, 120, 101, 100], cs := [], id := [], loc := [], how := 0, body := [], parts := [p, q] }
theorem flat_wrap (p q : PartD) : flatD (wrapD p q) = wrapD p q :: (flatD p ++ flatD q) := by
  rw [flatD_eq]; simp only [wrapD, flatsD, List.append_nil]
theorem check_parts (p q : PartD) (h : checkD (wrapD p q) = 0) : checkD p = 0 ∧ checkD q = 0 := by
  cases hc : cntD 3 (wrapD p q) with
  | none => rw [checkD_none _ hc] at h; cases h
  | some c =>
    rw [checkD_some _ c hc, flat_wrap] at h
    have hall : ∀ (L : List PartD), firstErr L = 0 → ∀ q ∈ L, chkD q = 0 := by
      intro L
      induction L with
      | nil => simp
      | cons x L ih =>
        intro h q hq
        unfold firstErr at h
        split at h
        · rename_i h0
          rcases List.mem_cons.1 hq with rfl | hq
          · exact h0
          · exact ih h q hq
        · rename_i h0; exact absurd h h0
    have hL := hall _ h
    have hp1 := firstErr_of (flatD p) fun x hx => hL x (by simp [hx])
    have hq1 := firstErr_of (flatD q) fun x hx => hL x (by simp [hx])
    rw [wrapD, cntD, cntsD_cons] at hc
    cases h1 : cntD 2 p with
    | none => rw [h1] at hc; cases hc
    | some a =>
      rw [h1] at hc
      simp only [cntNext] at hc
      split at hc
      · cases hc
      · rw [cntsD_cons] at hc
        cases h2 : cntD 2 q with
        | none => rw [h2] at hc; cases hc
        | some b =>
          exact ⟨by rw [checkD_some p a (cntD_mono 2 p a h1)]; exact hp1, by rw [checkD_some q b (cntD_mono 2 q b h2)]; exact hq1⟩
mutual
theorem wths_shift (d : Nat) : ∀ (ps : List PartD) (n me : Nat), wthsD ps (n + d) (me + d) = (wthsD ps n me).map (fun x => x + (d : Int))
  | [], _, _ => by rw [wthsD, wthsD]; rfl
  | p :: ps, n, me => by
    rw [wthsD, wthsD, List.map_append, ← wths_shift d ps, wth_shift d p n me (me : Int), show n + d + (flatD p).length = n + (flatD p).length + d from by omega, wthD_eq p n (me : Int)]
    simp
theorem wth_shift (d : Nat) : ∀ (p : PartD) (n me : Nat) (inn : Int), wthD p (n + d) ((me + d : Nat) : Int) = ((me : Int) + d) :: ((wthD p n inn).drop 1).map (fun x => x + (d : Int))
  | ⟨t, cs, id, loc, how, body, parts⟩, n, me, inn => by
    rw [wthD, wthD, show n + d + 1 = n + 1 + d from by omega, wths_shift d parts]
    simp
end
end Go.Proofs.YtdhmmepcnladcaaDoor

import Derived.Test.YtdhmmepcnladcaaDoorTokM
namespace Go.Proofs.YtdhmmepcnladcaaDoor
open Go.RowKit

/-- A part, as data. -/
structure PartD where
  type : List UInt8
  cs : List UInt8
  id : List UInt8
  loc : List UInt8
  how : Int
  body : List UInt8
  parts : List PartD

/-! ### A slice that reads as a list of cells, in blocks of which S says yes -/
def SlS (S : Nat → Prop) (w : World) (size : Nat) (A : Option Addr) (n : Nat) (xs : List Value) : Prop :=
  xs.length = n * size ∧ (0 < n → ∃ b off, A = some ⟨b, off, none⟩ ∧ S b ∧ ∀ j u, xs[j]? = some u → w.cell? ⟨b, off + j, none⟩ = some u)
theorem SlS.sl {B : Nat} {w : World} {size n : Nat} {A : Option Addr} {xs : List Value} (h : SlS (· < B) w size A n xs) : Sl w B size A n xs := h
theorem Sl.sls {B : Nat} {w : World} {size n : Nat} {A : Option Addr} {xs : List Value} (h : Sl w B size A n xs) : SlS (· < B) w size A n xs := h
theorem SlS.change {S S' : Nat → Prop} {w w' : World} {size n : Nat} {A : Option Addr} {xs : List Value} (h : SlS S w size A n xs) (hS : ∀ b, S b → S' b) (hk : ∀ p : Addr, S p.block → w'.cell? p = w.cell? p) : SlS S' w' size A n xs :=
  ⟨h.1, fun hn => by
    obtain ⟨b, off, e, hb, hc⟩ := h.2 hn
    exact ⟨b, off, e, hS b hb, fun j u hu => (hk _ hb).trans (hc j u hu)⟩⟩

mutual
/-- The seven cells of a part, and what they lead to. -/
def PartAt (S : Nat → Prop) (w : World) : PartD → List Value → Prop
  | ⟨t, cs, id, loc, how, body, parts⟩, v => ∃ A n c A2 n2 c2 rows, v = [str t, str cs, str id, str loc, .int .i64 how, .slice A n c, .slice A2 n2 c2] ∧
      (t.length ≤ maxLen ∧ cs.length ≤ maxLen ∧ id.length ≤ maxLen ∧ loc.length ≤ maxLen ∧ -9223372036854775808 ≤ how ∧ how ≤ 9223372036854775807) ∧
      SlS S w 1 A n (Lib.byteCells body) ∧ n ≤ c ∧ c ≤ maxLen ∧ SlS S w 7 A2 n2 rows.flatten ∧ n2 ≤ c2 ∧ c2 ≤ maxLen ∧ PartsAt S w parts rows
def PartsAt (S : Nat → Prop) (w : World) : List PartD → List (List Value) → Prop
  | [], rows => rows = []
  | p :: ps, rows => ∃ r rs, rows = r :: rs ∧ PartAt S w p r ∧ PartsAt S w ps rs
end
/-- A slice of parts. -/
def SlP (S : Nat → Prop) (w : World) (A : Option Addr) (n : Nat) (ps : List PartD) : Prop :=
  ∃ rows, SlS S w 7 A n rows.flatten ∧ PartsAt S w ps rows

section
variable {S S' : Nat → Prop} {w w' : World}
mutual
theorem PartAt.change (hS : ∀ b, S b → S' b) (hk : ∀ p : Addr, S p.block → w'.cell? p = w.cell? p) : ∀ (p : PartD) (v : List Value), PartAt S w p v → PartAt S' w' p v
  | ⟨t, cs, id, loc, how, body, parts⟩, v, h => by
    obtain ⟨A, n, c, A2, n2, c2, rows, h1, h2, h3, h4, h5, h6, h7, h8, h9⟩ := h
    exact ⟨A, n, c, A2, n2, c2, rows, h1, h2, h3.change hS hk, h4, h5, h6.change hS hk, h7, h8, PartsAt.change hS hk parts rows h9⟩
theorem PartsAt.change (hS : ∀ b, S b → S' b) (hk : ∀ p : Addr, S p.block → w'.cell? p = w.cell? p) : ∀ (ps : List PartD) (rows : List (List Value)), PartsAt S w ps rows → PartsAt S' w' ps rows
  | [], _, h => h
  | p :: ps, _, h => by
    obtain ⟨r, rs, h1, h2, h3⟩ := h
    exact ⟨r, rs, h1, PartAt.change hS hk p r h2, PartsAt.change hS hk ps rs h3⟩
end
theorem SlP.change {A : Option Addr} {n : Nat} {ps : List PartD} (h : SlP S w A n ps) (hS : ∀ b, S b → S' b) (hk : ∀ p : Addr, S p.block → w'.cell? p = w.cell? p) : SlP S' w' A n ps := by
  obtain ⟨rows, h1, h2⟩ := h
  exact ⟨rows, h1.change hS hk, PartsAt.change hS hk _ _ h2⟩
theorem PartAt.below {B : Nat} {p : PartD} {v : List Value} (h : PartAt (· < B) w p v) (hb : Below B w w') : PartAt (· < B) w' p v :=
  PartAt.change (fun _ h => h) (fun _ hp => hb.cell hp) p v h
theorem PartAt.belowN {B C : Nat} {p : PartD} {v : List Value} (h : PartAt (· < B) w p v) (hb : Below C w w') (hC : B ≤ C) : PartAt (· < B) w' p v := h.below (hb.mono hC)
theorem PartAt.more {B C : Nat} {p : PartD} {v : List Value} (h : PartAt (· < B) w p v) (hC : B ≤ C) : PartAt (· < C) w p v :=
  PartAt.change (fun _ h => Nat.lt_of_lt_of_le h hC) (fun _ _ => rfl) p v h
theorem SlP.below {B : Nat} {A : Option Addr} {n : Nat} {ps : List PartD} (h : SlP (· < B) w A n ps) (hb : Below B w w') : SlP (· < B) w' A n ps :=
  h.change (fun _ h => h) (fun _ hp => hb.cell hp)
theorem SlP.belowN {B C : Nat} {A : Option Addr} {n : Nat} {ps : List PartD} (h : SlP (· < B) w A n ps) (hb : Below C w w') (hC : B ≤ C) : SlP (· < B) w' A n ps := h.below (hb.mono hC)
theorem SlP.more {B C : Nat} {A : Option Addr} {n : Nat} {ps : List PartD} (h : SlP (· < B) w A n ps) (hC : B ≤ C) : SlP (· < C) w A n ps :=
  h.change (fun _ h => Nat.lt_of_lt_of_le h hC) (fun _ _ => rfl)
theorem PartsAt.len : ∀ (ps : List PartD) (rows : List (List Value)), PartsAt S w ps rows → rows.length = ps.length
  | [], _, h => by rw [show _ = [] from h]; rfl
  | p :: ps, _, h => by
    obtain ⟨r, rs, rfl, _, h3⟩ := h
    simp [PartsAt.len ps rs h3]
theorem PartAt.row {p : PartD} {v : List Value} (h : PartAt S w p v) : v.length = 7 := by
  obtain ⟨t, cs, id, loc, how, body, parts⟩ := p
  obtain ⟨A, n, c, A2, n2, c2, rows, rfl, _⟩ := h
  rfl
theorem PartsAt.rows : ∀ (ps : List PartD) (rows : List (List Value)), PartsAt S w ps rows → ∀ r ∈ rows, r.length = 7
  | [], _, h => by rw [show _ = [] from h]; simp
  | p :: ps, _, h => by
    obtain ⟨r, rs, rfl, h2, h3⟩ := h
    intro x hx
    rcases List.mem_cons.1 hx with rfl | hx
    · exact h2.row
    · exact PartsAt.rows ps rs h3 x hx
theorem PartsAt.app : ∀ (ps : List PartD) (rows : List (List Value)) (qs : List PartD) (rows' : List (List Value)), PartsAt S w ps rows → PartsAt S w qs rows' → PartsAt S w (ps ++ qs) (rows ++ rows')
  | [], _, _, _, h, h' => by rw [show _ = [] from h]; exact h'
  | p :: ps, _, qs, rows', h, h' => by
    obtain ⟨r, rs, rfl, h2, h3⟩ := h
    exact ⟨r, rs ++ rows', rfl, h2, PartsAt.app ps rs qs rows' h3 h'⟩
theorem PartsAt.get : ∀ (ps : List PartD) (rows : List (List Value)), PartsAt S w ps rows → ∀ i (h : i < ps.length), ∃ r, rows[i]? = some r ∧ PartAt S w ps[i] r
  | [], _, _ => fun i h => absurd h (by simp)
  | p :: ps, _, h => by
    obtain ⟨r, rs, rfl, h2, h3⟩ := h
    intro i hi
    match i, hi with
    | 0, _ => exact ⟨r, rfl, h2⟩
    | i + 1, hi => exact PartsAt.get ps rs h3 i (by simpa using hi)
theorem PartsAt.mk : ∀ (ps : List PartD) (rows : List (List Value)), rows.length = ps.length → (∀ i (h : i < ps.length), ∃ r, rows[i]? = some r ∧ PartAt S w ps[i] r) → PartsAt S w ps rows
  | [], rows, hl, _ => List.eq_nil_of_length_eq_zero hl
  | p :: ps, [], hl, _ => by simp at hl
  | p :: ps, r :: rs, hl, h => by
    obtain ⟨r', h1, h2⟩ := h 0 (by simp)
    simp at h1
    subst h1
    exact ⟨r, rs, rfl, h2, PartsAt.mk ps rs (by simpa using hl) fun i hi => h (i + 1) (by simpa using hi)⟩
theorem flat7_len : ∀ (rows : List (List Value)), (∀ r ∈ rows, r.length = 7) → rows.flatten.length = rows.length * 7
  | [], _ => rfl
  | r :: rs, h => by
    rw [List.flatten_cons, List.length_append, h r (by simp), flat7_len rs (fun x hx => h x (by simp [hx])), List.length_cons]
    omega
theorem flat7_at : ∀ (rows : List (List Value)), (∀ r ∈ rows, r.length = 7) → ∀ (i k : Nat) (r : List Value), rows[i]? = some r → k < 7 → rows.flatten[i * 7 + k]? = r[k]?
  | [], _ => fun i k r hr _ => by simp at hr
  | x :: rs, h => by
    intro i k r hr hk
    have hx := h x (by simp)
    match i, hr with
    | 0, hr =>
      simp at hr; subst hr
      rw [List.flatten_cons, List.getElem?_append_left (by omega)]
      simp
    | i + 1, hr =>
      rw [List.flatten_cons, List.getElem?_append_right (by omega), hx, show (i + 1) * 7 + k - 7 = i * 7 + k from by omega]
      exact flat7_at rs (fun y hy => h y (by simp [hy])) i k r (by simpa using hr) hk
theorem SlP.len {A : Option Addr} {n : Nat} {ps : List PartD} (h : SlP S w A n ps) : ps.length = n := by
  obtain ⟨rows, h1, h2⟩ := h
  have hl := h1.1
  rw [flat7_len rows (PartsAt.rows _ _ h2), PartsAt.len _ _ h2] at hl
  omega
/-- Element i's cells. -/
theorem SlP.at_ {A : Option Addr} {n : Nat} {ps : List PartD} (h : SlP S w A n ps) {i : Nat} (hi : i < n) :
    ∃ b off r, A = some ⟨b, off, none⟩ ∧ S b ∧ PartAt S w (ps[i]'(by rw [h.len]; exact hi)) r ∧ ∀ k u, r[k]? = some u → w.cell? ⟨b, off + (i * 7 + k), none⟩ = some u := by
  have hl := h.len
  obtain ⟨rows, h1, h2⟩ := h
  obtain ⟨b, off, hA, hb, hc⟩ := h1.2 (by omega)
  obtain ⟨r, hr, hp⟩ := PartsAt.get _ _ h2 i (by omega)
  refine ⟨b, off, r, hA, hb, hp, fun k u hu => ?_⟩
  have hk : k < 7 := by
    have := hp.row
    rcases Nat.lt_or_ge k 7 with h' | h'
    · exact h'
    · rw [List.getElem?_eq_none (by omega)] at hu; cases hu
  exact hc _ u (by rw [flat7_at rows (PartsAt.rows _ _ h2) i k r hr hk]; exact hu)
theorem SlP.nil_ (S : Nat → Prop) (w : World) (A : Option Addr) : SlP S w A 0 [] := ⟨[], ⟨rfl, fun h => absurd h (by omega)⟩, rfl⟩
end

/-- Seven cells of one block. -/
def Box7 (w : World) (b : Nat) (v0 v1 v2 v3 v4 v5 v6 : Value) : Prop :=
  w.cell? ⟨b, 0, none⟩ = some v0 ∧ w.cell? ⟨b, 1, none⟩ = some v1 ∧ w.cell? ⟨b, 2, none⟩ = some v2 ∧ w.cell? ⟨b, 3, none⟩ = some v3 ∧ w.cell? ⟨b, 4, none⟩ = some v4 ∧ w.cell? ⟨b, 5, none⟩ = some v5 ∧ w.cell? ⟨b, 6, none⟩ = some v6
theorem Box7.lt {w : World} {b : Nat} {v0 v1 v2 v3 v4 v5 v6 : Value} (h : Box7 w b v0 v1 v2 v3 v4 v5 v6) : b < w.heap.size := by
  rcases Nat.lt_or_ge b w.heap.size with h' | h'
  · exact h'
  · have := h.1; simp [World.cell?, Array.getElem?_eq_none h'] at this
theorem Box7.below {w w' : World} {b : Nat} {v0 v1 v2 v3 v4 v5 v6 : Value} (h : Box7 w b v0 v1 v2 v3 v4 v5 v6) (hb : Below w.heap.size w w') : Box7 w' b v0 v1 v2 v3 v4 v5 v6 := by
  have hlt := h.lt
  obtain ⟨h0, h1, h2, h3, h4, h5, h6⟩ := h
  exact ⟨(hb.cell (p := ⟨b, 0, none⟩) hlt).trans h0, (hb.cell (p := ⟨b, 1, none⟩) hlt).trans h1, (hb.cell (p := ⟨b, 2, none⟩) hlt).trans h2, (hb.cell (p := ⟨b, 3, none⟩) hlt).trans h3, (hb.cell (p := ⟨b, 4, none⟩) hlt).trans h4, (hb.cell (p := ⟨b, 5, none⟩) hlt).trans h5, (hb.cell (p := ⟨b, 6, none⟩) hlt).trans h6⟩
theorem Box7.new (w : World) (t : TypeId) (v0 v1 v2 v3 v4 v5 v6 : Value) : Box7 (w.alloc (.cells #[v0, v1, v2, v3, v4, v5, v6] t)) w.heap.size v0 v1 v2 v3 v4 v5 v6 := by
  have h := heap_alloc_new w (.cells #[v0, v1, v2, v3, v4, v5, v6] t)
  refine ⟨?_, ?_, ?_, ?_, ?_, ?_, ?_⟩ <;> (unfold World.cell?; rw [h]; rfl)

/-! ### What package part computes -/
/-- part.check, its tests named. -/
def chkB (ty ce tk wi wl : Bool) (how : Int) (n : Nat) (m : Bool) (n2 : Nat) : Nat :=
  if !ty || (!ce && !tk) || !wi || !wl then 1 else if decide (how < 0) || decide (2 < how) then 3 else if decide (4000 < n) then 2
  else if (m != decide (0 < n2)) || (m && (decide (0 < n) || how != 0 || !ce)) then 4 else 0

mutual
/-- All parts, depth first. -/
def flatD : PartD → List PartD
  | ⟨t, cs, id, loc, how, body, parts⟩ => ⟨t, cs, id, loc, how, body, parts⟩ :: flatsD parts
def flatsD : List PartD → List PartD
  | [] => []
  | p :: ps => flatD p ++ flatsD ps
end
theorem flatD_eq (p : PartD) : flatD p = p :: flatsD p.parts := by cases p; rw [flatD]
mutual
/-- part.count: so deep may it go still. -/
def cntD : Nat → PartD → Option Nat
  | 0, _ => none
  | k + 1, ⟨_, _, _, _, _, _, parts⟩ => cntsD k 1 parts
def cntsD (k : Nat) : Nat → List PartD → Option Nat
  | n, [] => some n
  | n, p :: ps => match cntD k p with
    | none => none
    | some c => if 12 < n + c then none else cntsD k (n + c) ps
end
def cntNext (k n : Nat) (ps : List PartD) : Option Nat → Option Nat
  | none => none
  | some c => if 12 < n + c then none else cntsD k (n + c) ps
theorem cntsD_cons (k n : Nat) (p : PartD) (ps : List PartD) : cntsD k n (p :: ps) = cntNext k n ps (cntD k p) := by
  rw [cntsD]; cases cntD k p <;> rfl
theorem cntsD_le (k : Nat) : ∀ (ps : List PartD) (n c : Nat), n ≤ 12 → cntsD k n ps = some c → n ≤ c ∧ c ≤ 12 := by
  intro ps
  induction ps with
  | nil => intro n c h e; rw [cntsD] at e; injection e with e; omega
  | cons p ps ih =>
    intro n c h e
    rw [cntsD] at e
    split at e
    · cases e
    · split at e
      · cases e
      · have := ih _ c (by omega) e
        omega
theorem cntD_le (k : Nat) (p : PartD) (c : Nat) (h : cntD k p = some c) : 1 ≤ c ∧ c ≤ 12 := by
  obtain ⟨t, cs, id, loc, how, body, parts⟩ := p
  cases k with
  | zero => rw [cntD] at h; cases h
  | succ k => rw [cntD] at h; exact cntsD_le k parts 1 c (by omega) h
mutual
/-- How deep. -/
def deepD : PartD → Nat
  | ⟨_, _, _, _, _, _, parts⟩ => deepsD parts + 1
def deepsD : List PartD → Nat
  | [] => 0
  | p :: ps => max (deepD p) (deepsD ps)
end
/-! ### More of the plain part -/
theorem flatsD_len : ∀ (ps : List PartD), ps.length ≤ (flatsD ps).length
  | [] => by simp
  | p :: ps => by
    have := flatsD_len ps
    rw [flatsD, flatD_eq, List.length_append, List.length_cons, List.length_cons]
    omega
theorem flatsD_get : ∀ (ps : List PartD) (i : Nat) (h : i < ps.length), (flatD ps[i]).length ≤ (flatsD ps).length ∧ ∀ x ∈ flatD ps[i], x ∈ flatsD ps
  | [], i, h => absurd h (by simp)
  | p :: ps, 0, _ => by
    rw [flatsD]
    exact ⟨by simp, fun x hx => List.mem_append.2 (.inl hx)⟩
  | p :: ps, i + 1, h => by
    have := flatsD_get ps i (by simpa using h)
    rw [flatsD]
    exact ⟨by rw [List.length_append]; simp only [List.getElem_cons_succ]; omega, fun x hx => List.mem_append.2 (.inr (this.2 x hx))⟩
theorem cntD_flat : ∀ (k : Nat) (p : PartD) (c : Nat), cntD k p = some c → (flatD p).length = c := by
  intro k
  induction k with
  | zero => intro p c h; obtain ⟨t, cs, id, loc, how, body, parts⟩ := p; rw [cntD] at h; cases h
  | succ k ih =>
    intro p c h
    obtain ⟨t, cs, id, loc, how, body, parts⟩ := p
    rw [cntD] at h
    have key : ∀ (ps : List PartD) (n c : Nat), cntsD k n ps = some c → n + (flatsD ps).length = c := by
      intro ps
      induction ps with
      | nil => intro n c h; rw [cntsD] at h; have h := Option.some.inj h; simp [flatsD, h]
      | cons p ps ih2 =>
        intro n c h
        rw [cntsD_cons] at h
        cases hc : cntD k p with
        | none => rw [hc] at h; cases h
        | some d =>
          rw [hc] at h
          simp only [cntNext] at h
          split at h
          · cases h
          · have h1 := ih p d hc
            have h2 := ih2 _ _ h
            rw [flatsD, List.length_append]
            omega
    have := key parts 1 c h
    rw [flatD, List.length_cons]
    omega
/-- part.check of one part. -/
def chkD (p : PartD) : Nat := chkB (typB p.type) (p.cs == []) (tokB p.cs) (wordB p.id) (wordB p.loc) p.how p.body.length (manyB p.type) p.parts.length
def firstErr : List PartD → Nat
  | [] => 0
  | q :: r => if chkD q = 0 then firstErr r else chkD q
/-- part.Check. -/
def checkD (p : PartD) : Nat := match cntD 3 p with | none => 2 | some _ => firstErr (flatD p)
theorem checkD_none (p : PartD) (h : cntD 3 p = none) : checkD p = 2 := by unfold checkD; rw [h]
theorem checkD_some (p : PartD) (c : Nat) (h : cntD 3 p = some c) : checkD p = firstErr (flatD p) := by unfold checkD; rw [h]
section
variable {S : Nat → Prop} {w : World}
theorem PartAt.one {p : PartD} {v : List Value} (h : PartAt S w p v) : ∀ u ∈ v, u.oneCell' = true := by
  obtain ⟨t, cs, id, loc, how, body, parts⟩ := p
  obtain ⟨A, n, c, A2, n2, c2, rows, rfl, _⟩ := h
  intro u hu
  simp only [List.mem_cons, List.not_mem_nil, or_false] at hu
  rcases hu with rfl | rfl | rfl | rfl | rfl | rfl | rfl <;> rfl
theorem PartsAt.one : ∀ (ps : List PartD) (rows : List (List Value)), PartsAt S w ps rows → ∀ u ∈ rows.flatten, u.oneCell' = true
  | [], _, h => by rw [show _ = [] from h]; simp
  | p :: ps, _, h => by
    obtain ⟨r, rs, rfl, h2, h3⟩ := h
    intro u hu
    rw [List.flatten_cons, List.mem_append] at hu
    rcases hu with hu | hu
    · exact h2.one u hu
    · exact PartsAt.one ps rs h3 u hu
theorem PartsAt.flen {ps : List PartD} {rows : List (List Value)} (h : PartsAt S w ps rows) : rows.flatten.length = ps.length * 7 := by
  rw [flat7_len rows (PartsAt.rows _ _ h), PartsAt.len _ _ h]
/-- The parts of a part, as a slice. -/
theorem PartAt.open {p : PartD} {v : List Value} (h : PartAt S w p v) : ∃ A c A2 c2, v = [str p.type, str p.cs, str p.id, str p.loc, .int .i64 p.how, .slice A p.body.length c, .slice A2 p.parts.length c2] ∧
    (p.type.length ≤ maxLen ∧ p.cs.length ≤ maxLen ∧ p.id.length ≤ maxLen ∧ p.loc.length ≤ maxLen ∧ -9223372036854775808 ≤ p.how ∧ p.how ≤ 9223372036854775807) ∧
    SlS S w 1 A p.body.length (Lib.byteCells p.body) ∧ p.body.length ≤ c ∧ c ≤ maxLen ∧ SlP S w A2 p.parts.length p.parts ∧ p.parts.length ≤ c2 ∧ c2 ≤ maxLen := by
  obtain ⟨t, cs, id, loc, how, body, parts⟩ := p
  obtain ⟨A, n, c, A2, n2, c2, rows, rfl, h1, h2, h3, h4, h5, h6, h7, h8⟩ := h
  have e1 : n = body.length := by have := h2.1; simp [Lib.byteCells] at this; omega
  have e2 : n2 = parts.length := by
    have := SlP.len (S := S) (w := w) (A := A2) (n := n2) ⟨rows, h5, h8⟩
    exact this.symm
  subst e1
  subst e2
  exact ⟨A, c, A2, c2, rfl, h1, h2, h3, h4, ⟨rows, h5, h8⟩, h6, h7⟩
end
end Go.Proofs.YtdhmmepcnladcaaDoor

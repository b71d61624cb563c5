import Derived.Test.YtlbdnohnngkapaaGreatDoorU1
import Derived.Lib.AppendZeros
namespace Go.Proofs.YtlbdnohnngkapaaGreatDoor
open Go.RowKit

/-- A part, as data. -/
structure PartD where
  type : List UInt8
  cs : List UInt8
  id : List UInt8
  loc : List UInt8
  how : Int
  body : List UInt8
  parts : List PartD

/-! ### A slice that reads as a list of cells, in blocks of which S says yes -/
def SlS (S : Nat → Prop) (w : World) (size : Nat) (A : Option Addr) (n : Nat) (xs : List Value) : Prop :=
  xs.length = n * size ∧ (0 < n → ∃ b off, A = some ⟨b, off, none⟩ ∧ S b ∧ ∀ j u, xs[j]? = some u → w.cell? ⟨b, off + j, none⟩ = some u)
theorem SlS.sl {B : Nat} {w : World} {size n : Nat} {A : Option Addr} {xs : List Value} (h : SlS (· < B) w size A n xs) : Sl w B size A n xs := h
theorem Sl.sls {B : Nat} {w : World} {size n : Nat} {A : Option Addr} {xs : List Value} (h : Sl w B size A n xs) : SlS (· < B) w size A n xs := h
theorem SlS.change {S S' : Nat → Prop} {w w' : World} {size n : Nat} {A : Option Addr} {xs : List Value} (h : SlS S w size A n xs) (hS : ∀ b, S b → S' b) (hk : ∀ p : Addr, S p.block → w'.cell? p = w.cell? p) : SlS S' w' size A n xs :=
  ⟨h.1, fun hn => by
    obtain ⟨b, off, e, hb, hc⟩ := h.2 hn
    exact ⟨b, off, e, hS b hb, fun j u hu => (hk _ hb).trans (hc j u hu)⟩⟩

mutual
/-- The seven cells of a part, and what they lead to. -/
def PartAt (S : Nat → Prop) (w : World) : PartD → List Value → Prop
  | ⟨t, cs, id, loc, how, body, parts⟩, v => ∃ A n c A2 n2 c2 rows, v = [str t, str cs, str id, str loc, .int .i64 how, .slice A n c, .slice A2 n2 c2] ∧
      (t.length ≤ maxLen ∧ cs.length ≤ maxLen ∧ id.length ≤ maxLen ∧ loc.length ≤ maxLen ∧ -9223372036854775808 ≤ how ∧ how ≤ 9223372036854775807) ∧
      SlS S w 1 A n (Lib.byteCells body) ∧ n ≤ c ∧ c ≤ maxLen ∧ SlS S w 7 A2 n2 rows.flatten ∧ n2 ≤ c2 ∧ c2 ≤ maxLen ∧ PartsAt S w parts rows
def PartsAt (S : Nat → Prop) (w : World) : List PartD → List (List Value) → Prop
  | [], rows => rows = []
  | p :: ps, rows => ∃ r rs, rows = r :: rs ∧ PartAt S w p r ∧ PartsAt S w ps rs
end
/-- A slice of parts. -/
def SlP (S : Nat → Prop) (w : World) (A : Option Addr) (n : Nat) (ps : List PartD) : Prop :=
  ∃ rows, SlS S w 7 A n rows.flatten ∧ PartsAt S w ps rows

section
variable {S S' : Nat → Prop} {w w' : World}
mutual
theorem PartAt.change (hS : ∀ b, S b → S' b) (hk : ∀ p : Addr, S p.block → w'.cell? p = w.cell? p) : ∀ (p : PartD) (v : List Value), PartAt S w p v → PartAt S' w' p v
  | ⟨t, cs, id, loc, how, body, parts⟩, v, h => by
    obtain ⟨A, n, c, A2, n2, c2, rows, h1, h2, h3, h4, h5, h6, h7, h8, h9⟩ := h
    exact ⟨A, n, c, A2, n2, c2, rows, h1, h2, h3.change hS hk, h4, h5, h6.change hS hk, h7, h8, PartsAt.change hS hk parts rows h9⟩
theorem PartsAt.change (hS : ∀ b, S b → S' b) (hk : ∀ p : Addr, S p.block → w'.cell? p = w.cell? p) : ∀ (ps : List PartD) (rows : List (List Value)), PartsAt S w ps rows → PartsAt S' w' ps rows
  | [], _, h => h
  | p :: ps, _, h => by
    obtain ⟨r, rs, h1, h2, h3⟩ := h
    exact ⟨r, rs, h1, PartAt.change hS hk p r h2, PartsAt.change hS hk ps rs h3⟩
end
theorem SlP.change {A : Option Addr} {n : Nat} {ps : List PartD} (h : SlP S w A n ps) (hS : ∀ b, S b → S' b) (hk : ∀ p : Addr, S p.block → w'.cell? p = w.cell? p) : SlP S' w' A n ps := by
  obtain ⟨rows, h1, h2⟩ := h
  exact ⟨rows, h1.change hS hk, PartsAt.change hS hk _ _ h2⟩
theorem PartAt.below {B : Nat} {p : PartD} {v : List Value} (h : PartAt (· < B) w p v) (hb : Below B w w') : PartAt (· < B) w' p v :=
  PartAt.change (fun _ h => h) (fun _ hp => hb.cell hp) p v h
theorem PartAt.belowN {B C : Nat} {p : PartD} {v : List Value} (h : PartAt (· < B) w p v) (hb : Below C w w') (hC : B ≤ C) : PartAt (· < B) w' p v := h.below (hb.mono hC)
theorem PartAt.more {B C : Nat} {p : PartD} {v : List Value} (h : PartAt (· < B) w p v) (hC : B ≤ C) : PartAt (· < C) w p v :=
  PartAt.change (fun _ h => Nat.lt_of_lt_of_le h hC) (fun _ _ => rfl) p v h
theorem SlP.below {B : Nat} {A : Option Addr} {n : Nat} {ps : List PartD} (h : SlP (· < B) w A n ps) (hb : Below B w w') : SlP (· < B) w' A n ps :=
  h.change (fun _ h => h) (fun _ hp => hb.cell hp)
theorem SlP.belowN {B C : Nat} {A : Option Addr} {n : Nat} {ps : List PartD} (h : SlP (· < B) w A n ps) (hb : Below C w w') (hC : B ≤ C) : SlP (· < B) w' A n ps := h.below (hb.mono hC)
theorem SlP.more {B C : Nat} {A : Option Addr} {n : Nat} {ps : List PartD} (h : SlP (· < B) w A n ps) (hC : B ≤ C) : SlP (· < C) w A n ps :=
  h.change (fun _ h => Nat.lt_of_lt_of_le h hC) (fun _ _ => rfl)
theorem PartsAt.len : ∀ (ps : List PartD) (rows : List (List Value)), PartsAt S w ps rows → rows.length = ps.length
  | [], _, h => by rw [show _ = [] from h]; rfl
  | p :: ps, _, h => by
    obtain ⟨r, rs, rfl, _, h3⟩ := h
    simp [PartsAt.len ps rs h3]
theorem PartAt.row {p : PartD} {v : List Value} (h : PartAt S w p v) : v.length = 7 := by
  obtain ⟨t, cs, id, loc, how, body, parts⟩ := p
  obtain ⟨A, n, c, A2, n2, c2, rows, rfl, _⟩ := h
  rfl
theorem PartsAt.rows : ∀ (ps : List PartD) (rows : List (List Value)), PartsAt S w ps rows → ∀ r ∈ rows, r.length = 7
  | [], _, h => by rw [show _ = [] from h]; simp
  | p :: ps, _, h => by
    obtain ⟨r, rs, rfl, h2, h3⟩ := h
    intro x hx
    rcases List.mem_cons.1 hx with rfl | hx
    · exact h2.row
    · exact PartsAt.rows ps rs h3 x hx
theorem PartsAt.app : ∀ (ps : List PartD) (rows : List (List Value)) (qs : List PartD) (rows' : List (List Value)), PartsAt S w ps rows → PartsAt S w qs rows' → PartsAt S w (ps ++ qs) (rows ++ rows')
  | [], _, _, _, h, h' => by rw [show _ = [] from h]; exact h'
  | p :: ps, _, qs, rows', h, h' => by
    obtain ⟨r, rs, rfl, h2, h3⟩ := h
    exact ⟨r, rs ++ rows', rfl, h2, PartsAt.app ps rs qs rows' h3 h'⟩
theorem PartsAt.get : ∀ (ps : List PartD) (rows : List (List Value)), PartsAt S w ps rows → ∀ i (h : i < ps.length), ∃ r, rows[i]? = some r ∧ PartAt S w ps[i] r
  | [], _, _ => fun i h => absurd h (by simp)
  | p :: ps, _, h => by
    obtain ⟨r, rs, rfl, h2, h3⟩ := h
    intro i hi
    match i, hi with
    | 0, _ => exact ⟨r, rfl, h2⟩
    | i + 1, hi => exact PartsAt.get ps rs h3 i (by simpa using hi)
theorem PartsAt.mk : ∀ (ps : List PartD) (rows : List (List Value)), rows.length = ps.length → (∀ i (h : i < ps.length), ∃ r, rows[i]? = some r ∧ PartAt S w ps[i] r) → PartsAt S w ps rows
  | [], rows, hl, _ => List.eq_nil_of_length_eq_zero hl
  | p :: ps, [], hl, _ => by simp at hl
  | p :: ps, r :: rs, hl, h => by
    obtain ⟨r', h1, h2⟩ := h 0 (by simp)
    simp at h1
    subst h1
    exact ⟨r, rs, rfl, h2, PartsAt.mk ps rs (by simpa using hl) fun i hi => h (i + 1) (by simpa using hi)⟩
theorem flat7_len : ∀ (rows : List (List Value)), (∀ r ∈ rows, r.length = 7) → rows.flatten.length = rows.length * 7
  | [], _ => rfl
  | r :: rs, h => by
    rw [List.flatten_cons, List.length_append, h r (by simp), flat7_len rs (fun x hx => h x (by simp [hx])), List.length_cons]
    omega
theorem flat7_at : ∀ (rows : List (List Value)), (∀ r ∈ rows, r.length = 7) → ∀ (i k : Nat) (r : List Value), rows[i]? = some r → k < 7 → rows.flatten[i * 7 + k]? = r[k]?
  | [], _ => fun i k r hr _ => by simp at hr
  | x :: rs, h => by
    intro i k r hr hk
    have hx := h x (by simp)
    match i, hr with
    | 0, hr =>
      simp at hr; subst hr
      rw [List.flatten_cons, List.getElem?_append_left (by omega)]
      simp
    | i + 1, hr =>
      rw [List.flatten_cons, List.getElem?_append_right (by omega), hx, show (i + 1) * 7 + k - 7 = i * 7 + k from by omega]
      exact flat7_at rs (fun y hy => h y (by simp [hy])) i k r (by simpa using hr) hk
theorem SlP.len {A : Option Addr} {n : Nat} {ps : List PartD} (h : SlP S w A n ps) : ps.length = n := by
  obtain ⟨rows, h1, h2⟩ := h
  have hl := h1.1
  rw [flat7_len rows (PartsAt.rows _ _ h2), PartsAt.len _ _ h2] at hl
  omega
/-- Element i's cells. -/
theorem SlP.at_ {A : Option Addr} {n : Nat} {ps : List PartD} (h : SlP S w A n ps) {i : Nat} (hi : i < n) :
    ∃ b off r, A = some ⟨b, off, none⟩ ∧ S b ∧ PartAt S w (ps[i]'(by rw [h.len]; exact hi)) r ∧ ∀ k u, r[k]? = some u → w.cell? ⟨b, off + (i * 7 + k), none⟩ = some u := by
  have hl := h.len
  obtain ⟨rows, h1, h2⟩ := h
  obtain ⟨b, off, hA, hb, hc⟩ := h1.2 (by omega)
  obtain ⟨r, hr, hp⟩ := PartsAt.get _ _ h2 i (by omega)
  refine ⟨b, off, r, hA, hb, hp, fun k u hu => ?_⟩
  have hk : k < 7 := by
    have := hp.row
    rcases Nat.lt_or_ge k 7 with h' | h'
    · exact h'
    · rw [List.getElem?_eq_none (by omega)] at hu; cases hu
  exact hc _ u (by rw [flat7_at rows (PartsAt.rows _ _ h2) i k r hr hk]; exact hu)
theorem SlP.nil_ (S : Nat → Prop) (w : World) (A : Option Addr) : SlP S w A 0 [] := ⟨[], ⟨rfl, fun h => absurd h (by omega)⟩, rfl⟩
end

/-- Seven cells of one block. -/
def Box7 (w : World) (b : Nat) (v0 v1 v2 v3 v4 v5 v6 : Value) : Prop :=
  w.cell? ⟨b, 0, none⟩ = some v0 ∧ w.cell? ⟨b, 1, none⟩ = some v1 ∧ w.cell? ⟨b, 2, none⟩ = some v2 ∧ w.cell? ⟨b, 3, none⟩ = some v3 ∧ w.cell? ⟨b, 4, none⟩ = some v4 ∧ w.cell? ⟨b, 5, none⟩ = some v5 ∧ w.cell? ⟨b, 6, none⟩ = some v6
theorem Box7.lt {w : World} {b : Nat} {v0 v1 v2 v3 v4 v5 v6 : Value} (h : Box7 w b v0 v1 v2 v3 v4 v5 v6) : b < w.heap.size := by
  rcases Nat.lt_or_ge b w.heap.size with h' | h'
  · exact h'
  · have := h.1; simp [World.cell?, Array.getElem?_eq_none h'] at this
theorem Box7.below {w w' : World} {b : Nat} {v0 v1 v2 v3 v4 v5 v6 : Value} (h : Box7 w b v0 v1 v2 v3 v4 v5 v6) (hb : Below w.heap.size w w') : Box7 w' b v0 v1 v2 v3 v4 v5 v6 := by
  have hlt := h.lt
  obtain ⟨h0, h1, h2, h3, h4, h5, h6⟩ := h
  exact ⟨(hb.cell (p := ⟨b, 0, none⟩) hlt).trans h0, (hb.cell (p := ⟨b, 1, none⟩) hlt).trans h1, (hb.cell (p := ⟨b, 2, none⟩) hlt).trans h2, (hb.cell (p := ⟨b, 3, none⟩) hlt).trans h3, (hb.cell (p := ⟨b, 4, none⟩) hlt).trans h4, (hb.cell (p := ⟨b, 5, none⟩) hlt).trans h5, (hb.cell (p := ⟨b, 6, none⟩) hlt).trans h6⟩
theorem Box7.new (w : World) (t : TypeId) (v0 v1 v2 v3 v4 v5 v6 : Value) : Box7 (w.alloc (.cells #[v0, v1, v2, v3, v4, v5, v6] t)) w.heap.size v0 v1 v2 v3 v4 v5 v6 := by
  have h := heap_alloc_new w (.cells #[v0, v1, v2, v3, v4, v5, v6] t)
  refine ⟨?_, ?_, ?_, ?_, ?_, ?_, ?_⟩ <;> (unfold World.cell?; rw [h]; rfl)

/-! ### What package part computes -/
/-- part.check, its tests named. -/
def chkB (ty ce tk wi wl : Bool) (how : Int) (n : Nat) (m : Bool) (n2 : Nat) : Nat :=
  if !ty || (!ce && !tk) || !wi || !wl then 1 else if decide (how < 0) || decide (2 < how) then 3 else if decide (4000 < n) then 2
  else if (m != decide (0 < n2)) || (m && (decide (0 < n) || how != 0 || !ce)) then 4 else 0

mutual
/-- All parts, depth first. -/
def flatD : PartD → List PartD
  | ⟨t, cs, id, loc, how, body, parts⟩ => ⟨t, cs, id, loc, how, body, parts⟩ :: flatsD parts
def flatsD : List PartD → List PartD
  | [] => []
  | p :: ps => flatD p ++ flatsD ps
end
theorem flatD_eq (p : PartD) : flatD p = p :: flatsD p.parts := by cases p; rw [flatD]
mutual
/-- part.count: so deep may it go still. -/
def cntD : Nat → PartD → Option Nat
  | 0, _ => none
  | k + 1, ⟨_, _, _, _, _, _, parts⟩ => cntsD k 1 parts
def cntsD (k : Nat) : Nat → List PartD → Option Nat
  | n, [] => some n
  | n, p :: ps => match cntD k p with
    | none => none
    | some c => if 12 < n + c then none else cntsD k (n + c) ps
end
def cntNext (k n : Nat) (ps : List PartD) : Option Nat → Option Nat
  | none => none
  | some c => if 12 < n + c then none else cntsD k (n + c) ps
theorem cntsD_cons (k n : Nat) (p : PartD) (ps : List PartD) : cntsD k n (p :: ps) = cntNext k n ps (cntD k p) := by
  rw [cntsD]; cases cntD k p <;> rfl
theorem cntsD_le (k : Nat) : ∀ (ps : List PartD) (n c : Nat), n ≤ 12 → cntsD k n ps = some c → n ≤ c ∧ c ≤ 12 := by
  intro ps
  induction ps with
  | nil => intro n c h e; rw [cntsD] at e; injection e with e; omega
  | cons p ps ih =>
    intro n c h e
    rw [cntsD] at e
    split at e
    · cases e
    · split at e
      · cases e
      · have := ih _ c (by omega) e
        omega
theorem cntD_le (k : Nat) (p : PartD) (c : Nat) (h : cntD k p = some c) : 1 ≤ c ∧ c ≤ 12 := by
  obtain ⟨t, cs, id, loc, how, body, parts⟩ := p
  cases k with
  | zero => rw [cntD] at h; cases h
  | succ k => rw [cntD] at h; exact cntsD_le k parts 1 c (by omega) h
mutual
/-- How deep. -/
def deepD : PartD → Nat
  | ⟨_, _, _, _, _, _, parts⟩ => deepsD parts + 1
def deepsD : List PartD → Nat
  | [] => 0
  | p :: ps => max (deepD p) (deepsD ps)
end
/-! ### More of the plain part -/
theorem flatsD_len : ∀ (ps : List PartD), ps.length ≤ (flatsD ps).length
  | [] => by simp
  | p :: ps => by
    have := flatsD_len ps
    rw [flatsD, flatD_eq, List.length_append, List.length_cons, List.length_cons]
    omega
theorem flatsD_get : ∀ (ps : List PartD) (i : Nat) (h : i < ps.length), (flatD ps[i]).length ≤ (flatsD ps).length ∧ ∀ x ∈ flatD ps[i], x ∈ flatsD ps
  | [], i, h => absurd h (by simp)
  | p :: ps, 0, _ => by
    rw [flatsD]
    exact ⟨by simp, fun x hx => List.mem_append.2 (.inl hx)⟩
  | p :: ps, i + 1, h => by
    have := flatsD_get ps i (by simpa using h)
    rw [flatsD]
    exact ⟨by rw [List.length_append]; simp only [List.getElem_cons_succ]; omega, fun x hx => List.mem_append.2 (.inr (this.2 x hx))⟩
theorem cntD_flat : ∀ (k : Nat) (p : PartD) (c : Nat), cntD k p = some c → (flatD p).length = c := by
  intro k
  induction k with
  | zero => intro p c h; obtain ⟨t, cs, id, loc, how, body, parts⟩ := p; rw [cntD] at h; cases h
  | succ k ih =>
    intro p c h
    obtain ⟨t, cs, id, loc, how, body, parts⟩ := p
    rw [cntD] at h
    have key : ∀ (ps : List PartD) (n c : Nat), cntsD k n ps = some c → n + (flatsD ps).length = c := by
      intro ps
      induction ps with
      | nil => intro n c h; rw [cntsD] at h; have h := Option.some.inj h; simp [flatsD, h]
      | cons p ps ih2 =>
        intro n c h
        rw [cntsD_cons] at h
        cases hc : cntD k p with
        | none => rw [hc] at h; cases h
        | some d =>
          rw [hc] at h
          simp only [cntNext] at h
          split at h
          · cases h
          · have h1 := ih p d hc
            have h2 := ih2 _ _ h
            rw [flatsD, List.length_append]
            omega
    have := key parts 1 c h
    rw [flatD, List.length_cons]
    omega
/-- part.check of one part. -/
def chkD (p : PartD) : Nat := chkB (typB p.type) (p.cs == []) (tokB p.cs) (wordB p.id) (wordB p.loc) p.how p.body.length (manyB p.type) p.parts.length
def firstErr : List PartD → Nat
  | [] => 0
  | q :: r => if chkD q = 0 then firstErr r else chkD q
/-- part.Check. -/
def checkD (p : PartD) : Nat := match cntD 3 p with | none => 2 | some _ => firstErr (flatD p)
theorem checkD_none (p : PartD) (h : cntD 3 p = none) : checkD p = 2 := by unfold checkD; rw [h]
theorem checkD_some (p : PartD) (c : Nat) (h : cntD 3 p = some c) : checkD p = firstErr (flatD p) := by unfold checkD; rw [h]
section
variable {S : Nat → Prop} {w : World}
theorem PartAt.one {p : PartD} {v : List Value} (h : PartAt S w p v) : ∀ u ∈ v, u.oneCell' = true := by
  obtain ⟨t, cs, id, loc, how, body, parts⟩ := p
  obtain ⟨A, n, c, A2, n2, c2, rows, rfl, _⟩ := h
  intro u hu
  simp only [List.mem_cons, List.not_mem_nil, or_false] at hu
  rcases hu with rfl | rfl | rfl | rfl | rfl | rfl | rfl <;> rfl
theorem PartsAt.one : ∀ (ps : List PartD) (rows : List (List Value)), PartsAt S w ps rows → ∀ u ∈ rows.flatten, u.oneCell' = true
  | [], _, h => by rw [show _ = [] from h]; simp
  | p :: ps, _, h => by
    obtain ⟨r, rs, rfl, h2, h3⟩ := h
    intro u hu
    rw [List.flatten_cons, List.mem_append] at hu
    rcases hu with hu | hu
    · exact h2.one u hu
    · exact PartsAt.one ps rs h3 u hu
theorem PartsAt.flen {ps : List PartD} {rows : List (List Value)} (h : PartsAt S w ps rows) : rows.flatten.length = ps.length * 7 := by
  rw [flat7_len rows (PartsAt.rows _ _ h), PartsAt.len _ _ h]
/-- The parts of a part, as a slice. -/
theorem PartAt.open {p : PartD} {v : List Value} (h : PartAt S w p v) : ∃ A c A2 c2, v = [str p.type, str p.cs, str p.id, str p.loc, .int .i64 p.how, .slice A p.body.length c, .slice A2 p.parts.length c2] ∧
    (p.type.length ≤ maxLen ∧ p.cs.length ≤ maxLen ∧ p.id.length ≤ maxLen ∧ p.loc.length ≤ maxLen ∧ -9223372036854775808 ≤ p.how ∧ p.how ≤ 9223372036854775807) ∧
    SlS S w 1 A p.body.length (Lib.byteCells p.body) ∧ p.body.length ≤ c ∧ c ≤ maxLen ∧ SlP S w A2 p.parts.length p.parts ∧ p.parts.length ≤ c2 ∧ c2 ≤ maxLen := by
  obtain ⟨t, cs, id, loc, how, body, parts⟩ := p
  obtain ⟨A, n, c, A2, n2, c2, rows, rfl, h1, h2, h3, h4, h5, h6, h7, h8⟩ := h
  have e1 : n = body.length := by have := h2.1; simp [Lib.byteCells] at this; omega
  have e2 : n2 = parts.length := by
    have := SlP.len (S := S) (w := w) (A := A2) (n := n2) ⟨rows, h5, h8⟩
    exact this.symm
  subst e1
  subst e2
  exact ⟨A, c, A2, c2, rfl, h1, h2, h3, h4, ⟨rows, h5, h8⟩, h6, h7⟩
end
end Go.Proofs.YtlbdnohnngkapaaGreatDoor

namespace Go.Proofs.YtlbdnohnngkapaaGreatDoor
open Go.RowKit

set_option maxRecDepth 100000 in
set_option maxHeartbeats 400000 in
theorem type1_any (x : Nat) (w : World) : Calls Tryz.prog 270 #[.int .i32 (x : Int)] w fun e w' => e = .returned (.bool (upR x)) ∧ w = w' := by
  go_enter Tryz.func270, Tryz.ntmps270
  go_wp2_with fail
  all_goals
    go_ret
    refine ⟨congrArg (fun b => Ending.returned (.bool b)) (?_ : _ = upR x), rfl⟩
    rw [Bool.eq_iff_iff]
    simp [upR]
    try omega
theorem containsUp_any (l : List UInt8) (w : World) (ha : ∀ b ∈ l, b.toNat < 128) : Calls Tryz.prog 122 #[str l, .func (.func 270) #[] #[]] w fun e w' => e = .returned (.bool (l.any (fun b => upR b.toNat))) ∧ Below w.heap.size w w' := by
  have h := Go.Proofs.Tryz.strings_ContainsFunc_runes 270 #[] (enters_of Tryz.func270 (by kernel_rfl) rfl) upR ⟨l.toArray⟩ w
    (fun W x hx _ => (type1_any x W).mono fun e w' ⟨h1, h2⟩ => ⟨h1, 0, h2.symm⟩)
  rw [idxFunc_any upR l (.inr ha)] at h
  exact h
theorem cut_len (l : List UInt8) (c : UInt8) : (Lib.cut l [c]).1.length ≤ l.length ∧ (Lib.cut l [c]).2.1.length ≤ l.length := by
  unfold Lib.cut
  split
  · simp; omega
  · simp
set_option maxRecDepth 100000 in
set_option maxHeartbeats 1000000 in
theorem Type_any (l : List UInt8) (w : World) (hl : l.length ≤ maxLen) : Calls Tryz.prog 218 #[str l] w fun e w' => e = .returned (.bool (typB l)) ∧ Below w.heap.size w w' := by
  have hcut := Cut_one l 47 w hl
  have hcl := cut_len l 47
  have hasc := typ_ascii l
  unfold typB
  have hup := fun W h => containsUp_any l W h
  generalize l.any (fun b => upR b.toNat) = up at hup ⊢
  generalize Lib.cut l [47] = x at hcut hcl hasc ⊢
  obtain ⟨a, b, ok⟩ := x
  simp only at hcut hcl hasc ⊢
  have hta := fun W => Token_any a W (by omega)
  have htb := fun W => Token_any b W (by omega)
  generalize tokB a = ta at hta hasc ⊢
  generalize tokB b = tb at htb hasc ⊢
  have Hcut := Lib.hid hcut
  have Hta := Lib.hid hta
  have Htb := Lib.hid htb
  have Hup := Lib.hid hup
  have Hasc := Lib.hid hasc
  clear hcut hta htb hup hasc hcl hl
  cases ok
  · go_enter Tryz.func218, Tryz.ntmps218
    go_wp2_with fail
    refine Hcut.out.mono ?_
    rintro e w1 ⟨rfl, q, rfl⟩
    have hb1 : Below w.heap.size w (w.drewN q) := belN (Below.refl _ w) q
    generalize w.drewN q = w1 at hb1 ⊢
    go_wp2_with fail
    go_ret
    exact ⟨rfl, hb1⟩
  · cases ta
    · go_enter Tryz.func218, Tryz.ntmps218
      go_wp2_with fail
      refine Hcut.out.mono ?_
      rintro e w1 ⟨rfl, q, rfl⟩
      have hb1 : Below w.heap.size w (w.drewN q) := belN (Below.refl _ w) q
      generalize w.drewN q = w1 at hb1 ⊢
      go_wp2_with fail
      refine (Hta.out _).mono ?_
      rintro e w2 ⟨rfl, hb2⟩
      go_wp2_with fail
      go_ret
      exact ⟨rfl, hb1.trans (hb2.mono hb1.size)⟩
    · cases tb
      · go_enter Tryz.func218, Tryz.ntmps218
        go_wp2_with fail
        refine Hcut.out.mono ?_
        rintro e w1 ⟨rfl, q, rfl⟩
        have hb1 : Below w.heap.size w (w.drewN q) := belN (Below.refl _ w) q
        generalize w.drewN q = w1 at hb1 ⊢
        go_wp2_with fail
        refine (Hta.out _).mono ?_
        rintro e w2 ⟨rfl, hb2⟩
        have hbel2 := hb1.trans (hb2.mono hb1.size)
        go_wp2_with fail
        refine (Htb.out _).mono ?_
        rintro e w3 ⟨rfl, hb3⟩
        go_wp2_with fail
        go_ret
        exact ⟨rfl, hbel2.trans (hb3.mono hbel2.size)⟩
      · have hu := fun W => Hup.out W (Hasc.out rfl rfl rfl)
        have Hu := Lib.hid hu
        clear hu Hup Hasc
        go_enter Tryz.func218, Tryz.ntmps218
        go_wp2_with fail
        refine Hcut.out.mono ?_
        rintro e w1 ⟨rfl, q, rfl⟩
        have hb1 : Below w.heap.size w (w.drewN q) := belN (Below.refl _ w) q
        generalize w.drewN q = w1 at hb1 ⊢
        go_wp2_with fail
        refine (Hta.out _).mono ?_
        rintro e w2 ⟨rfl, hb2⟩
        have hbel2 := hb1.trans (hb2.mono hb1.size)
        go_wp2_with fail
        refine (Htb.out _).mono ?_
        rintro e w3 ⟨rfl, hb3⟩
        have hbel3 := hbel2.trans (hb3.mono hbel2.size)
        go_wp2_with fail
        refine (Hu.out _).mono ?_
        rintro e w4 ⟨rfl, hb4⟩
        have hbel4 := hbel3.trans (hb4.mono hbel3.size)
        go_wp2_with fail
        go_ret
        exact ⟨rfl, hbel4⟩
set_option maxRecDepth 100000 in
set_option maxHeartbeats 400000 in
theorem Many_any (l : List UInt8) (w : World) : Calls Tryz.prog 34 #[str l] w fun e w' => e = .returned (.bool (manyB l)) ∧ w = w' := by
  go_enter Tryz.func34, Tryz.ntmps34
  go_wp2_with fail
  refine (HasPrefix_any l [109, 117, 108, 116, 105, 112, 97, 114, 116, 47] _).mono ?_
  rintro e w1 ⟨rfl, rfl⟩
  go_wp2_with fail
  go_ret
  exact ⟨rfl, rfl⟩
set_option maxRecDepth 100000 in
set_option maxHeartbeats 400000 in
theorem word1_any (x : Nat) (hx : x < 256) (w : World) : Calls Tryz.prog 272 #[.int .u8 (x : Int)] w fun e w' => e = .returned (.bool (badWord x)) ∧ w = w' := by
  go_enter Tryz.func272, Tryz.ntmps272
  go_wp2_with fail
  all_goals
    go_ret
    refine ⟨congrArg (fun b => Ending.returned (.bool b)) (?_ : _ = badWord x), rfl⟩
    rw [Bool.eq_iff_iff]
    simp [badWord]
    try omega
theorem predWord (w : World) : PredB 272 #[] badWord w := fun W x hx _ =>
  (word1_any x hx W).mono fun _e _w' ⟨h1, h2⟩ => ⟨h1, h2 ▸ Below.refl _ _⟩
set_option maxRecDepth 100000 in
set_option maxHeartbeats 400000 in
theorem Word_any (l : List UInt8) (w : World) (hl : l.length ≤ maxLen) : Calls Tryz.prog 220 #[str l] w fun e w' => e = .returned (.bool (wordB l)) ∧ Below w.heap.size w w' := by
  unfold maxLen at hl
  by_cases h30 : l.length ≤ 120
  · have e : wordB l = !l.any (fun b => badWord b.toNat) := by simp [wordB, h30]
    rw [e]
    clear e
    obtain ⟨A, c, w1, hconv, hby, hnc, hb1, hlt1⟩ := run_toBytes (P := Tryz.prog) w 9 22 5 l Tryz.underlying9 Tryz.underlying22 Tryz.underlying5
    have hcf := ContainsFunc_bytes 272 #[] (enters_of Tryz.func272 (by kernel_rfl) rfl) badWord A l.length c _ l w1 hby (Nat.le_refl _) (by unfold maxLen; omega) (predWord w1)
    generalize l.any (fun b => badWord b.toNat) = r at hcf ⊢
    have Hcf := Lib.hid hcf
    clear hcf hby
    go_enter Tryz.func220, Tryz.ntmps220
    go_wp2_with fail
    refine Hcf.out.mono ?_
    rintro e w2 ⟨rfl, hb2⟩
    go_wp2_with fail
    go_ret
    exact ⟨rfl, hb1.trans (hb2.mono hb1.size)⟩
  · have e : wordB l = false := by simp [wordB, h30]
    rw [e]
    clear e
    go_enter Tryz.func220, Tryz.ntmps220
    go_wp2_with fail
    go_ret
    exact ⟨rfl, Below.refl _ _⟩
end Go.Proofs.YtlbdnohnngkapaaGreatDoor

namespace Go.Proofs.YtlbdnohnngkapaaGreatDoor
open Go.RowKit

theorem ret_nat {a b : Nat} (h : a = b) : Ending.returned (.int .i64 (a : Int)) = .returned (.int .i64 (b : Int)) := by rw [h]
set_option maxRecDepth 100000 in
set_option maxHeartbeats 2000000 in
theorem check_raw (t cs id loc : List UInt8) (how : Int) (A A2 : Option Addr) (n c n2 c2 : Nat) (w : World)
    (ht : t.length ≤ maxLen) (hcs : cs.length ≤ maxLen) (hid : id.length ≤ maxLen) (hloc : loc.length ≤ maxLen) (hh1 : -9223372036854775808 ≤ how) (hh2 : how ≤ 9223372036854775807) (hn : n ≤ maxLen) (hn2 : n2 ≤ maxLen) :
    Calls Tryz.prog 134 #[.agg #[str t, str cs, str id, str loc, .int .i64 how, .slice A n c, .slice A2 n2 c2]] w
      fun e w' => e = .returned (.int .i64 (chkB (typB t) (cs == []) (tokB cs) (wordB id) (wordB loc) how n (manyB t) n2 : Nat)) ∧ Below w.heap.size w w' := by
  have h1 := fun W => Type_any t W ht
  have h2 := fun W => Token_any cs W hcs
  have h3 := fun W => Word_any id W hid
  have h4 := fun W => Word_any loc W hloc
  have h5 := fun W => Many_any t W
  generalize typB t = ty at h1 ⊢
  generalize tokB cs = tk at h2 ⊢
  generalize wordB id = wi at h3 ⊢
  generalize wordB loc = wl at h4 ⊢
  generalize manyB t = m at h5 ⊢
  generalize hce : (cs == ([] : List UInt8)) = ce
  have HCE := Lib.hid hce
  clear hce
  have H1 := Lib.hid h1
  have H2 := Lib.hid h2
  have H3 := Lib.hid h3
  have H4 := Lib.hid h4
  have H5 := Lib.hid h5
  clear h1 h2 h3 h4 h5
  unfold maxLen at ht hcs hid hloc hn hn2
  have hbx := Box7.new w 25 (str t) (str cs) (str id) (str loc) (.int .i64 how) (.slice A n c) (.slice A2 n2 c2)
  have hb0 : Below w.heap.size w (w.alloc (.cells #[str t, str cs, str id, str loc, .int .i64 how, .slice A n c, .slice A2 n2 c2] 25)) := (Below.refl _ w).alloc (Nat.le_refl _) _
  go_enter Tryz.func134, Tryz.ntmps134
  go_wp2_with fail
  refine (H1.out _).mono ?_
  rintro e w1 ⟨rfl, hb1⟩
  have hbx1 := hbx.below hb1
  have hbel1 := hb0.trans (hb1.mono hb0.size)
  clear hbx hb0 hb1 H1
  have ⟨x0, x1, x2, x3, x4, x5, x6⟩ := hbx1
  cases ty
  · go_wp2_with fail
    go_ret
    exact ⟨ret_nat (by simp [chkB]), hbel1⟩
  · cases ce
    case' true =>
      have hce := HCE.out
      go_wp2_with fail
      obtain ⟨w2, hw2⟩ : ∃ w2 : World, w2 = w1 := ⟨_, rfl⟩
      have hbx2 := hbx1
      have hbel2 := hbel1
      rw [← hw2] at hbx2 hbel2 ⊢
      clear x0 x1 x2 x3 x4 x5 x6 hw2 hbx1 hbel1 hce
    case' false =>
      have hce := HCE.out
      go_wp2_with fail
      refine (H2.out _).mono ?_
      rintro e w2 ⟨rfl, hb2⟩
      have hbx2 := hbx1.below hb2
      have hbel2 := hbel1.trans (hb2.mono hbel1.size)
      have ⟨x0, x1, x2, x3, x4, x5, x6⟩ := hbx2
      cases tk
      · go_wp2_with fail
        go_ret
        exact ⟨ret_nat (by simp [chkB]), hbel2⟩
      go_wp2_with fail
      clear x0 x1 x2 x3 x4 x5 x6 hb2 hbx1 hbel1 hce
    all_goals
      refine (H3.out _).mono ?_
      rintro e w3 ⟨rfl, hb3⟩
      have hbx3 := hbx2.below hb3
      have hbel3 := hbel2.trans (hb3.mono hbel2.size)
      clear hbx2 hbel2 hb3
      have ⟨x0, x1, x2, x3, x4, x5, x6⟩ := hbx3
      cases wi
      · go_wp2_with fail
        go_ret
        exact ⟨ret_nat (by simp [chkB]), hbel3⟩
      · go_wp2_with fail
        clear x0 x1 x2 x3 x4 x5 x6
        refine (H4.out _).mono ?_
        rintro e w4 ⟨rfl, hb4⟩
        have hbx4 := hbx3.below hb4
        have hbel4 := hbel3.trans (hb4.mono hbel3.size)
        clear hbx3 hbel3 hb4
        have ⟨x0, x1, x2, x3, x4, x5, x6⟩ := hbx4
        cases wl
        · go_wp2_with fail
          go_ret
          exact ⟨ret_nat (by simp [chkB]), hbel4⟩
        · by_cases hh0 : how < 0
          · have d0 : decide (how < 0) = true := by simpa using hh0
            go_wp2_with fail
            go_ret
            exact ⟨ret_nat (by simp [chkB, hh0]), hbel4⟩
          · have d0 : decide (how < 0) = false := by simpa using hh0
            by_cases hh2 : 2 < how
            · have d2 : decide (2 < how) = true := by simpa using hh2
              go_wp2_with fail
              go_ret
              exact ⟨ret_nat (by simp [chkB, hh2]), hbel4⟩
            · have d2 : decide (2 < how) = false := by simpa using hh2
              by_cases hn4 : 4000 < n
              · go_wp2_with fail
                go_ret
                exact ⟨ret_nat (by simp [chkB, hh0, hh2, hn4]), hbel4⟩
              · go_wp2_with fail
                refine (H5.out _).mono ?_
                rintro e w5 ⟨rfl, rfl⟩
                have hce := HCE.out
                have k0 : ¬ how < 0 ∧ ¬ 2 < how ∧ ¬ 4000 < n := by omega
                have K0 := Lib.hid k0
                clear k0 hh0 hh2
                rcases (by omega : 0 < n2 ∨ n2 = 0) with hn0 | rfl <;> rcases (by omega : 0 < n ∨ n = 0) with hnn | rfl <;> rcases Decidable.em (how = 0) with rfl | hz <;> cases m
                all_goals
                  first
                  | have e0 : decide ((0 : Int) < n2) = true := by simp; omega
                  | have e0 : True := trivial
                  first
                  | have e1 : decide ((0 : Int) < n) = true := by simp; omega
                  | have e1 : True := trivial
                  first
                  | have e2 : (how != 0) = true := by simpa using hz
                  | have e2 : True := trivial
                  go_wp2_with fail
                  go_ret
                  refine ⟨ret_nat ?_, hbel4⟩
                  have k0 := K0.out
                  simp only [chkB]
                  simp [*]
end Go.Proofs.YtlbdnohnngkapaaGreatDoor

namespace Go.Proofs.YtlbdnohnngkapaaGreatDoor
open Go.RowKit

def cntVal : Option Nat → Value
  | none => .tuple #[.int .i64 0, .bool false]
  | some n => .tuple #[.int .i64 (n : Nat), .bool true]
/-- Element i of a slice of parts, its seven cells. -/
theorem SlP.cells7 {S : Nat → Prop} {w : World} {A : Option Addr} {n : Nat} {ps : List PartD} (h : SlP S w A n ps) {i : Nat} (hi : i < n) :
    ∃ b off p A' n' c' A2' n2' c2', A = some ⟨b, off, none⟩ ∧ S b ∧ ps.drop i = p :: ps.drop (i + 1) ∧ PartAt S w p [str p.type, str p.cs, str p.id, str p.loc, .int .i64 p.how, .slice A' n' c', .slice A2' n2' c2'] ∧
      w.cell? ⟨b, off + i * 7, none⟩ = some (str p.type) ∧ w.cell? ⟨b, off + i * 7 + 1, none⟩ = some (str p.cs) ∧ w.cell? ⟨b, off + i * 7 + 2, none⟩ = some (str p.id) ∧ w.cell? ⟨b, off + i * 7 + 3, none⟩ = some (str p.loc) ∧
      w.cell? ⟨b, off + i * 7 + 4, none⟩ = some (.int .i64 p.how) ∧ w.cell? ⟨b, off + i * 7 + 5, none⟩ = some (.slice A' n' c') ∧ w.cell? ⟨b, off + i * 7 + 6, none⟩ = some (.slice A2' n2' c2') := by
  have hl := h.len
  obtain ⟨b, off, r, hA, hb, hp, hc⟩ := h.at_ hi
  have hd := List.drop_eq_getElem_cons (l := ps) (i := i) (by omega)
  generalize ps[i]'(by rw [h.len]; exact hi) = p at hp hd
  obtain ⟨t, cs, id, loc, how, body, parts⟩ := p
  have hp2 := hp
  obtain ⟨A', n', c', A2', n2', c2', rows, rfl, _⟩ := hp
  exact ⟨b, off, _, A', n', c', A2', n2', c2', hA, hb, hd, hp2, hc 0 _ rfl, hc 1 _ rfl, hc 2 _ rfl, hc 3 _ rfl, hc 4 _ rfl, hc 5 _ rfl, hc 6 _ rfl⟩

def CntRel (k n2 : Nat) (ps : List PartD) (R : Option Nat) (w0 : World) (nv iv : Value) (wr : World) : Prop :=
  ∃ i n : Nat, nv = .int .i64 (n : Nat) ∧ iv = .int .i64 (i : Nat) ∧ i ≤ n2 ∧ n ≤ 12 ∧ Hid (cntsD k n (ps.drop i) = R) ∧ Below w0.heap.size w0 wr
set_option maxRecDepth 100000 in
set_option maxHeartbeats 2000000 in
theorem count_any (k : Nat) : ∀ (p : PartD) (v : List Value) (depth : Int) (w : World), k + depth = 4 → 1 ≤ depth → PartAt (· < w.heap.size) w p v →
    Calls Tryz.prog 133 #[.agg v.toArray, .int .i64 depth] w fun e w' => e = .returned (cntVal (cntD k p)) ∧ Below w.heap.size w w' := by
  induction k with
  | zero =>
    intro p v depth w hd h1 hp
    obtain ⟨t, cs, id, loc, how, body, parts⟩ := p
    obtain ⟨A, n, c, A2, n2, c2, rows, rfl, _⟩ := hp
    have e : cntD 0 ⟨t, cs, id, loc, how, body, parts⟩ = none := by rw [cntD]
    rw [e]
    have hd4 : 3 < depth := by omega
    have hd5 : depth ≤ 4 := by omega
    clear hd e
    go_enter Tryz.func133, Tryz.ntmps133
    go_wp2_with fail
    go_ret2
    exact ⟨rfl, (Below.refl _ _).alloc (Nat.le_refl _) _⟩
  | succ k ih =>
    intro p v depth w hd h1 hp
    obtain ⟨t, cs, id, loc, how, body, parts⟩ := p
    obtain ⟨A, n, c, A2, n2, c2, rows, rfl, _, _, _, _, hsl, hnc, hcm, hps⟩ := hp
    have hP : SlP (· < w.heap.size) w A2 n2 parts := ⟨rows, hsl, hps⟩
    have e : cntD (k + 1) ⟨t, cs, id, loc, how, body, parts⟩ = cntsD k 1 parts := by rw [cntD]
    rw [e]
    obtain ⟨R, hR⟩ : ∃ R, cntsD k 1 parts = R := ⟨_, rfl⟩
    rw [hR]
    have HR := Lib.hid hR
    have Hih := Lib.hid ih
    have hd3 : depth ≤ 3 := by omega
    have Hd := Lib.hid hd
    have hn2 : n2 ≤ 9223372036854775807 := by unfold maxLen at hcm; omega
    clear hsl hps e hR ih hd hcm
    go_enter Tryz.func133, Tryz.ntmps133
    go_wp2_with fail
    go_loopw [6, 16] (CntRel k n2 parts R w) (fun _ iv _ => n2 - (intOf iv).toNat)
    case atStart => exact ⟨0, 1, rfl, rfl, by omega, by omega, HR.out, (Below.refl _ w).alloc (Nat.le_refl _) _⟩
    case round =>
      clear HR
      obtain ⟨i, m, rfl, rfl, hi, hm, hE, hbel⟩ := hrel
      by_cases hin : i < n2
      · have hPr := hP.below hbel
        obtain ⟨b, off, q, A', n', c', A2', n2', c2', rfl, hbS, hq, hqa, x0, x1, x2, x3, x4, x5, x6⟩ := hPr.cells7 hin
        have Hq := Lib.hid hq
        clear hq hPr hP
        go_wp2_with fail
        have hqa2 := (hqa.below ((Below.refl w.heap.size wr).alloc hbel.size (.cells #[str q.type, str q.cs, str q.id, str q.loc, .int .i64 q.how, .slice A' n' c', .slice A2' n2' c2'] 25))).more (C := (wr.alloc (.cells #[str q.type, str q.cs, str q.id, str q.loc, .int .i64 q.how, .slice A' n' c', .slice A2' n2' c2'] 25)).heap.size) (by have := hbel.size; simp; omega)
        have hb0 := hbel.alloc hbel.size (.cells #[str q.type, str q.cs, str q.id, str q.loc, .int .i64 q.how, .slice A' n' c', .slice A2' n2' c2'] 25)
        have hc12 := cntD_le k q
        have hE2 : Hid (cntNext k m (parts.drop (i + 1)) (cntD k q) = R) := by
          show _ = R
          rw [← hE.out, Hq.out, cntsD_cons]
        have hcl := Hih.out q _ (depth + 1) _ (by have := Hd.out; omega) (by omega) hqa2
        generalize cntD k q = o at hcl hc12 hE2
        clear x0 x1 x2 x3 x4 x5 x6 hqa hqa2
        cases o with
        | none =>
          obtain rfl : none = R := hE2.out
          simp only [cntVal] at hcl
          refine hcl.mono ?_
          clear hcl hE hE2 hc12
          rintro e w1 ⟨rfl, hb1⟩
          have hbel1 := hb0.trans (hb1.mono hb0.size)
          go_wp2_with fail
          go_ret2
          exact ⟨rfl, hbel1⟩
        | some c =>
          obtain ⟨hc1, hc2⟩ := hc12 c rfl
          simp only [cntVal] at hcl
          by_cases h12 : 12 < m + c
          · obtain rfl : none = R := by have := hE2.out; simp only [cntNext] at this; rw [if_pos h12] at this; exact this
            have d1 : decide ((12 : Int) < (m : Int) + c) = true := by simp; omega
            refine hcl.mono ?_
            clear hcl hE hE2 hc12
            rintro e w1 ⟨rfl, hb1⟩
            have hbel1 := hb0.trans (hb1.mono hb0.size)
            go_wp2_with fail
            go_ret2
            exact ⟨rfl, hbel1⟩
          · have hE3 : Hid (cntsD k (m + c) (parts.drop (i + 1)) = R) := by have := hE2.out; simp only [cntNext] at this; rw [if_neg h12] at this; exact this
            have d1 : decide ((12 : Int) < (m : Int) + c) = false := by simp; omega
            refine hcl.mono ?_
            clear hcl hE hE2 hc12
            rintro e w1 ⟨rfl, hb1⟩
            have hbel1 := hb0.trans (hb1.mono hb0.size)
            go_wp2_with fail
            exact ⟨⟨i + 1, m + c, by go_num, by go_num, by omega, by omega, hE3, hbel1⟩, by simp [intOf]; omega⟩
      · have hR : some m = R := by rw [← hE.out, List.drop_of_length_le (by rw [hP.len]; omega), cntsD]
        subst hR
        clear hE
        go_wp2_with fail
        go_ret2
        exact ⟨rfl, hbel⟩
end Go.Proofs.YtlbdnohnngkapaaGreatDoor

namespace Go.Proofs.YtlbdnohnngkapaaGreatDoor
open Go.RowKit

theorem catInfoPart : (Tryz.prog.info? 25).map (fun i => (i.zero, i.size, i.bytes)) = some (some (Value.agg #[.string ⟨#[]⟩, .string ⟨#[]⟩, .string ⟨#[]⟩, .string ⟨#[]⟩, .int .i64 0, .slice none 0 0, .slice none 0 0]), 7, 120) := by kernel_rfl
set_option maxRecDepth 100000 in
theorem upto_Part (w : World) (A : Option Addr) (n c : Nat) (ki : IntKind) (k : Int) (h0 : 0 ≤ k) (h1 : k ≤ n) (hc : n ≤ c) :
    (Instr.slice 23 (.slice A n c) none (some (.int ki k)) none).run Tryz.prog w = .ok (.slice (cutA A c 0 7) k.toNat c) w :=
  run_upto w _ _ 7 Tryz.underlying23 (Tryz.sizeOf25 w) A n c ki k h0 h1 hc
attribute [local go_sem high] upto_Part
def GrowResPart (w : World) (e : Ending) (w' : World) : Prop := ∃ S c, e = .returned (.slice S 0 c) ∧ w'.ownsRow w.heap.size 25 7 (.slice S 0 c) 0 [] ∧ Below w.heap.size w w'
set_option maxRecDepth 100000 in
set_option maxHeartbeats 1000000 in
theorem Grow_Part (k : Nat) (w : World) (hk : k ≤ 1000000000) : Calls Tryz.prog 224 #[.slice none 0 0, .int .i64 (k : Nat)] w (GrowResPart w) := by
  obtain ⟨i0, hi, hz0, hz1, hz2⟩ := info_parts catInfoPart
  rcases Nat.eq_zero_or_pos k with rfl | h0
  · go_enter Tryz.func224, Tryz.ntmps224
    go_wp2_with fail
    go_ret
    exact ⟨none, 0, rfl, World.ownsRow_nil _ _ _ _, Below.refl _ _⟩
  · have happ := fun ty => Lib.run_append_nil_zeros (P := Tryz.prog) w 23 3 ty 25 i0 (Value.agg #[.string ⟨#[]⟩, .string ⟨#[]⟩, .string ⟨#[]⟩, .string ⟨#[]⟩, .int .i64 0, .slice none 0 0, .slice none 0 0]) .i64 .i64 Tryz.underlying23 Tryz.underlying3 hi hz0 k h0 (by omega) (by omega) (by rw [hz2]; omega)
    have hcapge := grownCap_ge w k 0 25
    have hcaple := grownCap_le_maxLen w k 0 25 (by unfold maxLen; omega)
    generalize grownCap w k 0 25 = cap at happ hcapge hcaple
    generalize hZ : (Builtin.zeroCells (Value.agg #[.string ⟨#[]⟩, .string ⟨#[]⟩, .string ⟨#[]⟩, .string ⟨#[]⟩, .int .i64 0, .slice none 0 0, .slice none 0 0]).cells k ++ Builtin.zeroCells (Value.agg #[.string ⟨#[]⟩, .string ⟨#[]⟩, .string ⟨#[]⟩, .string ⟨#[]⟩, .int .i64 0, .slice none 0 0, .slice none 0 0]).cells (cap - k)) = Z at happ
    have hZs : Hid (Z.size = cap * 7) := by show _ = _; rw [← hZ]; simp [size_zeroCells, Value.cells]; omega
    have Hcl := Lib.hid hcaple
    clear hZ hcaple
    go_enter Tryz.func224, Tryz.ntmps224
    go_wp2_with (at_builtin; refine Lib.wpList_append_run _ rfl _ _ _ _ rfl _ _ rfl rfl _ _ (happ _) ?_)
    go_ret
    refine ⟨some ⟨w.heap.size, 0, none⟩, cap, ?_, ⟨rfl, .inr ⟨w.heap.size, cap, Z, rfl, Nat.le_refl _, heap_alloc_new w.drew _, Nat.zero_le _, Hcl.out, hZs.out, by simp⟩⟩, ((Below.refl _ w).drew).alloc (Nat.le_refl _) _⟩
    simp [cutA, Addr.add]

def CatRel1Part (n1 n2 : Nat) (w0 : World) (sv iv : Value) (wr : World) : Prop :=
  ((iv = .int .i64 0 ∧ sv = .int .i64 0) ∨ (iv = .int .i64 1 ∧ sv = .int .i64 (n1 : Nat)) ∨ (iv = .int .i64 2 ∧ sv = .int .i64 ((n1 + n2 : Nat) : Int))) ∧ wr = w0
def CatRel2Part (n1 n2 : Nat) (xs ys : List Value) (w0 : World) (nv iv : Value) (wr : World) : Prop :=
  ∃ S m c zs, nv = .slice S m c ∧ wr.ownsRow w0.heap.size 25 7 (.slice S m c) m zs ∧ Below w0.heap.size w0 wr ∧
    ((iv = .int .i64 0 ∧ m = 0 ∧ zs = []) ∨ (iv = .int .i64 1 ∧ m = n1 ∧ zs = xs) ∨ (iv = .int .i64 2 ∧ m = n1 + n2 ∧ zs = xs ++ ys))
def CatResPart (xs : List Value) (n : Nat) (w : World) (e : Ending) (w' : World) : Prop := ∃ S c, e = .returned (.slice S n c) ∧ w'.ownsRow w.heap.size 25 7 (.slice S n c) n xs ∧ Below w.heap.size w w'
set_option maxRecDepth 100000 in
set_option maxHeartbeats 1000000 in
theorem Concat_Part (A A1 A2 : Option Addr) (c n1 c1 n2 c2 : Nat) (xs ys : List Value) (w : World) (hA : Sl w w.heap.size 1 A 2 [.slice A1 n1 c1, .slice A2 n2 c2]) (hx : Sl w w.heap.size 7 A1 n1 xs) (hy : Sl w w.heap.size 7 A2 n2 ys)
    (h1x : ∀ u ∈ xs, u.oneCell' = true) (h1y : ∀ u ∈ ys, u.oneCell' = true) (hn : n1 + n2 ≤ 1000000000) :
    Calls Tryz.prog 140 #[.slice A 2 c] w (CatResPart (xs ++ ys) (n1 + n2) w) := by
  obtain ⟨i0, hi, hz0, hz1, hz2⟩ := info_parts catInfoPart
  obtain ⟨b, off, rfl, hbl, hc⟩ := hA.2 (by omega)
  have x0 : w.cell? ⟨b, off, none⟩ = some (.slice A1 n1 c1) := hc 0 _ rfl
  have x1 : w.cell? ⟨b, off + 1, none⟩ = some (.slice A2 n2 c2) := hc 1 _ rfl
  have H1x := Lib.hid h1x
  have H1y := Lib.hid h1y
  clear hc hA h1x h1y
  go_enter Tryz.func140, Tryz.ntmps140
  go_wp2_with fail
  go_loopw [3, 11] (CatRel1Part n1 n2 w) (fun _ iv _ => 2 - (intOf iv).toNat)
  case atStart => exact ⟨.inl ⟨rfl, rfl⟩, rfl⟩
  case round =>
    obtain ⟨h, rfl⟩ := hrel
    rcases h with ⟨rfl, rfl⟩ | ⟨rfl, rfl⟩ | ⟨rfl, rfl⟩
    · go_wp2_with fail
      exact ⟨⟨.inr (.inl ⟨rfl, by go_num⟩), rfl⟩, by simp [intOf]⟩
    · go_wp2_with fail
      exact ⟨⟨.inr (.inr ⟨rfl, by go_num⟩), rfl⟩, by simp [intOf]⟩
    · obtain ⟨w, rfl⟩ : ∃ x : World, x = wr := ⟨_, rfl⟩
      go_wp2_with fail
      refine (Grow_Part (n1 + n2) _ hn).mono ?_
      rintro e w1 ⟨S, cs, rfl, hown, hb1⟩
      have y0 := (hb1.cell (p := ⟨b, off, none⟩) hbl).trans x0
      have y1 := (hb1.cell (p := ⟨b, off + 1, none⟩) hbl).trans x1
      clear x0 x1
      go_wp2_with fail
      go_loopw [6, 27] (CatRel2Part n1 n2 xs ys w) (fun _ iv _ => 2 - (intOf iv).toNat)
      case atStart => exact ⟨S, 0, cs, [], rfl, hown, hb1, .inl ⟨rfl, rfl, rfl⟩⟩
      case round =>
        clear hown
        obtain ⟨S, m, cs, zs, rfl, hown, hbel, h⟩ := hrel
        have z0 := (hbel.cell (p := ⟨b, off, none⟩) hbl).trans ((hb1.cell (p := ⟨b, off, none⟩) hbl).symm.trans y0)
        have z1 := (hbel.cell (p := ⟨b, off + 1, none⟩) hbl).trans ((hb1.cell (p := ⟨b, off + 1, none⟩) hbl).symm.trans y1)
        clear y0 y1 hb1
        rcases h with ⟨rfl, rfl, rfl⟩ | ⟨rfl, rfl, rfl⟩ | ⟨rfl, rfl, rfl⟩
        · have hxr := hx.below hbel
          have h63 : 0 + n1 ≤ maxLen := by unfold maxLen; omega
          have h47 : (0 + n1) * 120 ≤ 140737488355328 := by omega
          go_wp2_with (at_builtin; refine wpList_app rfl _ _ 23 rfl w.heap.size 25 i0 (Value.agg #[.string ⟨#[]⟩, .string ⟨#[]⟩, .string ⟨#[]⟩, .string ⟨#[]⟩, .int .i64 0, .slice none 0 0, .slice none 0 0]) 7 120 Tryz.underlying23 hi hz0 hz1 hz2 rfl (by decide) S 0 cs [] rfl hown _ _ n1 c1 xs rfl hxr H1x.out h63 h47 hbel.size ?_)
          intro S' c' w4 hown4 hb4 _
          try simp only [Nat.zero_add, List.nil_append] at hown4
          go_wp2_with fail
          exact ⟨⟨S', n1, c', xs, by simp, hown4, hbel.trans hb4, .inr (.inl ⟨rfl, rfl, rfl⟩)⟩, by simp [intOf]⟩
        · have hyr := hy.below hbel
          have h63 : m + n2 ≤ maxLen := by unfold maxLen; omega
          have h47 : (m + n2) * 120 ≤ 140737488355328 := by omega
          go_wp2_with (at_builtin; refine wpList_app rfl _ _ 23 rfl w.heap.size 25 i0 (Value.agg #[.string ⟨#[]⟩, .string ⟨#[]⟩, .string ⟨#[]⟩, .string ⟨#[]⟩, .int .i64 0, .slice none 0 0, .slice none 0 0]) 7 120 Tryz.underlying23 hi hz0 hz1 hz2 rfl (by decide) S m cs zs rfl hown _ _ n2 c2 ys rfl hyr H1y.out h63 h47 hbel.size ?_)
          intro S' c' w4 hown4 hb4 _
          go_wp2_with fail
          exact ⟨⟨S', m + n2, c', zs ++ ys, rfl, hown4, hbel.trans hb4, .inr (.inr ⟨rfl, rfl, rfl⟩)⟩, by simp [intOf]⟩
        · go_wp2_with fail
          go_ret
          exact ⟨S, cs, rfl, hown, hbel⟩
end Go.Proofs.YtlbdnohnngkapaaGreatDoor

namespace Go.Proofs.YtlbdnohnngkapaaGreatDoor
open Go.RowKit

theorem check_at {S : Nat → Prop} {W : World} (p : PartD) (v : List Value) (h : PartAt S W p v) (w : World) :
    Calls Tryz.prog 134 #[.agg v.toArray] w fun e w' => e = .returned (.int .i64 (chkD p : Nat)) ∧ Below w.heap.size w w' := by
  obtain ⟨A, c, A2, c2, rfl, ⟨h1, h2, h3, h4, h5, h6⟩, _, h7, h8, _, h9, h10⟩ := h.open
  exact check_raw p.type p.cs p.id p.loc p.how A A2 _ c _ c2 w h1 h2 h3 h4 h5 h6 (Nat.le_trans h7 h8) (Nat.le_trans h9 h10)

/-- A slice of parts in new memory, that lead into blocks below B. -/
def AllRes (B : Nat) (ps : List PartD) (w : World) (e : Ending) (w' : World) : Prop :=
  ∃ S c rows, e = .returned (.slice S ps.length c) ∧ w'.ownsRow w.heap.size 25 7 (.slice S ps.length c) ps.length rows.flatten ∧ PartsAt (· < B) w' ps rows ∧ Below w.heap.size w w'
def AllRel (B : Nat) (parts all : List PartD) (n2 : Nat) (w0 : World) (lv iv : Value) (wr : World) : Prop :=
  ∃ i m c S done rows, lv = .slice S m c ∧ iv = .int .i64 (i : Nat) ∧ i ≤ n2 ∧ wr.ownsRow w0.heap.size 25 7 (.slice S m c) m rows.flatten ∧ PartsAt (· < B) wr done rows ∧
    Hid (done ++ flatsD (parts.drop i) = all ∧ done.length = m) ∧ 1 ≤ m ∧ Below w0.heap.size w0 wr
set_option maxRecDepth 100000 in
set_option maxHeartbeats 2000000 in
theorem all_any (k : Nat) : ∀ (p : PartD) (v : List Value) (B : Nat) (w : World), (flatD p).length ≤ k → k ≤ 1000 → B ≤ w.heap.size → PartAt (· < B) w p v →
    Calls Tryz.prog 103 #[.agg v.toArray] w (AllRes B (flatD p) w) := by
  obtain ⟨i0, hi0, hz0, hz1, hz2⟩ := info_parts catInfoPart
  induction k with
  | zero => intro p v B w h; rw [flatD_eq] at h; simp at h
  | succ k ih =>
    intro p v B w hk hk1 hB hp
    obtain ⟨A, c, A2, c2, rfl, _, _, _, _, hP, hc2, hcm⟩ := hp.open
    have hall := flatD_eq p
    have hrow : PartsAt (· < B) w [p] [[str p.type, str p.cs, str p.id, str p.loc, .int .i64 p.how, .slice A p.body.length c, .slice A2 p.parts.length c2]] := ⟨_, _, rfl, hp, rfl⟩
    obtain ⟨n2, hn2⟩ : ∃ n2, n2 = p.parts.length := ⟨_, rfl⟩
    rw [← hn2] at hP hrow hc2 ⊢
    obtain ⟨L, hL⟩ : ∃ L, L = flatD p := ⟨_, rfl⟩
    rw [← hL] at hall hk ⊢
    have hn2m : n2 ≤ 9223372036854775807 := by unfold maxLen at hcm; omega
    have Hall := Lib.hid hall
    have Hn2 := Lib.hid hn2
    have Hih := Lib.hid ih
    have hk1000 : L.length ≤ 1000 := by omega
    have Hk := Lib.hid hk
    clear hall hL hn2 ih hk hcm hp
    go_enter Tryz.func103, Tryz.ntmps103
    go_wp2_with fail
    go_loopw [3, 11] (AllRel B p.parts L n2 w) (fun _ iv _ => n2 - (intOf iv).toNat)
    case atStart =>
      have hbn : Below w.heap.size w ((w.alloc (.cells #[str p.type, str p.cs, str p.id, str p.loc, .int .i64 p.how, .slice A p.body.length c, .slice A2 n2 c2] 25)).alloc (.cells #[str p.type, str p.cs, str p.id, str p.loc, .int .i64 p.how, .slice A p.body.length c, .slice A2 n2 c2] 25)) := ((Below.refl _ w).alloc (Nat.le_refl _) _).alloc (by simp) _
      refine ⟨0, 1, 1, some ⟨w.heap.size + 1, 0, none⟩, [p], _, rfl, rfl, Nat.zero_le _, ?_, PartsAt.change (fun _ h => h) (fun a ha => hbn.cell (Nat.lt_of_lt_of_le ha hB)) _ _ hrow, ⟨Hall.out.symm, rfl⟩, Nat.le_refl _, hbn⟩
      exact ⟨rfl, .inr ⟨w.heap.size + 1, 1, _, rfl, Nat.le_succ _, by have := heap_alloc_new (w.alloc (.cells #[str p.type, str p.cs, str p.id, str p.loc, .int .i64 p.how, .slice A p.body.length c, .slice A2 n2 c2] 25)) (.cells #[str p.type, str p.cs, str p.id, str p.loc, .int .i64 p.how, .slice A p.body.length c, .slice A2 n2 c2] 25); simpa using this, Nat.le_refl _, by unfold maxLen; omega, rfl, rfl⟩⟩
    case round =>
      obtain ⟨i, m, cl, S, done, rows, rfl, rfl, hi, hown, hrows, hE, hm1, hbel⟩ := hrel
      by_cases hin : i < n2
      · have hPr := hP.belowN hbel hB
        obtain ⟨b, off, q, A', n', c', A2', n2', c2', rfl, hbS, hq, hqa, x0, x1, x2, x3, x4, x5, x6⟩ := hPr.cells7 hin
        have hE1 := hE.out.1
        rw [hq, flatsD] at hE1
        have hlq : (flatD q).length ≤ k ∧ m + (flatD q).length ≤ 1000 := by
          have h1 := congrArg List.length hE1
          have h2 := Hk.out
          have h3 := hE.out.2
          simp only [List.length_append] at h1
          omega
        obtain ⟨W, hW⟩ : ∃ W, W = wr.alloc (.cells #[str q.type, str q.cs, str q.id, str q.loc, .int .i64 q.how, .slice A' n' c', .slice A2' n2' c2'] 25) := ⟨_, rfl⟩
        have hbW : Below wr.heap.size wr W := by rw [hW]; exact (Below.refl _ wr).alloc (Nat.le_refl _) _
        have hbelW := hbel.trans (hbW.mono hbel.size)
        have hqa2 : PartAt (· < B) W q [str q.type, str q.cs, str q.id, str q.loc, .int .i64 q.how, .slice A' n' c', .slice A2' n2' c2'] := hqa.belowN hbW (Nat.le_trans hB hbel.size)
        have hcl := Hih.out q _ B W hlq.1 (by omega) (Nat.le_trans hB hbelW.size) hqa2
        have hownW := own_below hown hbW
        have hrowsW := PartsAt.change (fun _ h => h) (fun a ha => hbW.cell (Nat.lt_of_lt_of_le ha (Nat.le_trans hB hbel.size))) _ _ hrows
        have hE2 : Hid ((done ++ flatD q) ++ flatsD (p.parts.drop (i + 1)) = L ∧ (done ++ flatD q).length = m + (flatD q).length) := ⟨by rw [List.append_assoc]; exact hE1, by rw [List.length_append, hE.out.2]⟩
        generalize flatD q = F at hcl hE2 hlq
        have Hcl := Lib.hid hcl
        clear hE hE1 hq hqa hqa2 hcl hPr hown hrows hbW hbel
        go_wp2_with fail
        rw [← hW]
        clear hW x0 x1 x2 x3 x4 x5 x6
        refine Hcl.out.mono ?_
        rintro e w1 ⟨S2, c2, rows2, rfl, hown2, hrows2, hb1⟩
        have hown1 := own_below hownW hb1
        have hrows1 := PartsAt.change (fun _ h => h) (fun a ha => hb1.cell (Nat.lt_of_lt_of_le ha (Nat.le_trans hB hbelW.size))) _ _ hrowsW
        have hbel1 := hbelW.trans (hb1.mono hbelW.size)
        have hone := PartsAt.one _ _ hrows2
        have hsl := Sl.of_own hown2
        have h63 : m + F.length ≤ maxLen := by unfold maxLen; omega
        have h47 : (m + F.length) * 120 ≤ 140737488355328 := by omega
        clear hownW hrowsW hown2 hb1 hbelW Hcl
        go_wp2_with (at_builtin; refine wpList_app rfl _ _ 23 rfl w.heap.size 25 i0 (Value.agg #[.string ⟨#[]⟩, .string ⟨#[]⟩, .string ⟨#[]⟩, .string ⟨#[]⟩, .int .i64 0, .slice none 0 0, .slice none 0 0]) 7 120 Tryz.underlying23 hi0 hz0 hz1 hz2 rfl (by decide) S m cl rows.flatten rfl hown1 _ S2 F.length c2 rows2.flatten rfl hsl hone h63 h47 hbel1.size ?_)
        intro S' c' w4 hown4 hb4 _
        have hbel4 := hbel1.trans hb4
        have hr1 := PartsAt.change (fun _ h => h) (fun a ha => hb4.cell (Nat.lt_of_lt_of_le ha hB)) _ _ hrows1
        have hr2 := PartsAt.change (fun _ h => h) (fun a ha => hb4.cell (Nat.lt_of_lt_of_le ha hB)) _ _ hrows2
        clear hrows1 hrows2
        go_wp2_with fail
        exact ⟨⟨i + 1, m + F.length, c', S', done ++ F, rows ++ rows2, rfl, by go_num, by omega, by rw [List.flatten_append]; exact hown4, PartsAt.app _ _ _ _ hr1 hr2, hE2, by omega, hbel4⟩, by simp [intOf]; omega⟩
      · have hE1 : Hid (done = L ∧ L.length = m) := by
          have h1 := hE.out.1
          rw [List.drop_of_length_le (by rw [hP.len]; omega), flatsD, List.append_nil] at h1
          exact ⟨h1, by rw [← h1]; exact hE.out.2⟩
        clear hE
        go_wp2_with fail
        go_ret
        obtain ⟨rfl, rfl⟩ := hE1.out
        exact ⟨S, cl, rows, rfl, hown, hrows, hbel⟩
theorem AllRes.slp {B : Nat} {ps : List PartD} {w w' : World} {S : Option Addr} {c : Nat} {rows : List (List Value)} (hown : w'.ownsRow w.heap.size 25 7 (.slice S ps.length c) ps.length rows.flatten) (hr : PartsAt (· < B) w' ps rows) (hB : B ≤ w'.heap.size) :
    SlP (· < w'.heap.size) w' S ps.length ps := ⟨rows, Sl.of_own hown, PartsAt.change (fun _ h => Nat.lt_of_lt_of_le h hB) (fun _ _ => rfl) _ _ hr⟩
def ChkRel (L : List PartD) (R : Nat) (_w0 w1 : World) (iv : Value) (wr : World) : Prop :=
  ∃ i : Nat, iv = .int .i64 (i : Nat) ∧ i ≤ L.length ∧ Hid (firstErr (L.drop i) = R) ∧ Below w1.heap.size w1 wr
set_option maxRecDepth 100000 in
set_option maxHeartbeats 2000000 in
theorem PCheck_any (p : PartD) (v : List Value) (w : World) (hp : PartAt (· < w.heap.size) w p v) :
    Calls Tryz.prog 60 #[.agg v.toArray] w fun e w' => e = .returned (.int .i64 (checkD p : Nat)) ∧ Below w.heap.size w w' := by
  have hfl := fun c => cntD_flat 3 p c
  have hcle := fun c => cntD_le 3 p c
  have hck1 := checkD_none p
  have hck2 := fun c => checkD_some p c
  obtain ⟨A, c, A2, c2, rfl, _⟩ := hp.open
  obtain ⟨W, hW⟩ : ∃ W, W = w.alloc (.cells #[str p.type, str p.cs, str p.id, str p.loc, .int .i64 p.how, .slice A p.body.length c, .slice A2 p.parts.length c2] 25) := ⟨_, rfl⟩
  have hbW : Below w.heap.size w W := by rw [hW]; exact (Below.refl _ w).alloc (Nat.le_refl _) _
  have hbx : Box7 W w.heap.size (str p.type) (str p.cs) (str p.id) (str p.loc) (.int .i64 p.how) (.slice A p.body.length c) (.slice A2 p.parts.length c2) := by rw [hW]; exact Box7.new w _ _ _ _ _ _ _ _
  have hpW := hp.below hbW
  have hct := count_any 3 p _ 1 W (by omega) (by omega) (hpW.more hbW.size)
  obtain ⟨n2, hn2⟩ : ∃ n2, n2 = p.parts.length := ⟨_, rfl⟩
  obtain ⟨n1, hn1⟩ : ∃ n1, n1 = p.body.length := ⟨_, rfl⟩
  have Hp := Lib.hid hp
  have HpW := Lib.hid hpW
  have HW := Lib.hid hW
  generalize checkD p = R at hck1 hck2 ⊢
  generalize cntD 3 p = o at hct hfl hcle hck1 hck2
  cases o with
  | none =>
    obtain rfl : R = 2 := hck1 rfl
    simp only [cntVal] at hct
    clear hck1 hck2 hfl hcle hp hpW hn1 hn2
    go_enter Tryz.func60, Tryz.ntmps60
    go_wp2_with fail
    rw [← hW]
    clear hW
    refine hct.mono ?_
    clear hct
    rintro e w1 ⟨rfl, hb1⟩
    go_wp2_with fail
    go_ret
    exact ⟨rfl, hbW.trans (hb1.mono hbW.size)⟩
  | some c0 =>
    have h1 := hck2 c0 rfl
    have h2 := hfl c0 rfl
    have h3 := hcle c0 rfl
    obtain ⟨h31, h32⟩ := h3
    simp only [cntVal] at hct
    obtain ⟨L, hL⟩ : ∃ L, L = flatD p := ⟨_, rfl⟩
    rw [← hL] at h1 h2
    have HR := Lib.hid h1
    have HL := Lib.hid hL
    have HLc := Lib.hid h2
    have hlen : L.length ≤ 12 := by omega
    have Hct := Lib.hid hct
    clear hck1 hck2 hfl hcle hp hpW hn1 hn2 h1 h2 hL hct
    go_enter Tryz.func60, Tryz.ntmps60
    go_wp2_with fail
    rw [← hW]
    clear hW
    refine Hct.out.mono ?_
    clear Hct
    rintro e w1 ⟨rfl, hb1⟩
    have hbx1 := hbx.below hb1
    have hbel1 := hbW.trans (hb1.mono hbW.size)
    have hp1 := Hp.out.below hbel1
    have hal := all_any 12 p _ w.heap.size w1 (by rw [← HL.out]; exact hlen) (by omega) hbel1.size hp1
    rw [← HL.out] at hal
    have Hal := Lib.hid hal
    have ⟨x0, x1, x2, x3, x4, x5, x6⟩ := hbx1
    clear hbx hbx1 hp1 hal hb1 hbW
    go_wp2_with fail
    refine Hal.out.mono ?_
    clear Hal x0 x1 x2 x3 x4 x5 x6
    rintro e w2 ⟨S, c3, rows, rfl, hown, hrows, hb2⟩
    have hbel2 := hbel1.trans (hb2.mono hbel1.size)
    have hP := AllRes.slp hown hrows hbel2.size
    clear hown hrows
    go_wp2_with fail
    go_loopw [18] (ChkRel L R w w2) (fun iv _ => L.length - (intOf iv).toNat)
    case atStart => exact ⟨0, rfl, Nat.zero_le _, HR.out.symm, Below.refl _ _⟩
    case round =>
      obtain ⟨i, rfl, hi, hE, hbel⟩ := hrel
      by_cases hin : i < L.length
      · have hPr := hP.below hbel
        obtain ⟨b, off, q, A', n', c', A2', n2', c2', rfl, hbS, hq, hqa, x0, x1, x2, x3, x4, x5, x6⟩ := hPr.cells7 hin
        have hck := fun W => check_at q _ hqa W
        have hE2 : Hid (R = if chkD q = 0 then firstErr (L.drop (i + 1)) else chkD q) := by show R = _; rw [← hE.out, hq, firstErr]
        generalize chkD q = e at hck hE2
        have Hck := Lib.hid hck
        have hbA := hbel.alloc hbel.size (.cells #[str q.type, str q.cs, str q.id, str q.loc, .int .i64 q.how, .slice A' n' c', .slice A2' n2' c2'] 25)
        clear hck hqa hq hPr hE
        go_wp2_with fail
        refine (Hck.out _).mono ?_
        rintro e1 w3 ⟨rfl, hb3⟩
        have hbel3 := hbA.trans (hb3.mono hbA.size)
        clear Hck x0 x1 x2 x3 x4 x5 x6 hbA hb3
        by_cases he : e = 0
        · subst he
          have hE3 : Hid (firstErr (L.drop (i + 1)) = R) := by have := hE2.out; rw [if_pos rfl] at this; exact this.symm
          clear hE2
          go_wp2_with fail
          exact ⟨⟨i + 1, by go_num, by omega, hE3, hbel3⟩, by simp [intOf]; omega⟩
        · obtain rfl : R = e := by have := hE2.out; rw [if_neg he] at this; exact this
          have he1 : ((R : Int) != 0) = true := by simp; omega
          clear hE2 he
          go_wp2_with fail
          go_ret
          exact ⟨rfl, hbel2.trans (hbel3.mono hbel2.size)⟩
      · obtain rfl : 0 = R := by rw [← hE.out, List.drop_of_length_le (by omega)]; rfl
        clear hE
        go_wp2_with fail
        go_ret
        exact ⟨rfl, hbel2.trans (hbel.mono hbel2.size)⟩
end Go.Proofs.YtlbdnohnngkapaaGreatDoor

namespace Go.Proofs.YtlbdnohnngkapaaGreatDoor
open Go.RowKit

/-- Seven cells of one block, none of them frozen. -/
def BoxF (w : World) (b : Nat) (v0 v1 v2 v3 v4 v5 v6 : Value) : Prop := Box7 w b v0 v1 v2 v3 v4 v5 v6 ∧ ∀ k, w.frozen? ⟨b, k, none⟩ = false
section
variable {w w' : World} {b : Nat} {v0 v1 v2 v3 v4 v5 v6 : Value}
/-- Seven cells of a row, behind place o. -/
def Row7 (w : World) (b o : Nat) (v0 v1 v2 v3 v4 v5 v6 : Value) : Prop :=
  w.cell? ⟨b, o, none⟩ = some v0 ∧ w.cell? ⟨b, o + 1, none⟩ = some v1 ∧ w.cell? ⟨b, o + 2, none⟩ = some v2 ∧ w.cell? ⟨b, o + 3, none⟩ = some v3 ∧ w.cell? ⟨b, o + 4, none⟩ = some v4 ∧ w.cell? ⟨b, o + 5, none⟩ = some v5 ∧ w.cell? ⟨b, o + 6, none⟩ = some v6
theorem Row7.below {o : Nat} (h : Row7 w b o v0 v1 v2 v3 v4 v5 v6) {C : Nat} (hb : Below C w w') (hC : b < C) : Row7 w' b o v0 v1 v2 v3 v4 v5 v6 := by
  obtain ⟨h0, h1, h2, h3, h4, h5, h6⟩ := h
  exact ⟨(hb.cell (p := ⟨b, _, none⟩) hC).trans h0, (hb.cell (p := ⟨b, _, none⟩) hC).trans h1, (hb.cell (p := ⟨b, _, none⟩) hC).trans h2, (hb.cell (p := ⟨b, _, none⟩) hC).trans h3, (hb.cell (p := ⟨b, _, none⟩) hC).trans h4, (hb.cell (p := ⟨b, _, none⟩) hC).trans h5, (hb.cell (p := ⟨b, _, none⟩) hC).trans h6⟩
theorem BoxF.below (h : BoxF w b v0 v1 v2 v3 v4 v5 v6) {C : Nat} (hb : Below C w w') (hC : b < C) : BoxF w' b v0 v1 v2 v3 v4 v5 v6 := by
  obtain ⟨⟨h0, h1, h2, h3, h4, h5, h6⟩, hf⟩ := h
  exact ⟨⟨(hb.cell (p := ⟨b, 0, none⟩) hC).trans h0, (hb.cell (p := ⟨b, 1, none⟩) hC).trans h1, (hb.cell (p := ⟨b, 2, none⟩) hC).trans h2, (hb.cell (p := ⟨b, 3, none⟩) hC).trans h3, (hb.cell (p := ⟨b, 4, none⟩) hC).trans h4, (hb.cell (p := ⟨b, 5, none⟩) hC).trans h5, (hb.cell (p := ⟨b, 6, none⟩) hC).trans h6⟩, fun k => (hb.frozen (p := ⟨b, k, none⟩) hC).trans (hf k)⟩
theorem BoxF.of_block {t : TypeId} (h : w.heap[b]? = some (.cells #[v0, v1, v2, v3, v4, v5, v6] t)) : BoxF w b v0 v1 v2 v3 v4 v5 v6 := by
  refine ⟨⟨?_, ?_, ?_, ?_, ?_, ?_, ?_⟩, fun k => Lib.frozen_of_heap h k⟩ <;> (unfold World.cell?; rw [h]; rfl)
theorem BoxF.set56 (h : BoxF w b v0 v1 v2 v3 v4 v5 v6) (u5 u6 : Value) : BoxF ((w.setCell ⟨b, 5, none⟩ u5).setCell ⟨b, 6, none⟩ u6) b v0 v1 v2 v3 v4 u5 u6 := by
  obtain ⟨⟨h0, h1, h2, h3, h4, h5, h6⟩, hf⟩ := h
  have far : ∀ k v, k ≠ 5 → k ≠ 6 → w.cell? ⟨b, k, none⟩ = some v → ((w.setCell ⟨b, 5, none⟩ u5).setCell ⟨b, 6, none⟩ u6).cell? ⟨b, k, none⟩ = some v := fun k v h5 h6 h => by
    rw [World.cell?_setCell_other _ _ _ _ (by simp <;> omega), World.cell?_setCell_other _ _ _ _ (by simp <;> omega)]; exact h
  refine ⟨⟨far 0 _ (by omega) (by omega) h0, far 1 _ (by omega) (by omega) h1, far 2 _ (by omega) (by omega) h2, far 3 _ (by omega) (by omega) h3, far 4 _ (by omega) (by omega) h4, ?_, ?_⟩, fun k => by simpa using hf k⟩
  · rw [World.cell?_setCell_other _ _ _ _ (by simp)]; exact World.cell?_setCell_same _ _ _ h5
  · refine World.cell?_setCell_same _ _ _ (u := v6) ?_
    rw [World.cell?_setCell_other _ _ _ _ (by simp)]; exact h6
theorem BoxF.set7 (h : BoxF w b v0 v1 v2 v3 v4 v5 v6) (u0 u1 u2 u3 u4 u5 u6 : Value) :
    Box7 (((((((w.setCell ⟨b, 0, none⟩ u0).setCell ⟨b, 1, none⟩ u1).setCell ⟨b, 2, none⟩ u2).setCell ⟨b, 3, none⟩ u3).setCell ⟨b, 4, none⟩ u4).setCell ⟨b, 5, none⟩ u5).setCell ⟨b, 6, none⟩ u6) b u0 u1 u2 u3 u4 u5 u6 := by
  obtain ⟨⟨h0, h1, h2, h3, h4, h5, h6⟩, hf⟩ := h
  have o : ∀ (w : World) (i k : Nat) (u : Value), i ≠ k → (w.setCell ⟨b, i, none⟩ u).cell? ⟨b, k, none⟩ = w.cell? ⟨b, k, none⟩ := fun w i k u hik => World.cell?_setCell_other _ _ _ _ (by intro e; injection e with _ e; exact hik e)
  have s : ∀ (w : World) (k : Nat) (u v : Value), w.cell? ⟨b, k, none⟩ = some v → (w.setCell ⟨b, k, none⟩ u).cell? ⟨b, k, none⟩ = some u := fun w k u v h => World.cell?_setCell_same _ _ _ h
  refine ⟨?_, ?_, ?_, ?_, ?_, ?_, ?_⟩
  · rw [o _ 6 0 _ (by decide), o _ 5 0 _ (by decide), o _ 4 0 _ (by decide), o _ 3 0 _ (by decide), o _ 2 0 _ (by decide), o _ 1 0 _ (by decide)]
    refine s _ 0 _ v0 ?_
    exact h0
  · rw [o _ 6 1 _ (by decide), o _ 5 1 _ (by decide), o _ 4 1 _ (by decide), o _ 3 1 _ (by decide), o _ 2 1 _ (by decide)]
    refine s _ 1 _ v1 ?_
    rw [o _ 0 1 _ (by decide)]
    exact h1
  · rw [o _ 6 2 _ (by decide), o _ 5 2 _ (by decide), o _ 4 2 _ (by decide), o _ 3 2 _ (by decide)]
    refine s _ 2 _ v2 ?_
    rw [o _ 1 2 _ (by decide), o _ 0 2 _ (by decide)]
    exact h2
  · rw [o _ 6 3 _ (by decide), o _ 5 3 _ (by decide), o _ 4 3 _ (by decide)]
    refine s _ 3 _ v3 ?_
    rw [o _ 2 3 _ (by decide), o _ 1 3 _ (by decide), o _ 0 3 _ (by decide)]
    exact h3
  · rw [o _ 6 4 _ (by decide), o _ 5 4 _ (by decide)]
    refine s _ 4 _ v4 ?_
    rw [o _ 3 4 _ (by decide), o _ 2 4 _ (by decide), o _ 1 4 _ (by decide), o _ 0 4 _ (by decide)]
    exact h4
  · rw [o _ 6 5 _ (by decide)]
    refine s _ 5 _ v5 ?_
    rw [o _ 4 5 _ (by decide), o _ 3 5 _ (by decide), o _ 2 5 _ (by decide), o _ 1 5 _ (by decide), o _ 0 5 _ (by decide)]
    exact h5
  · refine s _ 6 _ v6 ?_
    rw [o _ 5 6 _ (by decide), o _ 4 6 _ (by decide), o _ 3 6 _ (by decide), o _ 2 6 _ (by decide), o _ 1 6 _ (by decide), o _ 0 6 _ (by decide)]
    exact h6
/-- A store into another block. -/
theorem BoxF.setFar (h : BoxF w b v0 v1 v2 v3 v4 v5 v6) {p : Addr} (hp : p.block ≠ b) (u : Value) : BoxF (w.setCell p u) b v0 v1 v2 v3 v4 v5 v6 := by
  obtain ⟨⟨h0, h1, h2, h3, h4, h5, h6⟩, hf⟩ := h
  have far : ∀ k v, w.cell? ⟨b, k, none⟩ = some v → (w.setCell p u).cell? ⟨b, k, none⟩ = some v := fun k v h => by
    rw [World.cell?_setCell_other _ _ _ _ (by rintro rfl; exact hp rfl)]; exact h
  exact ⟨⟨far 0 _ h0, far 1 _ h1, far 2 _ h2, far 3 _ h3, far 4 _ h4, far 5 _ h5, far 6 _ h6⟩, fun k => by simpa using hf k⟩
theorem own_setFar {base : Nat} {e : TypeId} {size : Nat} {v : Value} {n : Nat} {xs : List Value} (h : w.ownsRow base e size v n xs) {p : Addr} (hp : v.ownBlock ≠ some p.block) (u : Value) : (w.setCell p u).ownsRow base e size v n xs := by
  rcases h with ⟨hl, h | ⟨g, cap, cur, hv, hb, hg, h1, h2, h3, h4⟩⟩
  · exact ⟨hl, .inl h⟩
  · refine ⟨hl, .inr ⟨g, cap, cur, hv, hb, ?_, h1, h2, h3, h4⟩⟩
    rw [← hg]
    refine heap_setCell_other w p g u fun e => hp ?_
    rw [hv, e]; rfl
theorem own_base {base base' : Nat} {e : TypeId} {size : Nat} {v : Value} {n : Nat} {xs : List Value} (h : w.ownsRow base e size v n xs) (hb : base' ≤ base) : w.ownsRow base' e size v n xs := by
  rcases h with ⟨hl, h | ⟨g, cap, cur, hv, hb', hg, h1⟩⟩
  · exact ⟨hl, .inl h⟩
  · exact ⟨hl, .inr ⟨g, cap, cur, hv, Nat.le_trans hb hb', hg, h1⟩⟩
theorem own_sls {base : Nat} {e : TypeId} {size : Nat} {S : Option Addr} {n c : Nat} {xs : List Value} (h : w.ownsRow base e size (.slice S n c) n xs) : SlS (fun b => base ≤ b ∧ b < w.heap.size) w size S n xs := by
  refine ⟨h.1, fun hn => ?_⟩
  obtain ⟨g, cap, hv, hb, hl⟩ := h.form hn
  injection hv with hS
  subst hS
  obtain ⟨b, off, hA, _, hc⟩ := (Sl.of_own h).2 hn
  injection hA with hA
  injection hA with h1 h2
  subst h1
  subst h2
  exact ⟨g, 0, rfl, ⟨hb, hl⟩, hc⟩
theorem own_capmax {base : Nat} {e : TypeId} {size : Nat} {S : Option Addr} {n c : Nat} {xs : List Value} (h : w.ownsRow base e size (.slice S n c) n xs) : c ≤ maxLen := by
  rcases h.2 with ⟨hv, h0⟩ | ⟨g', cap', cur', hv', _, _, _, hcm, _⟩
  · injection hv with _ _ hc; rw [hc]; exact Nat.zero_le _
  · injection hv' with _ _ hcc; rw [hcc]; exact hcm
theorem flat7_set (done : List (List Value)) (hd : ∀ r ∈ done, r.length = 7) (r0 r1 r2 r3 r4 r5 r6 u0 u1 u2 u3 u4 u5 u6 : Value) (rest : List (List Value)) :
    ((((((((done ++ [r0, r1, r2, r3, r4, r5, r6] :: rest).flatten.set (done.length * 7) u0).set (done.length * 7 + 1) u1).set (done.length * 7 + 2) u2).set (done.length * 7 + 3) u3).set (done.length * 7 + 4) u4).set (done.length * 7 + 5) u5).set (done.length * 7 + 6) u6) =
      (done ++ [u0, u1, u2, u3, u4, u5, u6] :: rest).flatten := by
  have hl := flat7_len done hd
  rw [← hl]
  simp only [List.flatten_append, List.flatten_cons]
  generalize done.flatten = D
  generalize rest.flatten = E
  have key : ∀ k u (L : List Value), (D ++ L).set (D.length + k) u = D ++ L.set k u := by
    intro k u L
    rw [List.set_append_right _ _ (by omega), Nat.add_sub_cancel_left]
  have key0 : ∀ u (L : List Value), (D ++ L).set D.length u = D ++ L.set 0 u := by
    intro u L
    exact key 0 u L
  rw [key0, key, key, key, key, key, key]
  rfl
theorem own_set7 {base : Nat} {e : TypeId} {g n c : Nat} {i : Nat} {done rest : List (List Value)} {r0 r1 r2 r3 r4 r5 r6 : Value} (h : w.ownsRow base e 7 (.slice (some ⟨g, 0, none⟩) n c) n (done ++ [r0, r1, r2, r3, r4, r5, r6] :: rest).flatten)
    (hd : ∀ r ∈ done, r.length = 7) (hi : done.length = i) (u0 u1 u2 u3 u4 u5 u6 : Value) :
    (((((((w.setCell ⟨g, i * 7, none⟩ u0).setCell ⟨g, i * 7 + 1, none⟩ u1).setCell ⟨g, i * 7 + 2, none⟩ u2).setCell ⟨g, i * 7 + 3, none⟩ u3).setCell ⟨g, i * 7 + 4, none⟩ u4).setCell ⟨g, i * 7 + 5, none⟩ u5).setCell ⟨g, i * 7 + 6, none⟩ u6).ownsRow base e 7 (.slice (some ⟨g, 0, none⟩) n c) n (done ++ [u0, u1, u2, u3, u4, u5, u6] :: rest).flatten := by
  subst hi
  rw [← flat7_set done hd r0 r1 r2 r3 r4 r5 r6]
  exact ((((((((h.stored _ u0).1.stored _ u1).1.stored _ u2).1.stored _ u3).1.stored _ u4).1.stored _ u5).1.stored _ u6).1)
theorem set7_far {g : Nat} {i : Nat} (u0 u1 u2 u3 u4 u5 u6 : Value) {a : Addr} (ha : a.block ≠ g) :
    (((((((w.setCell ⟨g, i * 7, none⟩ u0).setCell ⟨g, i * 7 + 1, none⟩ u1).setCell ⟨g, i * 7 + 2, none⟩ u2).setCell ⟨g, i * 7 + 3, none⟩ u3).setCell ⟨g, i * 7 + 4, none⟩ u4).setCell ⟨g, i * 7 + 5, none⟩ u5).setCell ⟨g, i * 7 + 6, none⟩ u6).cell? a = w.cell? a := by
  have h : ∀ (w : World) k u, (w.setCell ⟨g, k, none⟩ u).cell? a = w.cell? a := fun w k u => World.cell?_setCell_other _ _ _ _ (by rintro rfl; exact ha rfl)
  rw [h, h, h, h, h, h, h]
theorem set7_below {C : Nat} {w0 : World} {g : Nat} {i : Nat} (hb : Below C w0 w) (hg : C ≤ g) (u0 u1 u2 u3 u4 u5 u6 : Value) :
    Below C w0 (((((((w.setCell ⟨g, i * 7, none⟩ u0).setCell ⟨g, i * 7 + 1, none⟩ u1).setCell ⟨g, i * 7 + 2, none⟩ u2).setCell ⟨g, i * 7 + 3, none⟩ u3).setCell ⟨g, i * 7 + 4, none⟩ u4).setCell ⟨g, i * 7 + 5, none⟩ u5).setCell ⟨g, i * 7 + 6, none⟩ u6) :=
  ((((((hb.setCell hg _).setCell hg _).setCell hg _).setCell hg _).setCell hg _).setCell hg _).setCell hg _
end
end Go.Proofs.YtlbdnohnngkapaaGreatDoor

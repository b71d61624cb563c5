import Derived.Test.YtlbdnohnngkapaaGreatDoorU13
import Derived.Test.YtlbdnohnngkapaaGreatDoorU8
import Derived.Test.YtlbdnohnngkapaaGreatDoorU12
import Derived.Test.YtlbdnohnngkapaaGreatDoorU1
import Derived.Deep.Onto
import Derived.Laws.StructEq
namespace Go.Proofs.YtlbdnohnngkapaaGreatDoor
open Go.RowKit

/-! ### One more part -/
def cssD : PartD := ⟨[116, 101, 120, 116, 47, 99, 115, 115], [], [], [], 0, [], []⟩
def setH (h : Int) (k : PartD) : PartD := if manyB k.type then k else { k with how := h }
def moreD (h : Int) (p : PartD) : PartD := { p with parts := (p.parts ++ [cssD]).map (setH h) }
def simP (x y : PartD) : Prop := x.type = y.type ∧ x.id = y.id ∧ x.loc = y.loc ∧ x.body = y.body
inductive SimL : List PartD → List PartD → Prop
  | nil : SimL [] []
  | cons {x y : PartD} {xs ys : List PartD} : simP x y → SimL xs ys → SimL (x :: xs) (y :: ys)
theorem SimL.refl : ∀ l, SimL l l
  | [] => .nil
  | _ :: l => .cons ⟨rfl, rfl, rfl, rfl⟩ (SimL.refl l)
theorem SimL.app {a b c d : List PartD} (h : SimL a b) (h' : SimL c d) : SimL (a ++ c) (b ++ d) := by
  induction h with
  | nil => exact h'
  | cons h1 _ ih => exact .cons h1 ih
theorem SimL.len {a b : List PartD} (h : SimL a b) : a.length = b.length := by
  induction h with
  | nil => rfl
  | cons _ _ ih => simp [ih]
theorem setH_sim (h : Int) (k : PartD) : simP k (setH h k) := by unfold setH; split <;> exact ⟨rfl, rfl, rfl, rfl⟩
theorem setH_parts (h : Int) (k : PartD) : (setH h k).parts = k.parts := by unfold setH; split <;> rfl
theorem whereF_sim {F F2 : List PartD} (h : SimL F F2) : ∀ (T : List Int) (out : List (List UInt8)), whereF F2 T out = whereF F T out := by
  induction h with
  | nil => intro T out; rfl
  | cons h1 _ ih =>
    intro T out
    cases T with
    | nil => rw [whereF, whereF]
    | cons k ks => rw [whereF, whereF, ih, h1.2.2.1]
theorem whereF_app (x : PartD) (k : Int) : ∀ (F : List PartD) (T : List Int) (out : List (List UInt8)), F.length = T.length → whereF (F ++ [x]) (T ++ [k]) out = whereF F T out ++ [stepW (whereF F T out) x.loc k]
  | [], [], out, _ => by simp [whereF]
  | [], _ :: _, out, h => by simp at h
  | _ :: _, [], out, h => by simp at h
  | y :: F, j :: T, out, h => by
    rw [List.cons_append, List.cons_append, whereF, whereF, whereF_app x k F T _ (by simpa using h)]
theorem findF_sim {F F2 : List PartD} (h : SimL F F2) : ∀ (L : List (List UInt8)) (t : List UInt8) (i : Nat), findF F2 L t i = findF F L t i := by
  induction h with
  | nil => intro L t i; rfl
  | cons h1 _ ih =>
    intro L t i
    cases L with
    | nil => rw [findF, findF]
    | cons s ss =>
      rw [findF, findF, ih]
      unfold isB
      rw [h1.1, h1.2.1, h1.2.2.1]
theorem findF_app (x : PartD) (s : List UInt8) (t : List UInt8) (hb : isB t x s = false) : ∀ (F : List PartD) (L : List (List UInt8)) (i : Nat), F.length = L.length → findF (F ++ [x]) (L ++ [s]) t i = findF F L t i
  | [], [], i, _ => by
    rw [List.nil_append, List.nil_append, findF, hb]
    rfl
  | [], _ :: _, i, h => by simp at h
  | _ :: _, [], i, h => by simp at h
  | y :: F, z :: L, i, h => by
    rw [List.cons_append, List.cons_append, findF, findF, findF_app x s t hb F L (i + 1) (by simpa using h)]
theorem goalsF_sim {F0 F0' : List PartD} {W0 W0' : List (List UInt8)} (hg : ∀ i f k, goalOf F0' W0' i f k = goalOf F0 W0 i f k) {F F2 : List PartD} (h : SimL F F2) : ∀ (W : List (List UInt8)) (i : Nat) (out : List GoalD), goalsF F0' W0' F2 W i out = goalsF F0 W0 F W i out := by
  induction h with
  | nil => intro W i out; rw [goalsF, goalsF]
  | cons h1 _ ih =>
    intro W i out
    cases W with
    | nil => rw [goalsF, goalsF]
    | cons s ss =>
      rw [goalsF, goalsF, ih, ih, ← h1.1, ← h1.2.2.2]
      have : goalOf F0' W0' i (fromG s) = goalOf F0 W0 i (fromG s) := funext fun k => hg i _ k
      rw [this]
theorem goalsF_app {F0 : List PartD} {W0 : List (List UInt8)} (x : PartD) (s : List UInt8) (hx : x.type ≠ htmlB) : ∀ (F : List PartD) (W : List (List UInt8)) (i : Nat) (out : List GoalD), F.length = W.length → goalsF F0 W0 (F ++ [x]) (W ++ [s]) i out = goalsF F0 W0 F W i out
  | [], [], i, out, _ => by
    rw [List.nil_append, List.nil_append, goalsF, if_neg hx, goalsF, goalsF]
  | [], _ :: _, i, out, h => by simp at h
  | _ :: _, [], i, out, h => by simp at h
  | y :: F, z :: W, i, out, h => by
    rw [List.cons_append, List.cons_append, goalsF, goalsF, goalsF_app x s hx F W _ _ (by simpa using h), goalsF_app x s hx F W _ _ (by simpa using h)]
theorem flatsD_app : ∀ (a b : List PartD), flatsD (a ++ b) = flatsD a ++ flatsD b
  | [], b => by rw [List.nil_append, show flatsD [] = [] from by rw [flatsD], List.nil_append]
  | p :: a, b => by rw [List.cons_append, flatsD, flatsD, flatsD_app a b, List.append_assoc]
theorem flats_sim (h : Int) : ∀ (ps : List PartD), SimL (flatsD ps) (flatsD (ps.map (setH h)))
  | [] => by rw [List.map_nil]; exact SimL.refl _
  | p :: ps => by
    rw [List.map_cons, flatsD, flatsD, flatD_eq p, flatD_eq (setH h p), setH_parts]
    exact SimL.app (.cons (setH_sim h p) (SimL.refl _)) (flats_sim h ps)
theorem wthsD_map (h : Int) : ∀ (ps : List PartD) (n me : Nat), wthsD (ps.map (setH h)) n me = wthsD ps n me
  | [], n, me => by rw [List.map_nil]
  | p :: ps, n, me => by
    rw [List.map_cons, wthsD, wthsD, wthD_eq (setH h p), setH_parts, wthsD_map h ps, wthD_eq p, flatD_eq (setH h p), flatD_eq p, setH_parts, List.length_cons, List.length_cons]
theorem wthsD_app : ∀ (a b : List PartD) (n me : Nat), wthsD (a ++ b) n me = wthsD a n me ++ wthsD b (n + (flatsD a).length) me
  | [], b, n, me => by rw [List.nil_append, show wthsD [] n me = [] from by rw [wthsD], show flatsD [] = [] from by rw [flatsD]]; simp
  | p :: a, b, n, me => by
    rw [List.cons_append, wthsD, wthsD, wthsD_app a b, flatsD, List.append_assoc, List.length_append]
    congr 3
    omega
theorem css_flat (h : Int) : flatD (setH h cssD) = [setH h cssD] := by
  rw [flatD_eq, setH_parts]
  rfl
theorem css_type (h : Int) : (setH h cssD).type = cssD.type ∧ (setH h cssD).id = [] ∧ (setH h cssD).loc = [] := by
  have := setH_sim h cssD
  exact ⟨this.1.symm, this.2.1.symm, this.2.2.1.symm⟩
theorem more_flat (h : Int) (p : PartD) : ∃ F2, flatD (moreD h p) = F2 ++ [setH h cssD] ∧ SimL (flatD p) F2 := by
  refine ⟨moreD h p :: flatsD (p.parts.map (setH h)), ?_, ?_⟩
  · rw [flatD_eq]
    show moreD h p :: flatsD ((p.parts ++ [cssD]).map (setH h)) = _
    rw [List.map_append, flatsD_app, List.map_cons, List.map_nil, flatsD, css_flat, show flatsD [] = [] from by rw [flatsD]]
    simp
  · rw [flatD_eq p]
    exact .cons ⟨rfl, rfl, rfl, rfl⟩ (flats_sim h p.parts)
theorem more_wth (h : Int) (p : PartD) : wthD (moreD h p) 0 (-1) = wthD p 0 (-1) ++ [0] := by
  rw [wthD_eq, wthD_eq p]
  show _ :: wthsD ((p.parts ++ [cssD]).map (setH h)) (0 + 1) 0 = _
  rw [wthsD_map, wthsD_app]
  have : wthsD [cssD] (0 + 1 + (flatsD p.parts).length) 0 = [0] := by
    rw [wthsD, wthD_eq, show cssD.parts = [] from rfl, wthsD, wthsD]
    rfl
  rw [this]
  rfl
/-- What goals say of it: the same. -/
theorem more_goals (h : Int) (p : PartD) : goalsD (moreD h p) = goalsD p := by
  obtain ⟨F2, h1, h2⟩ := more_flat h p
  have hw : whereD (moreD h p) = whereD p ++ [stepW (whereD p) [] 0] := by
    unfold whereD
    rw [h1, more_wth, whereF_app _ _ _ _ _ (by rw [← h2.len, wthD_len]), whereF_sim h2, (css_type h).2.2]
  have hl : F2.length = (whereD p).length := by rw [← h2.len, whereD_len]
  have hg : ∀ i f k, goalOf (flatD (moreD h p)) (whereD (moreD h p)) i f k = goalOf (flatD p) (whereD p) i f k := by
    intro i f k
    have hf : ∀ t, findG (flatD (moreD h p)) (whereD (moreD h p)) t = findG (flatD p) (whereD p) t := by
      intro t
      unfold findG
      rw [h1, hw, findF_app _ _ _ ?_ _ _ _ hl, findF_sim h2]
      unfold isB
      rw [(css_type h).2.1, (css_type h).2.2]
      split <;> simp
    unfold goalOf
    rw [hf]
  unfold goalsD
  rw [h1, hw] at hg ⊢
  rw [goalsF_app _ _ (by rw [(css_type h).1]; decide) _ _ _ _ hl]
  exact goalsF_sim hg h2 _ _ _
theorem chk_how (q : PartD) (h : Int) (h0 : 0 ≤ h) (h2 : h ≤ 2) (hc : chkD q = 0) : chkD (setH h q) = 0 := by
  unfold setH
  cases hm : manyB q.type with
  | true => exact hc
  | false =>
    simp only [Bool.false_eq_true, if_false]
    unfold chkD chkB at hc ⊢
    simp only [hm, Bool.false_and, Bool.or_false] at hc ⊢
    split at hc
    · cases hc
    · rename_i h1
      rw [if_neg h1, if_neg (by simp; omega)]
      split at hc
      · cases hc
      · exact hc
theorem firstErr_none : ∀ (L : List PartD), (∀ q ∈ L, chkD q = 0) → firstErr L = 0
  | [], _ => rfl
  | q :: r, h => by rw [firstErr, if_pos (h q (by simp)), firstErr_none r (fun x hx => h x (by simp [hx]))]
theorem flats_how (h : Int) : ∀ (ps : List PartD), ∀ q ∈ flatsD (ps.map (setH h)), q ∈ flatsD ps ∨ ∃ k ∈ ps, q = setH h k
  | [], q, hq => by rw [List.map_nil] at hq; exact .inl hq
  | p :: ps, q, hq => by
    rw [List.map_cons, flatsD, flatD_eq, setH_parts, List.mem_append, List.mem_cons] at hq
    rw [flatsD, flatD_eq p]
    rcases hq with (rfl | hq) | hq
    · exact .inr ⟨p, by simp, rfl⟩
    · exact .inl (by simp [hq])
    · rcases flats_how h ps q hq with hq | ⟨k, hk, rfl⟩
      · exact .inl (by simp [hq])
      · exact .inr ⟨k, by simp [hk], rfl⟩
theorem mem_flats : ∀ (ps : List PartD), ∀ k ∈ ps, k ∈ flatsD ps
  | p :: ps, k, hk => by
    rw [flatsD, flatD_eq]
    rcases List.mem_cons.1 hk with rfl | hk
    · simp
    · simp [mem_flats ps k hk]
theorem more_check (h : Int) (h0 : 0 ≤ h) (h2 : h ≤ 2) (p : PartD) (hm : manyB p.type = true) (hc : checkD p = 0) : checkD (moreD h p) = 0 ∨ checkD (moreD h p) = 2 := by
  cases hct : cntD 3 (moreD h p) with
  | none => exact .inr (checkD_none _ hct)
  | some c =>
    refine .inl ?_
    rw [checkD_some _ c hct]
    obtain ⟨_, hch⟩ := checkD_ok p hc
    refine firstErr_none _ fun q hq => ?_
    rw [flatD_eq, List.mem_cons] at hq
    rcases hq with rfl | hq
    · have hp := hch p (by rw [flatD_eq]; simp)
      have hpl := chk_many p hp
      rw [hm] at hpl
      have hpl : 0 < p.parts.length := by simpa using hpl.symm
      unfold chkD at hp ⊢
      have e : (moreD h p).parts.length = p.parts.length + 1 := by simp [moreD]
      rw [e]
      show chkB (typB p.type) (p.cs == []) (tokB p.cs) (wordB p.id) (wordB p.loc) p.how p.body.length (manyB p.type) (p.parts.length + 1) = 0
      rw [show chkB (typB p.type) (p.cs == []) (tokB p.cs) (wordB p.id) (wordB p.loc) p.how p.body.length (manyB p.type) (p.parts.length + 1) = chkB (typB p.type) (p.cs == []) (tokB p.cs) (wordB p.id) (wordB p.loc) p.how p.body.length (manyB p.type) p.parts.length from by
        unfold chkB
        rw [show decide (0 < p.parts.length + 1) = decide (0 < p.parts.length) by simp [hpl]]]
      exact hp
    · have hq : q ∈ flatsD ((p.parts ++ [cssD]).map (setH h)) := hq
      rcases flats_how h _ q hq with hq | ⟨k, hk, rfl⟩
      · rw [flatsD_app, List.mem_append] at hq
        rcases hq with hq | hq
        · exact hch q (by rw [flatD_eq]; simp [hq])
        · rw [flatsD, flatD_eq, show cssD.parts = [] from rfl, show flatsD [] = [] from by rw [flatsD]] at hq
          simp at hq
          subst hq
          decide +kernel
      · rcases List.mem_append.1 hk with hk | hk
        · exact chk_how k h h0 h2 (hch k (by rw [flatD_eq]; simp [mem_flats _ k hk]))
        · rw [List.mem_singleton.1 hk]
          exact chk_how cssD h h0 h2 (by decide +kernel)
theorem more_law (h : Int) (h0 : 0 ≤ h) (h2 : h ≤ 2) (p : PartD) (hm : manyB p.type = true) (hc : checkD p = 0) (gs : List GoalD) (hg : goalsD p = some gs) : goalsE (moreD h p) = (gs, 0) ∨ (goalsE (moreD h p)).2 = 2 := by
  unfold goalsE
  rcases more_check h h0 h2 p hm hc with h1 | h1
  · rw [if_pos h1, more_goals, hg]; exact .inl rfl
  · rw [h1]; exact .inr rfl
end Go.Proofs.YtlbdnohnngkapaaGreatDoor

namespace Go.Proofs.YtlbdnohnngkapaaGreatDoor
open Go.RowKit

def OwnRes (p : PartD) (w : World) (e : Ending) (w' : World) : Prop :=
  ∃ A c S2 d2 rows, e = .returned (.agg #[str p.type, str p.cs, str p.id, str p.loc, .int .i64 p.how, .slice A p.body.length c, .slice S2 p.parts.length d2]) ∧
    w'.ownsRow w.heap.size 25 7 (.slice S2 p.parts.length d2) p.parts.length rows.flatten ∧
    PartsAt (NewS w.heap.size (Value.ownBlock (.slice S2 p.parts.length d2)) w') w' p.parts rows ∧
    SlS (NewS w.heap.size (Value.ownBlock (.slice S2 p.parts.length d2)) w') w' 1 A p.body.length (Lib.byteCells p.body) ∧ p.body.length ≤ c ∧ c ≤ maxLen ∧ p.parts.length ≤ d2 ∧ d2 ≤ maxLen ∧
    (p.type.length ≤ maxLen ∧ p.cs.length ≤ maxLen ∧ p.id.length ≤ maxLen ∧ p.loc.length ≤ maxLen ∧ -9223372036854775808 ≤ p.how ∧ p.how ≤ 9223372036854775807) ∧ Below w.heap.size w w'
theorem BoxF.s5 {w : World} {b : Nat} {v0 v1 v2 v3 v4 v5 v6 : Value} (h : BoxF w b v0 v1 v2 v3 v4 v5 v6) (u : Value) : BoxF (w.setCell ⟨b, 5, none⟩ u) b v0 v1 v2 v3 v4 u v6 := by
  obtain ⟨⟨h0, h1, h2, h3, h4, h5, h6⟩, hf⟩ := h
  have far : ∀ k v, k ≠ 5 → w.cell? ⟨b, k, none⟩ = some v → (w.setCell ⟨b, 5, none⟩ u).cell? ⟨b, k, none⟩ = some v := fun k v h5 h => by
    rw [World.cell?_setCell_other _ _ _ _ (by simp <;> omega)]; exact h
  exact ⟨⟨far 0 _ (by omega) h0, far 1 _ (by omega) h1, far 2 _ (by omega) h2, far 3 _ (by omega) h3, far 4 _ (by omega) h4, World.cell?_setCell_same _ _ _ h5, far 6 _ (by omega) h6⟩, fun k => by simpa using hf k⟩
theorem BoxF.s6 {w : World} {b : Nat} {v0 v1 v2 v3 v4 v5 v6 : Value} (h : BoxF w b v0 v1 v2 v3 v4 v5 v6) (u : Value) : BoxF (w.setCell ⟨b, 6, none⟩ u) b v0 v1 v2 v3 v4 v5 u := by
  obtain ⟨⟨h0, h1, h2, h3, h4, h5, h6⟩, hf⟩ := h
  have far : ∀ k v, k ≠ 6 → w.cell? ⟨b, k, none⟩ = some v → (w.setCell ⟨b, 6, none⟩ u).cell? ⟨b, k, none⟩ = some v := fun k v h5 h => by
    rw [World.cell?_setCell_other _ _ _ _ (by simp <;> omega)]; exact h
  exact ⟨⟨far 0 _ (by omega) h0, far 1 _ (by omega) h1, far 2 _ (by omega) h2, far 3 _ (by omega) h3, far 4 _ (by omega) h4, far 5 _ (by omega) h5, World.cell?_setCell_same _ _ _ h6⟩, fun k => by simpa using hf k⟩
/-- A part in memory of its own, out of its pieces. -/
theorem own_part {p : PartD} {B B' : Nat} {w : World} {A S2 : Option Addr} {c d2 : Nat} {rows : List (List Value)} (hB : B' ≤ B)
    (hown : w.ownsRow B 25 7 (.slice S2 p.parts.length d2) p.parts.length rows.flatten)
    (hps : PartsAt (NewS B (Value.ownBlock (.slice S2 p.parts.length d2)) w) w p.parts rows) (hs : SlS (NewS B (Value.ownBlock (.slice S2 p.parts.length d2)) w) w 1 A p.body.length (Lib.byteCells p.body))
    (h1 : p.body.length ≤ c) (h2 : c ≤ maxLen) (h3 : p.parts.length ≤ d2) (h4 : d2 ≤ maxLen) (hb : p.type.length ≤ maxLen ∧ p.cs.length ≤ maxLen ∧ p.id.length ≤ maxLen ∧ p.loc.length ≤ maxLen ∧ -9223372036854775808 ≤ p.how ∧ p.how ≤ 9223372036854775807) :
    PartAt (fun b => B' ≤ b ∧ b < w.heap.size) w p [str p.type, str p.cs, str p.id, str p.loc, .int .i64 p.how, .slice A p.body.length c, .slice S2 p.parts.length d2] := by
  have inN : ∀ b, NewS B (Value.ownBlock (.slice S2 p.parts.length d2)) w b → B' ≤ b ∧ b < w.heap.size := fun b hb => ⟨Nat.le_trans hB hb.1, hb.2.1⟩
  have hpp := PartsAt.change (w' := w) inN (fun _ _ => rfl) _ _ hps
  have hss := SlS.change (w' := w) hs inN (fun _ _ => rfl)
  have hrw := SlS.change (w' := w) (S' := fun b => B' ≤ b ∧ b < w.heap.size) (own_sls hown) (fun b hb => ⟨Nat.le_trans hB hb.1, hb.2⟩) (fun _ _ => rfl)
  obtain ⟨t, cs, id, loc, how, body, parts⟩ := p
  exact ⟨A, _, c, S2, _, d2, rows, rfl, hb, hss, h1, h2, hrw, h3, h4, hpp⟩
def OwnRel (p : PartD) (n2 h : Nat) (S1 : Option Addr) (d1 : Nat) (A2 : Option Addr) (c2 : Nat) (w0 : World) (lv iv : Value) (wr : World) : Prop :=
  ∃ i d S rows, lv = .slice S i d ∧ iv = .int .i64 (i : Nat) ∧ i ≤ n2 ∧ wr.ownsRow (h + 2) 25 7 (.slice S i d) i (List.flatten rows) ∧
    PartsAt (NewS (h + 2) (Value.ownBlock (.slice S i d)) wr) wr (p.parts.take i) rows ∧ SlS (NewS (h + 2) (Value.ownBlock (.slice S i d)) wr) wr 1 S1 p.body.length (Lib.byteCells p.body) ∧
    BoxF wr h (str p.type) (str p.cs) (str p.id) (str p.loc) (.int .i64 p.how) (.slice S1 p.body.length d1) (.slice A2 n2 c2) ∧
    (∃ v0 v1 v2 v3 v4 v5 v6, BoxF wr (h + 1) v0 v1 v2 v3 v4 v5 v6) ∧ Below h w0 wr ∧ h + 2 ≤ wr.heap.size
set_option maxRecDepth 100000 in
set_option maxHeartbeats 4000000 in
theorem OwnPart_any (k : Nat) : ∀ (p : PartD) (v : List Value) (w : World), (flatD p).length ≤ k → k ≤ 1000 → (∀ q ∈ flatD p, q.body.length ≤ 4000) → PartAt (· < w.heap.size) w p v →
    Calls Tryz.prog 35 #[.agg v.toArray] w (OwnRes p w) := by
  obtain ⟨i0, hi0, hz0, hz1, hz2⟩ := info_parts catInfoPart
  obtain ⟨j0, hj0, hy0, hy1, hy2⟩ := info_parts cloInfobyte
  induction k with
  | zero => intro p v w h; rw [flatD_eq] at h; simp at h
  | succ k ih =>
    intro p v w hk hk1 hbod hp
    obtain ⟨A, c, A2, c2, rfl, hbds, hby, hnc, hcm, hP, hc2, hcm2⟩ := hp.open
    obtain ⟨W, hW⟩ : ∃ W, W = (w.alloc (.cells #[str p.type, str p.cs, str p.id, str p.loc, .int .i64 p.how, .slice A p.body.length c, .slice A2 p.parts.length c2] 25)).alloc (.cells #[.string ⟨#[]⟩, .string ⟨#[]⟩, .string ⟨#[]⟩, .string ⟨#[]⟩, .int .i64 0, .slice none 0 0, .slice none 0 0] 25) := ⟨_, rfl⟩
    have hbW : Below w.heap.size w W := by rw [hW]; exact ((Below.refl _ w).alloc (Nat.le_refl _) _).alloc (by simp) _
    have hsW : W.heap.size = w.heap.size + 2 := by rw [hW]; simp
    have hx1 : BoxF W w.heap.size (str p.type) (str p.cs) (str p.id) (str p.loc) (.int .i64 p.how) (.slice A p.body.length c) (.slice A2 p.parts.length c2) := by
      refine BoxF.of_block (t := 25) ?_
      rw [hW, Lib.alloc_old _ _ _ (by simp)]
      exact heap_alloc_new w _
    have hx2 : BoxF W (w.heap.size + 1) (.string ⟨#[]⟩) (.string ⟨#[]⟩) (.string ⟨#[]⟩) (.string ⟨#[]⟩) (.int .i64 0) (.slice none 0 0) (.slice none 0 0) := by
      refine BoxF.of_block (t := 25) ?_
      rw [hW]
      have := heap_alloc_new (w.alloc (.cells #[str p.type, str p.cs, str p.id, str p.loc, .int .i64 p.how, .slice A p.body.length c, .slice A2 p.parts.length c2] 25)) (.cells #[.string ⟨#[]⟩, .string ⟨#[]⟩, .string ⟨#[]⟩, .string ⟨#[]⟩, .int .i64 0, .slice none 0 0, .slice none 0 0] 25)
      simpa using this
    have hnb : p.body.length ≤ 4000 := hbod p (by rw [flatD_eq]; simp)
    have hfl : (flatsD p.parts).length ≤ k := by rw [flatD_eq, List.length_cons] at hk; omega
    have hnp : p.parts.length ≤ 1000 := by have := flatsD_len p.parts; omega
    obtain ⟨⟨x0, x1, x2, x3, x4, x5, x6⟩, hf⟩ := id hx1
    have Hx1 := Lib.hid hx1
    have Hx2 := Lib.hid hx2
    have HsW := Lib.hid hsW
    have Hby := Lib.hid hby
    have HP := Lib.hid hP
    have Hih := Lib.hid ih
    have Hbod := Lib.hid hbod
    have Hbds := Lib.hid hbds
    clear hx1 hx2 hsW hby hP ih hbod hp hbds
    go_enter Tryz.func35, Tryz.ntmps35
    have hW2 : w.heap.size + 2 ≤ W.heap.size := by rw [HsW.out]; exact Nat.le_refl _
    have hown0 := World.ownsRow_made (e := 5) (size := 1) (base := w.heap.size + 2) W #[] 0 hW2 (Nat.zero_le _) rfl
    have hbE : Below W.heap.size W (W.alloc (.cells #[] 5)) := (Below.refl _ _).alloc (Nat.le_refl _) _
    have hxE := Hx1.out.below hbE (by omega)
    obtain ⟨⟨_, _, _, _, _, z5, z6⟩, hf'⟩ := id hxE
    have hbyE := Sl.below Hby.out (hbW.trans (hbE.mono hbW.size))
    have Hown0 := Lib.hid hown0
    have HxE := Lib.hid hxE
    have hone := oneCell_byteCells p.body
    have h63 : 0 + p.body.length ≤ maxLen := by unfold maxLen; omega
    have h47 : (0 + p.body.length) * 1 ≤ 140737488355328 := by omega
    have hbase : w.heap.size + 2 ≤ (W.alloc (.cells #[] 5)).heap.size := by simp; omega
    have Hone := Lib.hid hone
    have HbyE := Lib.hid hbyE
    clear hown0 hxE hf' hone hbyE x0 x1 x2 x3 x4 x5 x6 hf
    go_upto_region 1 with fail
    rw [← hW]
    clear hW
    go_wp2_with (at_builtin; refine wpList_app rfl _ _ 22 rfl (w.heap.size + 2) 5 j0 (.int .u8 0) 1 1 Tryz.underlying22 hj0 hy0 hy1 hy2 rfl (by decide) _ 0 0 [] rfl Hown0.out _ A p.body.length c (Lib.byteCells p.body) rfl HbyE.out Hone.out h63 h47 hbase ?_)
    intro S1 d1 w1 hown1 hb1 _
    have hbx1 := HxE.out.below hb1 (by omega)
    have hby1 : Below (w.heap.size + 2) W w1 := ((Below.refl _ _).alloc hW2 _).trans hb1
    have hbx2 := Hx2.out.below hby1 (by omega)
    have hbel1 : Below w.heap.size w w1 := hbW.trans (hby1.mono (Nat.le_add_right _ _))
    obtain ⟨⟨y0, y1, y2, y3, y4, y5, y6⟩, yf⟩ := id hbx1
    have yf5 := yf 5
    have hsz1 := hby1.size
    have hrel0 : OwnRel p p.parts.length w.heap.size S1 d1 A2 c2 w (.slice none 0 0) (.int .i64 0) (w1.setCell ⟨w.heap.size, 5, none⟩ (.slice S1 p.body.length d1)) := by
      refine ⟨0, 0, none, [], rfl, rfl, Nat.zero_le _, World.ownsRow_nil _ _ _ _, rfl, ?_, ?_, ?_, ?_, by simp; omega⟩
      · refine SlS.change (own_sls hown1) (fun b hb => ⟨hb.1, by simp; exact hb.2, fun e => by cases e⟩) (fun a ha => ?_)
        exact World.cell?_setCell_other _ _ _ _ (by rintro rfl; have := ha.1; simp at this; omega)
      · exact hbx1.s5 _
      · exact ⟨_, _, _, _, _, _, _, hbx2.setFar (by simp) _⟩
      · exact hbel1.setCell (Nat.le_refl _) _
    have hdd : p.body.length ≤ d1 ∧ d1 ≤ maxLen := ⟨own_cap hown1, own_capmax hown1⟩
    have Hdd := Lib.hid hdd
    have Hrel0 := Lib.hid hrel0
    clear hrel0 hdd hown1 hb1 hbx1 hbx2 hby1 hbel1 z5 z6
    go_wp2_with fail
    generalize w1.setCell ⟨w.heap.size, 5, none⟩ (.slice S1 p.body.length d1) = w2 at Hrel0 ⊢
    have hx6 : w2.cell? ⟨w.heap.size, 6, none⟩ = some (.slice A2 p.parts.length c2) := by
      obtain ⟨i, d, S, rows, _, _, _, _, _, _, hbx, _⟩ := Hrel0.out
      exact hbx.1.2.2.2.2.2.2
    obtain ⟨n, hn⟩ : ∃ n, n = p.parts.length := ⟨_, rfl⟩
    go_wp2_with fail
    go_loopw [3, 14] (OwnRel p p.parts.length w.heap.size S1 d1 A2 c2 w) (fun _ iv _ => p.parts.length - (intOf iv).toNat)
    case atStart => exact Hrel0.out
    case round =>
      obtain ⟨i, d, S, rows, rfl, rfl, hi, hown, hpd, hs1, hbx, hb1x, hbel, hsz⟩ := hrel
      by_cases hin : i < p.parts.length
      · obtain ⟨b, off, q, A', n', c', A2', n2', c2', hA2, hbS, hq, hqa, x0, x1, x2, x3, x4, x5, x6⟩ := (HP.out.below hbel).cells7 hin
        subst hA2
        obtain ⟨A3, c3, A4, c4, hv, hqb, _⟩ := hqa.open
        simp only [List.cons.injEq, and_true] at hv
        obtain ⟨_, _, _, _, _, h5, h6⟩ := hv
        injection h5 with h5 h5' h5''
        injection h6 with h6 h6' h6''
        subst h5 h5' h5'' h6 h6' h6''
        obtain ⟨W5, hW5⟩ : ∃ W5, W5 = wr.alloc (.cells #[str q.type, str q.cs, str q.id, str q.loc, .int .i64 q.how, .slice A' q.body.length c', .slice A2' q.parts.length c2'] 25) := ⟨_, rfl⟩
        have hbA : Below wr.heap.size wr W5 := by rw [hW5]; exact (Below.refl _ wr).alloc (Nat.le_refl _) _
        have hbel5 : Below w.heap.size w W5 := hbel.trans (hbA.mono hbel.size)
        have hiq : p.parts[i]? = some q := by
          have h1 := congrArg (fun l => l[0]?) hq
          simpa using h1
        have hflq : (flatD q).length ≤ k ∧ ∀ x ∈ flatD q, x.body.length ≤ 4000 := by
          have h1 := flatsD_get p.parts i hin
          have h2 : p.parts[i] = q := by rw [List.getElem?_eq_getElem hin] at hiq; injection hiq
          rw [h2] at h1
          exact ⟨by omega, fun x hx => Hbod.out x (by rw [flatD_eq]; exact List.mem_cons_of_mem _ (h1.2 x hx))⟩
        have hcl := Hih.out q _ W5 hflq.1 (by omega) hflq.2 ((hqa.belowN (w' := W5) (hbA.mono hbel.size) (Nat.le_refl _)).more hbel5.size)
        have hs5 : W5.heap.size = wr.heap.size + 1 := by rw [hW5]; simp
        have Hcl := Lib.hid hcl
        have Hown := Lib.hid hown
        have Hpd := Lib.hid hpd
        have Hs1 := Lib.hid hs1
        have Hbx := Lib.hid hbx
        have Hb1x := Lib.hid hb1x
        have Hiq := Lib.hid hiq
        have Hs5 := Lib.hid hs5
        clear hcl hown hpd hs1 hbx hb1x hq hqa hiq hs5 hflq hqb
        go_wp2_with fail
        rw [← hW5]
        clear hW5 x0 x1 x2 x3 x4 x5 x6
        refine Hcl.out.mono ?_
        rintro e w6 ⟨A6, d6, S6, d7, rows6, rfl, hown6, hps6, hss6, g1, g2, g3, g4, gb, hb6⟩
        have hqp := own_part (B' := W5.heap.size) (Nat.le_refl _) hown6 hps6 hss6 g1 g2 g3 g4 gb
        have hbr6 : Below wr.heap.size wr w6 := hbA.trans (hb6.mono hbA.size)
        have hbel6 := hbel5.trans (hb6.mono hbel5.size)
        have hown7 := own_below Hown.out hbr6
        have hone : ∀ u ∈ [str q.type, str q.cs, str q.id, str q.loc, .int .i64 q.how, .slice A6 q.body.length d6, .slice S6 q.parts.length d7], u.oneCell' = true := hqp.one
        have h63 : i + 1 ≤ maxLen := by unfold maxLen; omega
        have h47 : (i + 1) * 120 ≤ 140737488355328 := by omega
        have hbase : w.heap.size + 2 ≤ w6.heap.size := Nat.le_trans hsz hbr6.size
        have hs6 : wr.heap.size + 1 ≤ w6.heap.size := by rw [← Hs5.out]; exact hb6.size
        have Hown7 := Lib.hid hown7
        have Hone := Lib.hid hone
        have Hqp := Lib.hid hqp
        clear hown6 hps6 hss6 hown7 hone hqp Hcl hb6
        go_wp2_with (at_builtin; refine wpList_app2 rfl _ _ 23 rfl (w.heap.size + 2) 25 i0 _ 7 120 Tryz.underlying23 hi0 hz0 hz1 hz2 rfl (by decide) S i d rows.flatten rfl (Hown7.out.alloc _) _ _ 1 1 [str q.type, str q.cs, str q.id, str q.loc, .int .i64 q.how, .slice A6 q.body.length d6, .slice S6 q.parts.length d7] rfl (Sl.row _ _ 7 1 _ rfl) Hone.out h63 h47 ?c2 ?_)
        case c2 => simp; omega
        intro S' d' w8 hown8 hb8 hgr8 hat8
        have hbk8 : ∀ b, b < w6.heap.size → some b ≠ Value.ownBlock (.slice S i d) → ∀ o, w8.cell? ⟨b, o, none⟩ = w6.cell? ⟨b, o, none⟩ := by
          intro b hb hne o
          rw [World.cell?_of_block (hgr8.block b (by simp; omega) hne)]
          exact World.cell?_alloc_lt _ _ _ hb
        have hsz8 : w6.heap.size + 1 ≤ w8.heap.size := by have := hgr8.size; simpa using this
        have hSlt : ∀ g, Value.ownBlock (.slice S i d) = some g → w.heap.size + 2 ≤ g ∧ g < wr.heap.size := fun g hg => Hown.out.lt g hg
        have hfin : OwnRel p p.parts.length w.heap.size S1 d1 (some ⟨b, off, none⟩) c2 w (.slice S' (i + 1) d') (.int .i64 ((i : Int) + 1)) w8 := by
          have old8 : ∀ a : Addr, NewS (w.heap.size + 2) (Value.ownBlock (.slice S i d)) wr a.block → w8.cell? a = wr.cell? a := by
            intro a ha
            obtain ⟨ab, ao, an⟩ := a
            have h1 := hbr6.cell (p := ⟨ab, ao, an⟩) ha.2.1
            rw [← h1]
            have hlt : ab < w6.heap.size := Nat.lt_of_lt_of_le ha.2.1 hbr6.size
            rw [World.cell?_of_block (hgr8.block ab (by simp; omega) (fun e => ha.2.2 e.symm))]
            exact World.cell?_alloc_lt _ _ _ hlt
          have in8 : ∀ b, NewS (w.heap.size + 2) (Value.ownBlock (.slice S i d)) wr b → NewS (w.heap.size + 2) (Value.ownBlock (.slice S' (i + 1) d')) w8 b := by
            intro b hb
            refine ⟨hb.1, by have := hb.2.1; have := hbr6.size; omega, ?_⟩
            rcases hat8 with h | h
            · rw [h]; exact hb.2.2
            · rw [h]
              intro e
              injection e with e
              have := hb.2.1
              have := hbr6.size
              omega
          refine ⟨i + 1, d', S', rows ++ [[str q.type, str q.cs, str q.id, str q.loc, .int .i64 q.how, .slice A6 q.body.length d6, .slice S6 q.parts.length d7]], rfl, by go_num, by omega, by rw [List.flatten_append]; simpa using hown8, ?_, SlS.change Hs1.out in8 old8, ?_, ?_, ?_, by omega⟩
          · have ht : p.parts.take (i + 1) = p.parts.take i ++ [q] := by rw [List.take_add_one, Hiq.out]; rfl
            rw [ht]
            refine PartsAt.app _ _ _ _ (PartsAt.change in8 old8 _ _ Hpd.out) ⟨_, _, rfl, PartAt.change ?_ ?_ _ _ Hqp.out, rfl⟩
            · intro b hb
              have h1 : W5.heap.size ≤ b := hb.1
              have h2 := hb.2
              rw [Hs5.out] at h1
              refine ⟨by omega, by omega, fun e => ?_⟩
              rcases hat8 with h | h
              · rw [h] at e
                have := (hSlt b e).2
                omega
              · rw [h] at e
                injection e with e
                omega
            · intro a ha
              obtain ⟨ab, ao, an⟩ := a
              have h1 : W5.heap.size ≤ ab := ha.1
              have h2 : ab < w6.heap.size := ha.2
              rw [Hs5.out] at h1
              rw [World.cell?_of_block (hgr8.block ab (by simp; omega) (fun e => by have := (hSlt ab e.symm).2; omega))]
              exact World.cell?_alloc_lt _ _ _ h2
          · have h1 := Hbx.out.below hbr6 (by omega)
            exact (h1.below ((Below.refl _ _).alloc (Nat.le_refl _) _) (by omega)).below hb8 (by omega)
          · obtain ⟨v0, v1, v2, v3, v4, v5, v6, hbr⟩ := Hb1x.out
            have h1 := hbr.below hbr6 (by omega)
            exact ⟨_, _, _, _, _, _, _, (h1.below ((Below.refl _ _).alloc (Nat.le_refl _) _) (by omega)).below hb8 (by omega)⟩
          · exact (hbel6.alloc hbel6.size _).trans (hb8.mono (Nat.le_add_right _ _))
        have Hfin := Lib.hid hfin
        clear hfin hown8 hb8 hgr8 hat8 hbk8 hsz8 hSlt
        go_wp2_with fail
        exact ⟨Hfin.out, by simp [intOf]; omega⟩
      · obtain rfl : i = p.parts.length := by omega
        rw [List.take_length] at hpd
        have hwa1 := hbx.s6 (.slice S p.parts.length d)
        obtain ⟨r0, r1, r2, r3, r4, r5, r6, hbr⟩ := hb1x
        have hwa2 := hbr.setFar (p := ⟨w.heap.size, 6, none⟩) (by simp) (.slice S p.parts.length d)
        have hwab := hbel.setCell (p := ⟨w.heap.size, 6, none⟩) (Nat.le_refl _) (.slice S p.parts.length d)
        have hSlt : ∀ g, Value.ownBlock (.slice S p.parts.length d) = some g → w.heap.size + 2 ≤ g := fun g hg => (hown.lt g hg).1
        have hcapd := own_cap hown
        have hcapm := own_capmax hown
        have hown2 := own_setFar (p := ⟨w.heap.size, 6, none⟩) hown (fun e => by have : w.heap.size + 2 ≤ w.heap.size := hSlt _ e; omega) (.slice S p.parts.length d)
        have inA : ∀ b, NewS (w.heap.size + 2) (Value.ownBlock (.slice S p.parts.length d)) wr b → NewS (w.heap.size + 2) (Value.ownBlock (.slice S p.parts.length d)) (wr.setCell ⟨w.heap.size, 6, none⟩ (.slice S p.parts.length d)) b := fun b hb => ⟨hb.1, by simp; exact hb.2.1, hb.2.2⟩
        have oldA : ∀ a : Addr, NewS (w.heap.size + 2) (Value.ownBlock (.slice S p.parts.length d)) wr a.block → (wr.setCell ⟨w.heap.size, 6, none⟩ (.slice S p.parts.length d)).cell? a = wr.cell? a := fun a ha => World.cell?_setCell_other _ _ _ _ (by rintro rfl; have := ha.1; simp at this; omega)
        have hpd2 := PartsAt.change inA oldA _ _ hpd
        have hs2 := SlS.change hs1 inA oldA
        have hszA : w.heap.size + 2 ≤ (wr.setCell ⟨w.heap.size, 6, none⟩ (.slice S p.parts.length d)).heap.size := by simp; omega
        have Hpack := Lib.hid (And.intro hwa1 (And.intro hwa2 (And.intro hwab (And.intro hown2 (And.intro hpd2 (And.intro hs2 hszA))))))
        obtain ⟨⟨x0, x1, x2, x3, x4, x5, x6⟩, xf⟩ := hbx
        have xf6 := xf 6
        clear hwa1 hwa2 hwab hown hown2 hpd hpd2 hs1 hs2 hszA inA oldA hbr hbel xf hSlt
        go_upto_region 9 with fail
        clear x0 x1 x2 x3 x4 x5 x6 xf6
        generalize wr.setCell ⟨w.heap.size, 6, none⟩ (.slice S p.parts.length d) = wa at Hpack ⊢
        obtain ⟨hwa1, hwa2, hwab, hown2, hpd2, hs2, hszA⟩ := Hpack.out
        clear Hpack
        obtain ⟨⟨x0, x1, x2, x3, x4, x5, x6⟩, xf⟩ := hwa1
        obtain ⟨⟨y0, y1, y2, y3, y4, y5, y6⟩, yf⟩ := hwa2
        have Hown := Lib.hid hown2
        have Hpd := Lib.hid hpd2
        have Hs1 := Lib.hid hs2
        have hbel := hwab
        clear hown2 hpd2 hs2 hwab
        go_wp2_with fail
        have hbx9 := BoxF.set7 (w := wa) (b := w.heap.size + 1) ⟨⟨y0, y1, y2, y3, y4, y5, y6⟩, yf⟩ (str p.type) (str p.cs) (str p.id) (str p.loc) (.int .i64 p.how) (.slice S1 p.body.length d1) (.slice S p.parts.length d)
        have far9 : ∀ a : Addr, a.block ≠ w.heap.size + 1 → (((((((wa.setCell ⟨w.heap.size + 1, 0, none⟩ (str p.type)).setCell ⟨w.heap.size + 1, 1, none⟩ (str p.cs)).setCell ⟨w.heap.size + 1, 2, none⟩ (str p.id)).setCell ⟨w.heap.size + 1, 3, none⟩ (str p.loc)).setCell ⟨w.heap.size + 1, 4, none⟩ (.int .i64 p.how)).setCell ⟨w.heap.size + 1, 5, none⟩ (.slice S1 p.body.length d1)).setCell ⟨w.heap.size + 1, 6, none⟩ (.slice S p.parts.length d)).cell? a = wa.cell? a := by
          intro a ha
          have h : ∀ (w' : World) k u, (w'.setCell ⟨w.heap.size + 1, k, none⟩ u).cell? a = w'.cell? a := fun w' k u => World.cell?_setCell_other _ _ _ _ (by rintro rfl; exact ha rfl)
          rw [h, h, h, h, h, h, h]
        have hown9 : (((((((wa.setCell ⟨w.heap.size + 1, 0, none⟩ (str p.type)).setCell ⟨w.heap.size + 1, 1, none⟩ (str p.cs)).setCell ⟨w.heap.size + 1, 2, none⟩ (str p.id)).setCell ⟨w.heap.size + 1, 3, none⟩ (str p.loc)).setCell ⟨w.heap.size + 1, 4, none⟩ (.int .i64 p.how)).setCell ⟨w.heap.size + 1, 5, none⟩ (.slice S1 p.body.length d1)).setCell ⟨w.heap.size + 1, 6, none⟩ (.slice S p.parts.length d)).ownsRow (w.heap.size + 2) 25 7 (.slice S p.parts.length d) p.parts.length (List.flatten rows) := by
          have hne : ∀ k, Value.ownBlock (.slice S p.parts.length d) ≠ some (⟨w.heap.size + 1, k, none⟩ : Addr).block := fun k e => by have : w.heap.size + 2 ≤ w.heap.size + 1 := (Hown.out.lt _ e).1; omega
          exact own_setFar (own_setFar (own_setFar (own_setFar (own_setFar (own_setFar (own_setFar Hown.out (hne 0) _) (hne 1) _) (hne 2) _) (hne 3) _) (hne 4) _) (hne 5) _) (hne 6) _
        have hbel9 : Below w.heap.size w (((((((wa.setCell ⟨w.heap.size + 1, 0, none⟩ (str p.type)).setCell ⟨w.heap.size + 1, 1, none⟩ (str p.cs)).setCell ⟨w.heap.size + 1, 2, none⟩ (str p.id)).setCell ⟨w.heap.size + 1, 3, none⟩ (str p.loc)).setCell ⟨w.heap.size + 1, 4, none⟩ (.int .i64 p.how)).setCell ⟨w.heap.size + 1, 5, none⟩ (.slice S1 p.body.length d1)).setCell ⟨w.heap.size + 1, 6, none⟩ (.slice S p.parts.length d)) :=
          ((((((hbel.setCell (Nat.le_succ _) _).setCell (Nat.le_succ _) _).setCell (Nat.le_succ _) _).setCell (Nat.le_succ _) _).setCell (Nat.le_succ _) _).setCell (Nat.le_succ _) _).setCell (Nat.le_succ _) _
        have hsz9 : (((((((wa.setCell ⟨w.heap.size + 1, 0, none⟩ (str p.type)).setCell ⟨w.heap.size + 1, 1, none⟩ (str p.cs)).setCell ⟨w.heap.size + 1, 2, none⟩ (str p.id)).setCell ⟨w.heap.size + 1, 3, none⟩ (str p.loc)).setCell ⟨w.heap.size + 1, 4, none⟩ (.int .i64 p.how)).setCell ⟨w.heap.size + 1, 5, none⟩ (.slice S1 p.body.length d1)).setCell ⟨w.heap.size + 1, 6, none⟩ (.slice S p.parts.length d)).heap.size = wa.heap.size := by simp
        generalize (((((((wa.setCell ⟨w.heap.size + 1, 0, none⟩ (str p.type)).setCell ⟨w.heap.size + 1, 1, none⟩ (str p.cs)).setCell ⟨w.heap.size + 1, 2, none⟩ (str p.id)).setCell ⟨w.heap.size + 1, 3, none⟩ (str p.loc)).setCell ⟨w.heap.size + 1, 4, none⟩ (.int .i64 p.how)).setCell ⟨w.heap.size + 1, 5, none⟩ (.slice S1 p.body.length d1)).setCell ⟨w.heap.size + 1, 6, none⟩ (.slice S p.parts.length d)) = w9 at hbx9 far9 hbel9 hsz9 hown9 ⊢
        obtain ⟨c0, c1, c2, c3, c4, c5, c6⟩ := hbx9
        refine bodyPost_ret (v := .agg #[str p.type, str p.cs, str p.id, str p.loc, .int .i64 p.how, .slice S1 p.body.length d1, .slice S p.parts.length d]) (by simp [results, Tryz.results35, go_sem, c0, c1, c2, c3, c4, c5, c6]) rfl ?_
        have inN : ∀ b, NewS (w.heap.size + 2) (Value.ownBlock (.slice S p.parts.length d)) wa b → NewS w.heap.size (Value.ownBlock (.slice S p.parts.length d)) w9 b := fun b hb => ⟨by have := hb.1; omega, by have := hb.2.1; omega, hb.2.2⟩
        have oldN : ∀ a : Addr, NewS (w.heap.size + 2) (Value.ownBlock (.slice S p.parts.length d)) wa a.block → w9.cell? a = wa.cell? a := fun a ha => far9 a (by have := ha.1; omega)
        obtain ⟨hd1, hd2⟩ := Hdd.out
        exact ⟨S1, d1, S, d, rows, rfl, own_base hown9 (by omega), PartsAt.change inN oldN _ _ Hpd.out, SlS.change Hs1.out inN oldN, hd1, hd2, hcapd, hcapm, Hbds.out, hbel9⟩
end Go.Proofs.YtlbdnohnngkapaaGreatDoor

namespace Go.Proofs.YtlbdnohnngkapaaGreatDoor
open Go.RowKit

def TruePost (w : World) (e : Ending) (w' : World) : Prop := e = .returned (.bool true) ∧ Below w.heap.size w w'
end Go.Proofs.YtlbdnohnngkapaaGreatDoor

namespace Go.Proofs.YtlbdnohnngkapaaGreatDoor
open Go.RowKit

set_option maxHeartbeats 400000 in
theorem at_any (k n : Int) (w : World) (hk : -9223372036854775808 ≤ k ∧ k ≤ 9223372036854775807) (hn : 0 < n) (hn2 : n ≤ 9223372036854775807) :
    Calls Tryz.prog 36 #[.int .i64 k, .int .i64 n] w fun e w' => e = .returned (.int .i64 (k % n)) ∧ w = w' := by
  have h1 : -n < k.tmod n := Int.lt_tmod_of_pos k hn
  have h2 : k.tmod n < n := Int.tmod_lt_of_pos k hn
  have h3 : Hid (k % n = if k.tmod n < 0 then k.tmod n + n else k.tmod n) := by
    show k % n = _
    have e : k = k.tmod n + n * k.tdiv n := (Int.tmod_add_mul_tdiv k n).symm
    generalize k.tmod n = r at *
    generalize k.tdiv n = q at *
    subst e
    rw [Int.add_mul_emod_self_left]
    split
    · rw [← Int.add_emod_right, Int.emod_eq_of_lt (by omega) (by omega)]
    · exact Int.emod_eq_of_lt (by omega) h2
  go_enter Tryz.func36, Tryz.ntmps36
  by_cases h0 : k.tmod n < 0
  · go_wp2_with fail
    go_ret
    exact ⟨by rw [h3.out, if_pos h0]; rfl, rfl⟩
  · go_wp2_with fail
    go_ret
    exact ⟨by rw [h3.out, if_neg (by omega)]; rfl, rfl⟩

end Go.Proofs.YtlbdnohnngkapaaGreatDoor

namespace Go.Proofs.YtlbdnohnngkapaaGreatDoor
open Go.RowKit
attribute [local go_sem high] cut_u8 mid_u8

def putE (l : List UInt8) (ts : List (List UInt8)) : List UInt8 × Nat := if 4000 < l.length then ([], 2) else putB l ts
def PutOut (T : List UInt8 × Nat) (w : World) (e : Ending) (w' : World) : Prop :=
  ∃ S c, e = .returned (.tuple #[.slice S T.1.length c, .int .i64 (T.2 : Nat)]) ∧ w'.ownsRow w.heap.size 5 1 (.slice S T.1.length c) T.1.length (Lib.byteCells T.1) ∧ Below w.heap.size w w'
def sumL (ts : List (List UInt8)) : Nat := (ts.map List.length).sum
theorem putE_none {l : List UInt8} {ts : List (List UInt8)} (h : (findE l).2 ≠ 0) : putE l ts = ([], 2) ∧ (findE l).2 = 2 := by
  unfold findE at h ⊢
  unfold putE
  split
  · exact ⟨rfl, rfl⟩
  · rename_i h4
    rw [if_neg h4] at h
    cases hf : findB l with
    | none => unfold putB; rw [hf]; exact ⟨rfl, rfl⟩
    | some ls => rw [hf] at h; exact absurd rfl h
theorem putE_some {l : List UInt8} {ts : List (List UInt8)} (h : (findE l).2 = 0) : findB l = some (findE l).1 ∧ l.length ≤ 4000 ∧ putE l ts = if ts.length ≠ (findE l).1.length then ([], 4) else if ts.any (fun t => t.any fun c => badPut c.toNat) then ([], 1) else if 4000 < (putL l 0 [] (findE l).1 ts).length then ([], 2) else (putL l 0 [] (findE l).1 ts, 0) := by
  unfold findE at h ⊢
  unfold putE
  split
  · rename_i h4; rw [if_pos h4] at h; cases h
  · rename_i h4
    rw [if_neg h4] at h
    cases hf : findB l with
    | none => rw [hf] at h; cases h
    | some ls => exact ⟨rfl, by omega, by unfold putB; rw [hf]; rfl⟩
theorem findB_len {l : List UInt8} {ls : List LinkD} (h : findB l = some ls) : ls.length ≤ 60 := by
  rw [findB_eq] at h
  split at h
  · cases h
  · have h := Option.some.inj h
    rw [← h, links_len]
    omega
def PutRel (w w1 : World) (n m : Nat) (l : List UInt8) (ls : List LinkD) (ts : List (List UInt8)) (T : Nat) (R : List UInt8) (ov av iv : Value) (wr : World) : Prop :=
  ∃ (i at_ no co : Nat) (So : Option Addr) (out : List UInt8), ov = .slice So no co ∧ av = .int .i64 (at_ : Nat) ∧ iv = .int .i64 (i : Nat) ∧ i ≤ m ∧ no = out.length ∧ wr.ownsRow w1.heap.size 5 1 (.slice So no co) no (Lib.byteCells out) ∧
    Below w1.heap.size w1 wr ∧ LOk at_ n (ls.drop i) ∧ Hid (putL l at_ out (ls.drop i) (ts.drop i) = R) ∧ Hid ((ts.take i).any (fun t => t.any fun c => badPut c.toNat) = false) ∧ no + sumL (ts.drop i) ≤ at_ + T
set_option maxRecDepth 100000 in
set_option maxHeartbeats 1000000 in
theorem Put_any (A TA : Option Addr) (n c tn tc : Nat) (l : List UInt8) (ts : List (List UInt8)) (w : World) (hM : MaxLenOk w) (hb : By w w.heap.size A n l) (hc : n ≤ c) (hcm : c ≤ maxLen) (hts : Sl w w.heap.size 1 TA tn (ts.map str)) (hT : sumL ts ≤ 1000000000000) :
    Calls Tryz.prog 50 #[.slice A n c, .slice TA tn tc] w (PutOut (putE l ts) w) := by
  obtain ⟨i0, hi0, hz0, hz1, hz2⟩ := info_parts infoByte
  have Hi0 := Lib.hid hi0
  clear hi0
  have hnl := hb.len
  have htn : ts.length = tn := by have := hts.1; simpa using this
  have hfind := Find_any A n c l w hM hb hc hcm
  have he0 := fun h => (putE_none (l := l) (ts := ts) h)
  have he1 := fun h => (putE_some (l := l) (ts := ts) h)
  unfold FindOut at hfind
  generalize findE l = F at hfind he0 he1
  obtain ⟨ls, fe⟩ := F
  simp only at hfind he0 he1
  by_cases hfe : fe = 0
  · subst hfe
    obtain ⟨e1, e2, e3⟩ := he1 rfl
    have hok := LOk.find e1
    have hm60 := findB_len e1
    have Hfind := Lib.hid hfind
    clear he0 he1 hfind
    obtain ⟨m, hm⟩ : ∃ m, m = ls.length := ⟨_, rfl⟩
    rw [← hm] at e3 hm60
    have Hm := Lib.hid hm
    have Htn := Lib.hid htn
    rw [htn] at e3
    by_cases hlen : tn = m
    · have hne : ((tn : Int) != (m : Int)) = false := by simp; omega
      rw [if_neg (by omega)] at e3
      obtain ⟨R, hR⟩ : ∃ R, R = putL l 0 [] ls ts := ⟨_, rfl⟩
      obtain ⟨bad, hbad⟩ : ∃ bad, bad = ts.any (fun t => t.any fun c => badPut c.toNat) := ⟨_, rfl⟩
      rw [← hR, ← hbad] at e3
      have hn4 : n ≤ 4000 := by omega
      rw [hnl] at hok
      have Hnl := Lib.hid hnl
      have HR := Lib.hid hR
      have Hbad := Lib.hid hbad
      have Hlen := Lib.hid hlen
      have E3 := Lib.hid e3
      clear hR hbad hlen e1 e2 e3 hm htn hnl
      go_enter Tryz.func50, Tryz.ntmps50
      go_wp2_with fail
      refine Hfind.out.mono ?_
      rw [← Hm.out]
      rintro e w1 ⟨S, cS, rfl, hown1, hb1⟩
      have hsz1 := hb1.size
      have hbP := hb.below hb1
      have htP := hts.below hb1
      have hsl := Sl.of_own hown1
      have hcap := own_cap hown1
      clear hown1 Hfind hb hts
      go_wp2_with fail
      go_loopw [8, 9, 27] (PutRel w w1 n m l ls ts (sumL ts) R) (fun _ _ iv _ => m - (intOf iv).toNat)
      case atStart => exact ⟨0, 0, 0, 0, none, [], rfl, rfl, rfl, Nat.zero_le _, rfl, World.ownsRow_nil _ _ _ _, Below.refl _ _, hok, HR.out.symm, rfl, by simp⟩
      case round =>
        obtain ⟨i, at_, no, co, So, out, rfl, rfl, rfl, hi, hno, hrow, hbel, hok, hE, hz, hT2⟩ := hrel
        have hsz := hbel.size
        by_cases hin : i < m
        · obtain ⟨b, off, x, rfl, hbS, hdx, x0, x1, x2⟩ := (hsl.belowN hbel (Nat.le_refl _)).link i hin
          obtain ⟨tb, toff, u, rfl, htb, hu, htc⟩ := (htP.belowN hbel hsz1).at_ (k := i) (by have := Hlen.out; omega)
          have hil : i < ts.length := by have := Htn.out; have := Hlen.out; omega
          have hdt := List.drop_eq_getElem_cons hil
          obtain ⟨t, ht⟩ : ∃ t, t = ts[i] := ⟨_, rfl⟩
          rw [← ht] at hdt
          have hut : u = str t := by
            rw [List.getElem?_map, List.getElem?_eq_getElem hil, ← ht] at hu
            simpa using hu.symm
          subst hut
          rw [hdx] at hok
          obtain ⟨o1, o2, o3⟩ := hok
          have o4 := o3.le
          have o5 : x.frm ≤ n := Nat.le_trans o2 o4
          have hE' : Hid (putL l at_ out (x :: ls.drop (i + 1)) (t :: ts.drop (i + 1)) = R) := by show _ = _; rw [← hdx, ← hdt]; exact hE.out
          have hT3 : no + (t.length + sumL (ts.drop (i + 1))) ≤ at_ + sumL ts := by rw [hdt] at hT2; simpa [sumL] using hT2
          have hzt : Hid ((ts.take (i + 1)).any (fun t => t.any fun c => badPut c.toNat) = (t.any fun c => badPut c.toNat)) := by
            show _ = _
            rw [List.take_add_one, List.getElem?_eq_getElem hil, ← ht, List.any_append, hz.out]
            simp
          have Ht := Lib.hid ht
          have Hno := Lib.hid hno
          have Hdt := Lib.hid hdt
          clear hu ht hdt hdx hE hT2 hno
          have htn2 : i < tn := by have := Hlen.out; omega
          obtain ⟨W, hW⟩ : ∃ W, W = wr.alloc (.cells #[.int .i64 (x.frm : Nat), .int .i64 (x.til : Nat), str x.text] 53) := ⟨_, rfl⟩
          have htcW := (World.cell?_alloc_lt wr (.cells #[.int .i64 (x.frm : Nat), .int .i64 (x.til : Nat), str x.text] 53) ⟨tb, toff + i, none⟩ (by show tb < _; omega)).trans htc
          have hbW : Below wr.heap.size wr W := by rw [hW]; exact (Below.refl _ wr).alloc (Nat.le_refl _) _
          have hbelW := hbel.trans (hbW.mono hsz)
          have hrowW := own_below hrow hbW
          have hxb : W.heap[wr.heap.size]? = some (.cells #[.int .i64 (x.frm : Nat), .int .i64 (x.til : Nat), str x.text] 53) := by rw [hW]; exact heap_alloc_new wr _
          by_cases ht0 : t = []
          · have b0 : (t == ([] : List UInt8)) = true := by rw [ht0]; rfl
            have Ht0 := Lib.hid ht0
            clear ht0
            go_wp2_with fail
            rw [← hW]
            refine ⟨⟨i + 1, at_, no, co, So, out, rfl, rfl, by go_num, by omega, Hno.out, hrowW, hbelW, ?_, ?_, ?_, by omega⟩, by simp [intOf]; omega⟩
            · cases hlsd : ls.drop (i + 1) with
              | nil => rw [hlsd] at o3; exact Nat.le_trans o1 (Nat.le_trans o2 o3)
              | cons y l' => rw [hlsd] at o3; exact ⟨by have := o3.1; omega, o3.2.1, o3.2.2⟩
            · show _ = R
              rw [← hE'.out, putL, if_pos Ht0.out]
            · show _ = _
              rw [hzt.out, Ht0.out]; rfl
          · have b0 : (t == ([] : List UInt8)) = false := by simpa using ht0
            have Ht0 := Lib.hid ht0
            have hcp := containsPut_any t W
            clear ht0
            by_cases hbt : (t.any fun c => badPut c.toNat) = true
            · rw [hbt] at hcp
              have Hcp := Lib.hid hcp
              have hbb : bad = true := by
                rw [Hbad.out, List.any_eq_true]
                exact ⟨t, by rw [Ht.out]; exact List.getElem_mem hil, hbt⟩
              have Hbb := Lib.hid hbb
              clear hcp hbt hbb
              go_wp2_with fail
              rw [← hW]
              refine Hcp.out.mono ?_
              rintro e w3 ⟨rfl, hb3⟩
              go_wp2_with fail
              go_ret2
              rw [E3.out, Hbb.out]
              exact ⟨none, 0, rfl, World.ownsRow_nil _ _ _ _, hb1.trans ((hbelW.trans (hb3.mono hbelW.size)).mono hsz1)⟩
            · have hbf : (t.any fun c => badPut c.toNat) = false := by simpa using hbt
              rw [hbf] at hcp hzt
              have Hcp := Lib.hid hcp
              clear hcp hbt hbf
              go_wp2_with fail
              rw [← hW]
              refine Hcp.out.mono ?_
              rintro e w3 ⟨rfl, hb3⟩
              have hbel3 := hbelW.trans (hb3.mono hbelW.size)
              have hrow3 := own_below hrowW hb3
              have hxb3 := (hb3.block wr.heap.size (by rw [hW]; simp)).trans hxb
              have z0 : w3.cell? ⟨wr.heap.size, 0, none⟩ = some (.int .i64 (x.frm : Nat)) := by rw [Go.Joins.cell_of_block hxb3]; rfl
              have z1 : w3.cell? ⟨wr.heap.size, 1, none⟩ = some (.int .i64 (x.til : Nat)) := by rw [Go.Joins.cell_of_block hxb3]; rfl
              obtain ⟨xb, hxbE⟩ : ∃ xb, xb = wr.heap.size := ⟨_, rfl⟩
              have hxlt : xb < w3.heap.size := by rw [hxbE]; exact Nat.lt_of_lt_of_le (by rw [hW]; simp) hb3.size
              rw [← hxbE] at z0 z1 ⊢
              have HxbE := Lib.hid hxbE
              clear hxbE
              have htW : W.cell? ⟨tb, toff + i, none⟩ = some (str t) := by rw [hW]; exact htcW
              have htc3 := (hb3.cell (p := ⟨tb, toff + i, none⟩) (by show tb < _; rw [hW]; simp; omega)).trans htW
              clear htW htcW htc x0 x1 x2
              have hbP3 : By w3 w.heap.size A n l := hbP.belowN hbel3 hsz1
              have hmid : By w3 w.heap.size (cutA A c at_ 1) (x.frm - at_) ((l.take x.frm).drop at_) := by
                have h1 := (hbP3.cut (k := at_) (by omega) hc).upto (k := x.frm - at_) (by omega)
                rw [← List.drop_take] at h1
                exact h1
              have hmn : no ≤ at_ + sumL ts := by omega
              have h63 : no + (x.frm - at_) ≤ maxLen := by unfold maxLen; omega
              have h47 : (no + (x.frm - at_)) * 1 ≤ 140737488355328 := by omega
              have hbase3 : w1.heap.size ≤ w3.heap.size := hbel3.size
              have hS3 : w3.drew.cell? ⟨xb, 0, none⟩ = some (.int .i64 (x.frm : Nat)) ∧ w3.drew.cell? ⟨tb, toff + i, none⟩ = some (str t) := ⟨z0, htc3⟩
              have hone := oneCell_byteCells ((l.take x.frm).drop at_)
              have hxo : (Value.slice So no co).ownBlock ≠ some xb := by
                intro e
                have := (hrow.lt _ e)
                have := HxbE.out
                omega
              go_wp2_with fail
              refine wp_region_held (S := fun W' => W'.cell? ⟨xb, 0, none⟩ = some (.int .i64 (x.frm : Nat)) ∧ W'.cell? ⟨tb, toff + i, none⟩ = some (str t)) (by kernel_rfl) ?_
              change wpAnyH _ _ _ _ _ _ _ _ (World.drew w3)
              refine wpAnyH_take (i := 0) (v := ?_) rfl (by kernel_rfl) (by kernel_rfl) (by kernel_rfl) (fun _ _ _ h => h) (Or.inl ⟨by kernel_rfl, ?_⟩) hS3 ?_
              rotate_left 1
              · rintro W' ⟨q0, q1⟩; go_simp; try exact rfl
              refine wpAnyH_take (i := 1) (v := ?_) rfl (by kernel_rfl) (by kernel_rfl) (by kernel_rfl) (fun _ _ _ h => h) (Or.inl ⟨by kernel_rfl, ?_⟩) hS3 ?_
              rotate_left 1
              · rintro W' ⟨q0, q1⟩; go_simp; try exact rfl
              refine wpAnyH_take (i := 2) (v := ?_) rfl (by kernel_rfl) (by kernel_rfl) (by kernel_rfl) (fun _ _ _ h => h) (Or.inl ⟨by kernel_rfl, ?_⟩) hS3 ?_
              rotate_left 1
              · rintro W' ⟨q0, q1⟩; go_simp; try exact rfl
              refine wpAnyH_take (i := 3) (v := ?_) rfl (by kernel_rfl) (by kernel_rfl) (by kernel_rfl) (fun _ _ _ h => h) (Or.inl ⟨by kernel_rfl, ?_⟩) hS3 ?_
              rotate_left 1
              · rintro W' ⟨q0, q1⟩; go_simp; try exact rfl
              refine wpAnyH_take (i := 4) (v := ?_) rfl (by kernel_rfl) (by kernel_rfl) (by kernel_rfl) (fun _ _ _ h => h) (Or.inl ⟨by kernel_rfl, ?_⟩) hS3 ?_
              rotate_left 1
              · rintro W' ⟨q0, q1⟩; go_simp; try exact rfl
              refine wpAnyH_take (i := 5) (v := ?_) rfl (by kernel_rfl) (by kernel_rfl) (by kernel_rfl) (fun _ _ _ h => h) (Or.inl ⟨by kernel_rfl, ?_⟩) hS3 ?_
              rotate_left 1
              · rintro W' ⟨q0, q1⟩; go_simp; try exact rfl
              refine wpAnyH_take (i := 7) (v := ?_) rfl (by kernel_rfl) (by kernel_rfl) (by kernel_rfl) (fun _ _ _ h => h) (Or.inl ⟨by kernel_rfl, ?_⟩) hS3 ?_
              rotate_left 1
              · rintro W' ⟨q0, q1⟩; go_simp; try exact rfl
              refine wpAnyH_take (i := 8) (v := ?_) rfl (by kernel_rfl) (by kernel_rfl) (by kernel_rfl) (fun _ _ _ h => h) (Or.inl ⟨by kernel_rfl, ?_⟩) hS3 ?_
              rotate_left 1
              · rintro W' ⟨q0, q1⟩; go_simp; try exact rfl
              refine wpAnyH_take (i := 9) (v := ?_) rfl (by kernel_rfl) (by kernel_rfl) (by kernel_rfl) (fun _ _ _ h => h) (Or.inl ⟨by kernel_rfl, ?_⟩) hS3 ?_
              rotate_left 1
              · rintro W' ⟨q0, q1⟩; go_simp; try exact rfl
              refine wpAnyH_take (i := 10) (v := ?_) rfl (by kernel_rfl) (by kernel_rfl) (by kernel_rfl) (fun _ _ _ h => h) (Or.inl ⟨by kernel_rfl, ?_⟩) hS3 ?_
              rotate_left 1
              · rintro W' ⟨q0, q1⟩; go_simp; try exact rfl
              refine wpAnyH_all (rs := [6]) (by kernel_rfl) (by simp) ?_
              intro k hk
              simp only [List.mem_singleton] at hk
              subst hk
              go_simp
              refine wpOp_app rfl rfl _ _ 22 rfl w1.heap.size 5 i0 _ 1 1 Tryz.underlying22 Hi0.out hz0 hz1 hz2 rfl (by decide) So no co (Lib.byteCells out) (by rfl) hrow3 _ (cutA A c at_ 1) (x.frm - at_) (c - at_) (Lib.byteCells ((l.take x.frm).drop at_)) (by rfl) hmid hone h63 h47 hbase3 ?_
              intro S4 c4 w4 hown4 hb4 hg4
              have hS4 : w4.cell? ⟨xb, 0, none⟩ = some (.int .i64 (x.frm : Nat)) ∧ w4.cell? ⟨tb, toff + i, none⟩ = some (str t) :=
                ⟨(World.cell?_of_block (hg4.block xb hxlt (fun e => hxo e.symm))).trans z0, (hb4.cell (p := ⟨tb, toff + i, none⟩) (by show tb < _; omega)).trans htc3⟩
              have z14 : w4.cell? ⟨xb, 1, none⟩ = some (.int .i64 (x.til : Nat)) := (World.cell?_of_block (hg4.block xb hxlt (fun e => hxo e.symm))).trans z1
              refine ⟨hS4, ?_⟩
              have hxo4 : (Value.slice S4 (no + (x.frm - at_)) c4).ownBlock ≠ some xb := by
                intro e
                rcases hown4.2 with ⟨hv, _⟩ | ⟨g, cap, cur, hv, _, hg, _⟩
                · rw [hv] at e; cases e
                · rw [hv] at e
                  injection e with e
                  simp only at e
                  subst e
                  have h5 : w4.heap[g]? = w3.heap[g]? := hg4.block g hxlt (fun e => hxo e.symm)
                  have h6 : w3.heap[g]? = some (.cells #[.int .i64 (x.frm : Nat), .int .i64 (x.til : Nat), str x.text] 53) := by rw [HxbE.out]; exact hxb3
                  rw [h5, h6] at hg
                  injection hg with hg
                  injection hg with _ hg _
                  exact absurd hg (by decide)
              have h63b : no + (x.frm - at_) + t.length ≤ maxLen := by unfold maxLen; omega
              have h47b : no + (x.frm - at_) + t.length ≤ 140737488355328 := by omega
              refine wpAnyH_all (rs := [11]) (by kernel_rfl) (by simp) ?_
              intro k hk
              simp only [List.mem_singleton] at hk
              subst hk
              go_simp
              refine wpOp_appStr rfl rfl _ _ 22 9 rfl w1.heap.size 5 i0 Tryz.underlying22 Tryz.underlying9 Hi0.out hz0 hz1 hz2 S4 (no + (x.frm - at_)) c4 _ (by rfl) hown4 t (by rfl) h63b h47b (Nat.le_trans hbase3 hb4.size) ?_
              intro S5 c5 w5 hown5 hb5 hg5
              have hS5 : w5.cell? ⟨xb, 0, none⟩ = some (.int .i64 (x.frm : Nat)) ∧ w5.cell? ⟨tb, toff + i, none⟩ = some (str t) :=
                ⟨(World.cell?_of_block (hg5.block xb (Nat.lt_of_lt_of_le hxlt hg4.size) (fun e => hxo4 e.symm))).trans hS4.1, (hb5.cell (p := ⟨tb, toff + i, none⟩) (by show tb < _; omega)).trans hS4.2⟩
              have z15 : w5.cell? ⟨xb, 1, none⟩ = some (.int .i64 (x.til : Nat)) := (World.cell?_of_block (hg5.block xb (Nat.lt_of_lt_of_le hxlt hg4.size) (fun e => hxo4 e.symm))).trans z14
              refine ⟨hS5, ?_⟩
              refine wpAnyH_all (rs := [12]) (by kernel_rfl) (by simp) ?_
              intro k hk
              simp only [List.mem_singleton] at hk
              subst hk
              go_simp
              refine wpOp_val rfl rfl (.slice S5 (no + (x.frm - at_) + t.length) c5) (by rfl) ?_
              refine ⟨hS5, ?_⟩
              refine wpAnyH_done (by kernel_rfl) ?_ _
              have hbel5 : Below w1.heap.size w1 w5 := (hbel3.trans ((Below.drew (Below.refl _ w3)).trans hb4)).trans hb5
              rw [← byteCells_append, ← byteCells_append] at hown5
              have Hown5 := Lib.hid hown5
              clear hown5 hown4 hg4 hg5 hb4 hb5 hS4 hS5 z14 z0 z1 htc3 hS3 hmid
              go_wp2_with fail
              refine ⟨⟨i + 1, x.til, no + (x.frm - at_) + t.length, c5, S5, out ++ (l.take x.frm).drop at_ ++ t, rfl, rfl, by go_num, by omega, ?_, Hown5.out, hbel5, o3, ?_, hzt, by omega⟩, by simp [intOf]; omega⟩
              · have hlx : ((l.take x.frm).drop at_).length = x.frm - at_ := by
                  rw [List.length_drop, List.length_take, Nat.min_eq_left (by have := Hnl.out; omega)]
                rw [List.length_append, List.length_append, hlx, Hno.out]
              · show _ = R
                rw [← hE'.out, putL, if_neg Ht0.out]
        · obtain rfl : i = m := by omega
          have hE2 : out ++ l.drop at_ = R := by
            have h := hE.out
            rw [List.drop_of_length_le (by have := Hm.out; omega), List.drop_of_length_le (by have := Htn.out; have := Hlen.out; omega)] at h
            rw [← h]
            rfl
          have hb0 : bad = false := by
            rw [Hbad.out]
            have h := hz.out
            rw [List.take_of_length_le (by have := Htn.out; have := Hlen.out; omega)] at h
            exact h
          have hat : at_ ≤ n := hok.le
          have hbPr := hbP.belowN hbel hsz1
          have hcutr : By wr w.heap.size (cutA A c at_ 1) (n - at_) (l.drop at_) := hbPr.cut hat hc
          have hoR : no + (n - at_) = R.length := by rw [← hE2, List.length_append, List.length_drop, ← hno]; have := Hnl.out; omega
          have hmn : no ≤ at_ + sumL ts := by omega
          have h63 : no + (n - at_) ≤ maxLen := by unfold maxLen; omega
          have h47 : (no + (n - at_)) * 1 ≤ 140737488355328 := by omega
          have hone := oneCell_byteCells (l.drop at_)
          have HoR := Lib.hid hoR
          have HE2 := Lib.hid hE2
          have Hb0 := Lib.hid hb0
          clear hE2 hb0 hoR hno
          go_wp2_with (at_builtin; refine wpList_app rfl _ _ 22 rfl w1.heap.size 5 i0 _ 1 1 Tryz.underlying22 Hi0.out hz0 hz1 hz2 rfl (by decide) So no co (Lib.byteCells out) rfl hrow _ (cutA A c at_ 1) (n - at_) (c - at_) (Lib.byteCells (l.drop at_)) rfl hcutr hone h63 h47 hsz ?_)
          intro S5 c5 w5 hown5 hb5 hg5
          rw [← byteCells_append, HE2.out] at hown5
          have hbel5 : Below w.heap.size w w5 := hb1.trans ((hbel.trans hb5).mono hsz1)
          have Hown5 := Lib.hid hown5
          clear hown5 hg5 hb5
          by_cases h4 : 4000 < no + (n - at_)
          · go_wp2_with fail
            go_ret2
            rw [E3.out, Hb0.out, if_neg (by simp), if_pos (by rw [← HoR.out]; exact h4)]
            exact ⟨none, 0, rfl, World.ownsRow_nil _ _ _ _, hbel5⟩
          · go_wp2_with fail
            go_ret2
            rw [E3.out, Hb0.out, if_neg (by simp), if_neg (by rw [← HoR.out]; exact h4)]
            have h := Hown5.out.mono (base' := w.heap.size) hsz1
            rw [HoR.out] at h
            exact ⟨S5, c5, by rw [← HoR.out]; rfl, h, hbel5⟩
    · have hne : ((tn : Int) != (m : Int)) = true := by simp; omega
      have hR : putE l ts = ([], 4) := by rw [e3, if_pos hlen]
      rw [hR]
      clear hR e3 e1 hlen hm htn
      go_enter Tryz.func50, Tryz.ntmps50
      go_wp2_with fail
      refine Hfind.out.mono ?_
      rw [← Hm.out]
      rintro e w1 ⟨S, cS, rfl, hown1, hb1⟩
      go_wp2_with fail
      go_ret2
      exact ⟨none, 0, rfl, World.ownsRow_nil _ _ _ _, hb1⟩
  · obtain ⟨hR, rfl⟩ := he0 hfe
    rw [hR]
    have Hfind := Lib.hid hfind
    clear hR he0 he1 hfe hfind hnl htn
    go_enter Tryz.func50, Tryz.ntmps50
    go_wp2_with fail
    refine Hfind.out.mono ?_
    rintro e w1 ⟨S, cS, rfl, hown1, hb1⟩
    go_wp2_with fail
    go_ret2
    exact ⟨none, 0, rfl, World.ownsRow_nil _ _ _ _, hb1⟩
end Go.Proofs.YtlbdnohnngkapaaGreatDoor

namespace Go.Proofs.YtlbdnohnngkapaaGreatDoor
open Go.RowKit

instance : DecidableEq LinkD := fun a b =>
  if h : a.frm = b.frm ∧ a.til = b.til ∧ a.text = b.text then isTrue (by obtain ⟨a1, a2, a3⟩ := a; obtain ⟨b1, b2, b3⟩ := b; obtain ⟨rfl, rfl, rfl⟩ := h; rfl)
  else isFalse (fun e => h (by subst e; exact ⟨rfl, rfl, rfl⟩))
theorem linkD_beq (a b : LinkD) : (a == b) = ((((a.frm : Nat) : Int) == ((b.frm : Nat) : Int)) && ((((a.til : Nat) : Int) == ((b.til : Nat) : Int)) && (a.text == b.text))) := by
  rw [Bool.eq_iff_iff]
  simp only [beq_iff_eq, Bool.and_eq_true]
  constructor
  · rintro rfl; exact ⟨rfl, rfl, rfl⟩
  · rintro ⟨h1, h2, h3⟩
    obtain ⟨a1, a2, a3⟩ := a
    obtain ⟨b1, b2, b3⟩ := b
    simp only at h1 h2 h3
    obtain rfl : a1 = b1 := by omega
    obtain rfl : a2 = b2 := by omega
    subst h3
    rfl
theorem neq_link (W : World) (a b : LinkD) : (binOp .neq 53 (.agg #[.int .i64 (a.frm : Nat), .int .i64 (a.til : Nat), str a.text]) (.agg #[.int .i64 (b.frm : Nat), .int .i64 (b.til : Nat), str b.text])).run Tryz.prog W = .ok (.bool (!(a == b))) W := by
  rw [linkD_beq, run_neq_struct, run_equalIn_agg _ _ _ _ _ (by kernel_rfl) (by kernel_rfl)]
  have hs : (Op.equalIn 9999 9 (str a.text) (str b.text)).run Tryz.prog W = .ok (a.text == b.text) W := by
    rw [str_eq, str_eq, run_equalIn_string W 9998 9 _ _ Tryz.underlying9]
    simp
  by_cases h1 : ((a.frm : Nat) : Int) = (b.frm : Nat)
  · by_cases h2 : ((a.til : Nat) : Int) = (b.til : Nat)
    · by_cases h3 : a.text = b.text
      · rw [h3] at hs
        go_simp
      · go_simp
    · go_simp
  · go_simp
end Go.Proofs.YtlbdnohnngkapaaGreatDoor

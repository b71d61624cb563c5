import Derived.Test.YtdhmmepcnladcaaDoorHdM
namespace Go.Proofs.YtdhmmepcnladcaaDoor

/-! ### A value taken apart -/
/-- header.Params' loop: the fields, what is wrong. -/
def loopP : Nat → List UInt8 → Bool → List FieldD → List FieldD × Nat
  | 0, _, _, _ => ([], 1)
  | k + 1, rest, more, l =>
    if more = false then (l, 0)
    else
      let c := Lib.cut (Lib.trimLeftS rest [32]) [61]
      let name := Lib.trimS c.1 [32]
      if (!c.2.2 || !tokB name) = true then ([], 1)
      else
        let v := Lib.trimLeftS c.2.1 [32]
        if Lib.hasPrefix v [34] = true then
          let d := Lib.cut (v.drop 1) [34]
          if d.2.2 = false then ([], 1)
          else
            let g := Lib.cut d.2.1 [59]
            if Lib.trimS g.1 [32] ≠ [] then ([], 1)
            else if 20 < (l ++ [FieldD.mk (lowL name) d.1]).length then ([], 2)
            else loopP k g.2.1 g.2.2 (l ++ [FieldD.mk (lowL name) d.1])
        else
          let d := Lib.cut v [59]
          let p := Lib.trimRightS d.1 [32]
          if tokB p = false then ([], 1)
          else if 20 < (l ++ [FieldD.mk (lowL name) p]).length then ([], 2)
          else loopP k d.2.1 d.2.2 (l ++ [FieldD.mk (lowL name) p])
/-- header.Params. -/
def paramsF (s : List UInt8) : List UInt8 × List FieldD × Nat :=
  if valB s = false then ([], [], 1)
  else
    let c := Lib.cut s [59]
    let r := loopP (s.length + 2) c.2.1 c.2.2 []
    if r.2 = 0 then (lowL (Lib.trimS c.1 [32]), r.1, 0) else ([], [], r.2)

/-! ### What is put behind a value -/
structure PieceD where
  quoted : Bool
  name : List UInt8
  value : List UInt8
def PieceD.text (p : PieceD) : List UInt8 := if p.quoted then [59] ++ p.name ++ [32, 61, 34] ++ p.value ++ [34, 32] else [32, 59, 32] ++ p.name ++ [61, 32] ++ p.value
def PieceD.good (p : PieceD) : Prop := tokB p.name = true ∧ (if p.quoted then valB p.value = true ∧ (34 : UInt8) ∉ p.value else tokB p.value = true)
def PieceD.field (p : PieceD) : FieldD := ⟨lowL p.name, p.value⟩
def PieceD.pre (p : PieceD) : List UInt8 := if p.quoted then [] else [32]
/-- What stands behind the ;, and with what behind it. -/
def PieceD.body (p : PieceD) (r : List PieceD) : List UInt8 := if p.quoted then p.name ++ [32] ++ 61 :: (34 :: (p.value ++ 34 :: (if r.isEmpty then [] else [32]))) else 32 :: (p.name ++ 61 :: (32 :: p.value))
def tailS : List PieceD → List UInt8
  | [] => []
  | p :: r => p.pre ++ 59 :: (p.body r ++ tailS r)
/-- The blank at the end. -/
def endS : List PieceD → List UInt8
  | [] => []
  | [p] => if p.quoted then [32] else []
  | _ :: q :: r => endS (q :: r)
theorem tail_end : ∀ ps : List PieceD, ps.flatMap PieceD.text = tailS ps ++ endS ps
  | [] => rfl
  | [p] => by
    rw [List.flatMap_cons, tailS, tailS, endS]
    unfold PieceD.text PieceD.pre PieceD.body
    cases p.quoted <;> simp
  | p :: q :: r => by
    rw [List.flatMap_cons, tail_end (q :: r)]
    show _ = (p.pre ++ 59 :: (p.body (q :: r) ++ tailS (q :: r))) ++ endS (q :: r)
    unfold PieceD.text PieceD.pre PieceD.body
    cases p.quoted <;> simp
theorem endS_blank : ∀ ps : List PieceD, ∀ x ∈ endS ps, ([32] : List UInt8).contains x = true
  | [] => by simp [endS]
  | [p] => by
    rw [endS]
    cases p.quoted <;> simp
  | _ :: q :: r => by rw [endS]; exact endS_blank (q :: r)
theorem tok_blank {s : List UInt8} (h : tokB s = true) : (∀ x, s.head? = some x → ([32] : List UInt8).contains x = false) ∧ (∀ x, s.getLast? = some x → ([32] : List UInt8).contains x = false) := by
  obtain ⟨_, _, m⟩ := tok_mem h
  have key : ∀ x ∈ s, ([32] : List UInt8).contains x = false := by
    intro x hx
    have := (m x hx).1
    have h2 : x ≠ 32 := by intro e; rw [e] at this; exact absurd this (by decide)
    simp [h2]
  exact ⟨fun x hx => key x (List.mem_of_mem_head? (by rw [hx]; rfl)), fun x hx => key x (List.mem_of_getLast? hx)⟩
theorem last_append (a b : List UInt8) (h : b ≠ []) : (a ++ b).getLast? = b.getLast? := by
  rw [List.getLast?_append]
  cases hb : b.getLast? with
  | none => exact absurd (List.getLast?_eq_none_iff.1 hb) h
  | some z => rfl
theorem body_ne (p : PieceD) (r : List PieceD) : p.body r ≠ [] := by
  unfold PieceD.body
  cases p.quoted <;> simp
theorem tail_last : ∀ ps : List PieceD, (∀ p ∈ ps, p.good) → ∀ x, (tailS ps).getLast? = some x → ([32] : List UInt8).contains x = false
  | [], _ => by intro x hx; cases hx
  | [p], hg => by
    intro x hx
    have hp := hg p (by simp)
    rw [tailS, tailS, List.append_nil, last_append _ _ (by simp), show ∀ (a : UInt8) l, a :: l = [a] ++ l from fun _ _ => rfl, last_append _ _ (body_ne _ _)] at hx
    unfold PieceD.body at hx
    unfold PieceD.good at hp
    cases hq : p.quoted with
    | true =>
      rw [hq] at hx
      simp only [if_true, List.isEmpty_nil] at hx
      have e : p.name ++ [32] ++ 61 :: 34 :: (p.value ++ [34]) = (p.name ++ [32] ++ 61 :: 34 :: p.value) ++ [34] := by simp
      rw [e, last_append _ _ (by simp)] at hx
      injection hx with hx
      subst hx
      rfl
    | false =>
      rw [hq] at hx hp
      simp only [Bool.false_eq_true, if_false] at hx hp
      have e : 32 :: (p.name ++ 61 :: 32 :: p.value) = (32 :: (p.name ++ [61, 32])) ++ p.value := by simp
      rw [e, last_append _ _ (tok_mem hp.2).1] at hx
      exact (tok_blank hp.2).2 x hx
  | p :: q :: r, hg => by
    intro x hx
    have hne : tailS (q :: r) ≠ [] := by rw [tailS]; simp
    have e : tailS (p :: q :: r) = (p.pre ++ 59 :: p.body (q :: r)) ++ tailS (q :: r) := by rw [tailS]; simp
    rw [e, last_append _ _ hne] at hx
    exact tail_last (q :: r) (fun z hz => hg z (List.mem_cons_of_mem _ hz)) x hx
theorem trimR_pad (l b cs : List UInt8) (hb : ∀ x ∈ b, cs.contains x = true) (h1 : ∀ x, l.getLast? = some x → cs.contains x = false) : Lib.trimRightS (l ++ b) cs = l := by
  unfold Lib.trimRightS
  rw [List.reverse_append, List.dropWhile_append_of_pos (fun x hx => hb x (List.mem_reverse.1 hx))]
  cases hr : l.reverse with
  | nil => have := congrArg List.reverse hr; rw [List.reverse_reverse] at this; rw [this]; rfl
  | cons z t =>
    have hz := h1 z (by rw [← List.head?_reverse, hr]; rfl)
    rw [List.dropWhile_cons, if_neg (by rw [hz]; simp), ← hr, List.reverse_reverse]
theorem trimL_pad (a l cs : List UInt8) (ha : ∀ x ∈ a, cs.contains x = true) (h0 : ∀ x, l.head? = some x → cs.contains x = false) : Lib.trimLeftS (a ++ l) cs = l := by
  unfold Lib.trimLeftS
  rw [List.dropWhile_append_of_pos ha]
  cases l with
  | nil => rfl
  | cons y r => rw [List.dropWhile_cons, if_neg (by rw [h0 y rfl]; simp)]
/-- The text whose value is taken apart: main, and the pieces without the blank at the end. -/
theorem trim_pieces {main : List UInt8} {ps : List PieceD} (hm : tokB main = true) (hg : ∀ p ∈ ps, p.good) : Lib.trimRightS (main ++ ps.flatMap PieceD.text) [32] = main ++ tailS ps := by
  rw [tail_end, ← List.append_assoc]
  refine trimR_pad _ _ _ (endS_blank ps) ?_
  intro x hx
  cases ps with
  | nil => rw [tailS, List.append_nil] at hx; exact (tok_blank hm).2 x hx
  | cons p r =>
    rw [last_append _ _ (by rw [tailS]; simp)] at hx
    exact tail_last _ hg x hx
/-- What is behind a ;, and is there one? -/
def contP : List PieceD → List UInt8 × Bool
  | [] => ([], false)
  | p :: r => (p.body r ++ tailS r, true)
def gapP : List PieceD → List UInt8
  | [] => []
  | p :: _ => p.pre
theorem gap_blank (r : List PieceD) : ∀ x ∈ gapP r, ([32] : List UInt8).contains x = true := by
  cases r with
  | nil => simp [gapP]
  | cons p r =>
    show ∀ x ∈ p.pre, _
    unfold PieceD.pre
    cases p.quoted <;> simp
theorem cut_tail (X : List UInt8) (r : List PieceD) (h : (59 : UInt8) ∉ X) : Lib.cut (X ++ tailS r) [59] = (X ++ gapP r, (contP r).1, (contP r).2) := by
  cases r with
  | nil =>
    rw [tailS, List.append_nil, cut_not X 59 (fun b hb e => h (e ▸ hb))]
    show _ = (X ++ [], [], false)
    rw [List.append_nil]
  | cons p r =>
    rw [tailS]
    have e : X ++ (p.pre ++ 59 :: (p.body r ++ tailS r)) = (X ++ p.pre) ++ 59 :: (p.body r ++ tailS r) := by simp
    rw [e]
    refine cut_app _ _ _ ?_
    intro b hb
    rw [List.mem_append] at hb
    rcases hb with hb | hb
    · exact fun e => h (e ▸ hb)
    · unfold PieceD.pre at hb
      cases hq : p.quoted <;> rw [hq] at hb <;> simp at hb
      subst hb
      decide
theorem tok_not {s : List UInt8} (h : tokB s = true) {c : UInt8} (hc : c ∈ tspec) : c ∉ s := fun hm => ((tok_mem h).2.2 c hm).2.2 hc
theorem loop_law : ∀ (r : List PieceD) (l : List FieldD) (k : Nat), r.length < k → (∀ p ∈ r, p.good) → l.length + r.length ≤ 20 → loopP k (contP r).1 (contP r).2 l = (l ++ r.map PieceD.field, 0) := by
  intro r
  induction r with
  | nil =>
    intro l k hk _ _
    obtain ⟨k, rfl⟩ : ∃ j, k = j + 1 := ⟨k - 1, by simp at hk; omega⟩
    show loopP (k + 1) [] false l = _
    rw [loopP, if_pos rfl]
    simp
  | cons p r ih =>
    intro l k hk hg hl
    obtain ⟨k, rfl⟩ : ∃ j, k = j + 1 := ⟨k - 1, by simp at hk; omega⟩
    obtain ⟨hn, hv⟩ := hg p (by simp)
    have hr : ∀ q ∈ r, q.good := fun q hq => hg q (by simp [hq])
    have hk2 : r.length < k := by simp at hk; omega
    have hl2 : ∀ f : FieldD, (l ++ [f]).length + r.length ≤ 20 := by intro f; simp only [List.length_append, List.length_cons, List.length_nil] at hl ⊢; omega
    have hl3 : ∀ f : FieldD, ¬ 20 < (l ++ [f]).length := by intro f; have := hl2 f; omega
    show loopP (k + 1) (p.body r ++ tailS r) true l = _
    rw [loopP, if_neg (by simp)]
    obtain ⟨nh, nl⟩ := tok_blank hn
    have n0 := (tok_mem hn).1
    unfold PieceD.body
    cases hq : p.quoted with
    | true =>
      rw [hq] at hv
      simp only [if_true] at hv ⊢
      obtain ⟨sp, hsp⟩ : ∃ sp : List UInt8, sp = if r.isEmpty then [] else [32] := ⟨_, rfl⟩
      have hspb : ∀ x ∈ sp, ([32] : List UInt8).contains x = true := by rw [hsp]; cases r.isEmpty <;> simp
      rw [← hsp]
      have e1 : Lib.trimLeftS (p.name ++ [32] ++ 61 :: 34 :: (p.value ++ 34 :: sp) ++ tailS r) [32] = (p.name ++ [32]) ++ 61 :: (34 :: (p.value ++ 34 :: (sp ++ tailS r))) := by
        have := trimL_pad [] (p.name ++ [32] ++ 61 :: 34 :: (p.value ++ 34 :: sp) ++ tailS r) [32] (by simp) (by
          intro x hx
          cases hnn : p.name with
          | nil => exact absurd hnn n0
          | cons a t => rw [hnn] at hx; exact nh x (by rw [hnn]; exact hx))
        rw [List.nil_append] at this
        rw [this]
        simp
      have e2 := cut_app (p.name ++ [32]) (34 :: (p.value ++ 34 :: (sp ++ tailS r))) 61 (by
        intro b hb
        simp only [List.mem_append, List.mem_cons, List.not_mem_nil, or_false] at hb
        rcases hb with hb | rfl
        · exact fun e => tok_not hn (c := 61) (by decide) (e ▸ hb)
        · decide)
      have e3 : Lib.trimS (p.name ++ [32]) [32] = p.name := by
        have := trim_pad [] p.name [32] [32] (by simp) (by simp) nh nl
        rw [List.nil_append] at this
        exact this
      have e4 : Lib.trimLeftS (34 :: (p.value ++ 34 :: (sp ++ tailS r))) [32] = 34 :: (p.value ++ 34 :: (sp ++ tailS r)) := by
        have := trimL_pad [] (34 :: (p.value ++ 34 :: (sp ++ tailS r))) [32] (by simp) (by intro x hx; injection hx with hx; subst hx; rfl)
        rw [List.nil_append] at this
        exact this
      have e5 : Lib.hasPrefix (34 :: (p.value ++ 34 :: (sp ++ tailS r))) [34] = true := by simp [Lib.hasPrefix, List.isPrefixOf]
      have e6 := cut_app p.value (sp ++ tailS r) 34 (fun b hb e => hv.2 (e ▸ hb))
      have e7 := cut_tail sp r (by rw [hsp]; cases r.isEmpty <;> simp)
      have e8 : Lib.trimS (sp ++ gapP r) [32] = [] := by
        have := trim_pad (sp ++ gapP r) [] [] [32] (by intro x hx; rcases List.mem_append.1 hx with h | h; exact hspb x h; exact gap_blank r x h) (by simp) (by simp) (by simp)
        rw [List.append_nil, List.append_nil] at this
        exact this
      rw [e1, e2]
      simp only
      rw [e3, hn, if_neg (by simp), e4, if_pos e5]
      simp only [List.drop_succ_cons, List.drop_zero]
      rw [e6]
      simp only
      rw [if_neg (by simp), e7]
      simp only
      rw [e8, if_neg (by simp), if_neg (hl3 _), ih _ k hk2 hr (hl2 _)]
      simp [PieceD.field]
    | false =>
      rw [hq] at hv
      simp only [Bool.false_eq_true, if_false] at hv ⊢
      obtain ⟨vh, vl⟩ := tok_blank hv
      have v0 := (tok_mem hv).1
      have e1 : Lib.trimLeftS (32 :: (p.name ++ 61 :: (32 :: p.value)) ++ tailS r) [32] = p.name ++ 61 :: (32 :: (p.value ++ tailS r)) := by
        have := trimL_pad [32] (p.name ++ 61 :: (32 :: (p.value ++ tailS r))) [32] (by simp) (by
          intro x hx
          cases hnn : p.name with
          | nil => exact absurd hnn n0
          | cons a t => rw [hnn] at hx; exact nh x (by rw [hnn]; exact hx))
        rw [← this]
        simp
      have e2 := cut_app p.name (32 :: (p.value ++ tailS r)) 61 (fun b hb e => tok_not hn (c := 61) (by decide) (e ▸ hb))
      have e3 : Lib.trimS p.name [32] = p.name := by
        have := trim_pad [] p.name [] [32] (by simp) (by simp) nh nl
        rw [List.nil_append, List.append_nil] at this
        exact this
      have hvh : ∀ x, (p.value ++ tailS r).head? = some x → p.value.head? = some x := by
        intro x hx
        cases hvv : p.value with
        | nil => exact absurd hvv v0
        | cons a t => rw [hvv] at hx; exact hx
      have e4 : Lib.trimLeftS (32 :: (p.value ++ tailS r)) [32] = p.value ++ tailS r :=
        trimL_pad [32] (p.value ++ tailS r) [32] (by simp) (fun x hx => vh x (hvh x hx))
      have e5 : Lib.hasPrefix (p.value ++ tailS r) [34] = false := by
        cases hvv : p.value with
        | nil => exact absurd hvv v0
        | cons a t =>
          have : a ≠ 34 := fun e => tok_not hv (c := 34) (by decide) (by rw [hvv, e]; simp)
          simp [Lib.hasPrefix, List.isPrefixOf]
          exact fun e => this e.symm
      have e6 := cut_tail p.value r (tok_not hv (by decide))
      have e7 := trimR_pad p.value (gapP r) [32] (gap_blank r) vl
      rw [e1, e2]
      simp only
      rw [e3, hn, if_neg (by simp), e4, if_neg (by rw [e5]; simp), e6]
      simp only
      rw [e7, hv, if_neg (by simp), if_neg (hl3 _), ih _ k hk2 hr (hl2 _)]
      simp [PieceD.field]
/-- What is put behind a value is taken apart as it was. -/
theorem params_law {main : List UInt8} {ps : List PieceD} (hm : tokB main = true) (hg : ∀ p ∈ ps, p.good) (hl : ps.length ≤ 20) (hv : valB (Lib.trimRightS (main ++ ps.flatMap PieceD.text) [32]) = true) :
    paramsF (Lib.trimRightS (main ++ ps.flatMap PieceD.text) [32]) = (lowL main, ps.map PieceD.field, 0) := by
  rw [trim_pieces hm hg] at hv ⊢
  have hlen : ps.length < (main ++ tailS ps).length + 2 := by
    have : ∀ r : List PieceD, r.length ≤ (tailS r).length := by
      intro r
      induction r with
      | nil => simp
      | cons p r ih => rw [tailS]; simp only [List.length_append, List.length_cons]; omega
    have := this ps
    rw [List.length_append]
    omega
  obtain ⟨mh, ml⟩ := tok_blank hm
  have h1 := cut_tail main ps (tok_not hm (by decide))
  have h2 := loop_law ps [] _ hlen hg (by simpa using hl)
  have h3 : Lib.trimS (main ++ gapP ps) [32] = main := by
    have := trim_pad [] main (gapP ps) [32] (by simp) (gap_blank ps) mh ml
    rw [List.nil_append] at this
    exact this
  unfold paramsF
  rw [hv, if_neg (by simp), h1]
  simp only
  rw [h2, if_pos rfl, h3]
  simp
end Go.Proofs.YtdhmmepcnladcaaDoor

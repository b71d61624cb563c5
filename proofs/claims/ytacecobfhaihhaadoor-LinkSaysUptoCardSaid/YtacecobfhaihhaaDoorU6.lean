import Derived.Test.YtacecobfhaihhaaDoorU5
import Derived.Deep.RegionHeld
import Derived.Test.YtacecobfhaihhaaDoorU3
import Derived.Lib.Join
import Derived.Lib.Split
import Derived.Test.YtacecobfhaihhaaDoorU1
import Derived.Lib.IndexMore
import Derived.Lib.LastIndexByte
import Derived.Lib.IndexLaws
import Derived.Test.YtacecobfhaihhaaDoorU2
import Derived.Lib.IndexAny
namespace Go.Proofs.YtacecobfhaihhaaDoor
open Go.RowKit
variable {P : Program}

/-! ### Operations of a region that draws, one by one -/
theorem wpOp_runv {k : Nat} {K : Act → World → Prop} {w : World} {ops : Array Oper} {o : Oper} {a : Act} {Q : Exit → Act → World → Prop} (hi : ops[k]? = some o) (hw : Region.wanted o (yielded ops a.tmps) = true) (v : Value) (w' : World) (hv : (execOp a.eval o).run P w = .ok (.value v) w') (h : K (a.put o.dst v) w') : wpOp P ops Q k K a w := by
  unfold wpOp
  simp only [hi, hw, if_true]
  refine .inl ?_
  unfold Oper.wp
  simp only [hv, Oper.upon]
  exact h
theorem wpOp_appRun {k : Nat} {K : Act → World → Prop} {w : World} {ops : Array Oper} {o : Oper} {a : Act} {Q : Exit → Act → World → Prop} (hi : ops[k]? = some o) (hw : Region.wanted o (yielded ops a.tmps) = true) (s x : Operand) (t : TypeId)
    (ho : o.op = .call { callee := .builtin .append, args := #[s, x], argTypes := #[t, t] }) (v1 v2 : Value) (hs : a.eval s = v1) (hx : a.eval x = v2) (v : Value) (w' : World) (hrun : (Builtin.append_ #[t, t] o.type #[v1, v2]).run P w = .ok v w') (h : K (a.put o.dst v) w') : wpOp P ops Q k K a w := by
  unfold wpOp
  simp only [hi, hw, if_true]
  refine .inl ?_
  unfold Oper.wp execOp
  simp only [ho, resolve, invoke, builtin, Sem.run_bind, Sem.run_pure, Result.andThen_ok, List.map_toArray, List.map_cons, List.map_nil, hs, hx, hrun]
  exact h
theorem wpOp_callF {k : Nat} {K : Act → World → Prop} {w : World} {ops : Array Oper} {o : Oper} {a : Act} {Q : Exit → Act → World → Prop} (hi : ops[k]? = some o) (hw : Region.wanted o (yielded ops a.tmps) = true) (f : FuncId) (args : Array Value)
    (hrun : (execOp a.eval o).run P w = .ok (.enter f args) w) (v : Value) (R : World → Prop) (hc : Calls P f args w fun e w' => e = .returned v ∧ R w') (h : ∀ w', R w' → K (a.put o.dst v) w') : wpOp P ops Q k K a w := by
  unfold wpOp
  simp only [hi, hw, if_true]
  refine .inl ?_
  unfold Oper.wp
  rw [hrun, Oper.upon_enter]
  refine hc.mono fun e w'' hh => ?_
  obtain ⟨rfl, hr⟩ := hh
  exact h w'' hr
theorem wpOp_callP {k : Nat} {K : Act → World → Prop} {w : World} {ops : Array Oper} {o : Oper} {a : Act} {Q : Exit → Act → World → Prop} (hi : ops[k]? = some o) (hw : Region.wanted o (yielded ops a.tmps) = true) (f : FuncId) (args : Array Value)
    (hrun : (execOp a.eval o).run P w = .ok (.enter f args) w) (Post : Ending → World → Prop) (hc : Calls P f args w Post) (h : ∀ e w', Post e w' → ∃ v, e = .returned v ∧ K (a.put o.dst v) w') : wpOp P ops Q k K a w := by
  unfold wpOp
  simp only [hi, hw, if_true]
  refine .inl ?_
  unfold Oper.wp
  rw [hrun, Oper.upon_enter]
  refine hc.mono fun e w'' hh => ?_
  obtain ⟨v, rfl, hk⟩ := h e w'' hh
  exact hk
/-- As wpList_app, and where the new slice lies. -/
theorem wpList_app2 {w : World} {ops : Array Oper} {rest : List Oper} {o : Oper} {a : Act} {Q : Exit → Act → World → Prop} (hgd : o.guard = none) (s x : Operand) (t : TypeId)
    (ho : o.op = .call { callee := .builtin .append, args := #[s, x], argTypes := #[t, t] })
    (base : Nat) (e : TypeId) (i : TypeInfo) (z : Value) (size bytes : Nat) (ht : P.underlying t = some (.slice e)) (hi : P.info? e = some i) (hz : i.zero = some z)
    (hsize : i.size = size) (hby : i.bytes = bytes) (hzs : z.cells.size = size) (hsz : 0 < size)
    (S : Option Addr) (n cs : Nat) (xs : List Value) (hs : a.eval s = .slice S n cs) (hown : w.ownsRow base e size (.slice S n cs) n xs)
    (B : Nat) (A : Option Addr) (m c : Nat) (news : List Value) (hx : a.eval x = .slice A m c) (hr : Sl w B size A m news) (h1 : ∀ u ∈ news, u.oneCell' = true)
    (h63 : n + m ≤ maxLen) (hbytes : (n + m) * bytes ≤ 140737488355328) (hbase : base ≤ w.heap.size)
    (h : ∀ S' c' w', w'.ownsRow base e size (.slice S' (n + m) c') (n + m) (xs ++ news) → Below base w w' → w.grownBy w' (Value.ownBlock (.slice S n cs)) → (Value.ownBlock (.slice S' (n + m) c') = Value.ownBlock (.slice S n cs) ∨ Value.ownBlock (.slice S' (n + m) c') = some w.heap.size) → wpList P ops Q rest (a.put o.dst (.slice S' (n + m) c')) w') : wpList P ops Q (o :: rest) a w := by
  refine wpList_plain hgd fun K hK => ?_
  obtain ⟨S', c', w', hrun, h2, h3, h4⟩ := run_app (P := P) w base t o.type e i z size bytes ht hi hz hsize hby hzs hsz S n cs xs hown B A m c news hr h1 h63 hbytes hbase
  unfold Oper.wp execOp
  simp only [ho, resolve, invoke, builtin, Sem.run_bind, Sem.run_pure, Result.andThen_ok, List.map_toArray, List.map_cons, List.map_nil, hs, hx, hrun]
  exact hK _ _ (h S' c' w' h2 ((Below.refl base w).grown h3 hbase (fun k hk => (hown.lt k hk).1)) h3 h4)
/-- A slice's block isn't a value's own. -/
def Apart (A : Option Addr) (v : Value) : Prop := ∀ b off, A = some ⟨b, off, none⟩ → v.ownBlock ≠ some b
theorem Sl.grown2 {w w' : World} {B size n : Nat} {A : Option Addr} {xs : List Value} (h : Sl w B size A n xs) (hB : B ≤ w.heap.size) {v : Value} (hg : w.grownBy w' v.ownBlock) (hr : Apart A v) : Sl w' B size A n xs := by
  refine ⟨h.1, fun hn => ?_⟩
  obtain ⟨b, off, e, hb, hc⟩ := h.2 hn
  exact ⟨b, off, e, hb, fun j u hu => (World.cell?_of_block (hg.block b (by omega) (fun e' => hr b off e e'.symm))).trans (hc j u hu)⟩
theorem Apart.next {w : World} {B size n : Nat} {A : Option Addr} {xs : List Value} {v v' : Value} (h : Apart A v) (hS : Sl w B size A n xs) (hB : B ≤ w.heap.size) (hn : 0 < n) (hv : v'.ownBlock = v.ownBlock ∨ v'.ownBlock = some w.heap.size) : Apart A v' := by
  intro b off e
  rcases hv with hv | hv
  · rw [hv]; exact h b off e
  · obtain ⟨b', off', e', hb', _⟩ := hS.2 hn
    rw [e] at e'
    injection e' with e'
    injection e' with e1 e2
    rw [hv]
    intro e3
    injection e3 with e3
    omega
end Go.Proofs.YtacecobfhaihhaaDoor

namespace Go.Proofs.YtacecobfhaihhaaDoor

theorem no60 {b : List UInt8} (h : b.any (fun c => c == 60) = false) : ∀ x ∈ b, pIs 60 x.toNat = false := by
  intro x hx
  have := List.any_eq_false.1 h x hx
  simp only [beq_iff_eq] at this
  simp only [pIs, beq_eq_false_iff_ne]
  intro e
  exact this (UInt8.toNat_inj.1 e)
theorem pcs_step (r : List UInt8) (h : r ≠ []) : pcs r = prep (stopT (pIs 60) r) (catP (stepP (stopD (pIs 60) r)).1 (pcs (stepP (stopD (pIs 60) r)).2)) := by
  have h1 := pcs_find r (r.length + 1) (by omega)
  have hlt := stepP_round r h
  unfold findP at h1
  rw [if_neg h, pcs_find _ r.length (by omega)] at h1
  exact (Option.some.inj h1).symm
theorem pcs_nil : pcs [] = raw [] := rfl
theorem pcs_ahead (b c : List UInt8) (h : b.any (fun c => c == 60) = false) : pcs (b ++ c) = prep b (pcs c) := by
  have hb := no60 h
  have hp := stopD_pre (pIs 60) b c hb
  by_cases hbc : b ++ c = []
  · have h1 : b = [] := by cases b with | nil => rfl | cons a b => simp at hbc
    subst h1
    rw [List.nil_append]
    rfl
  · rw [pcs_step _ hbc, hp.1, hp.2]
    by_cases hc : c = []
    · subst hc
      rw [pcs_nil]
      have e : stopD (pIs 60) [] = [] := rfl
      have e2 : stopT (pIs 60) [] = [] := rfl
      rw [e, e2, stepP_nil, pcs_nil]
      simp [prep, catP, catL, raw]
    · rw [pcs_step c hc]
      simp [prep]
theorem pcs_no60 (b : List UInt8) (h : b.any (fun c => c == 60) = false) : pcs b = raw b := by
  have := pcs_ahead b [] h
  rw [List.append_nil, pcs_nil] at this
  rw [this]
  simp [prep, raw]
def shiftL (k : Nat) (l : List LinkD) : List LinkD := l.map fun x => ⟨x.frm + k, x.til + k, x.text⟩
theorem linksL_shift (k : Nat) : ∀ (l : List (List UInt8 × List UInt8)) (pos : Nat), linksL (pos + k) l = shiftL k (linksL pos l)
  | [], _ => rfl
  | x :: l, pos => by
    have := linksL_shift k l (pos + x.1.length + x.2.length)
    simp only [linksL, shiftL, List.map_cons] at this ⊢
    rw [← this]
    congr 1
    · congr 1; omega
    · congr 1; omega
theorem find_ahead (b c : List UInt8) (h : b.any (fun c => c == 60) = false) : findB (b ++ c) = (findB c).map (shiftL b.length) := by
  rw [findB_eq, findB_eq, pcs_ahead b c h]
  have e : (prep b (pcs c)).2 = (pcs c).2 := rfl
  rw [e]
  split
  · rfl
  · rw [links_prep]
    unfold links
    rw [Option.map_some, ← linksL_shift]
    congr 2
    omega
theorem find_no60 (b : List UInt8) (h : b.any (fun c => c == 60) = false) : findB b = some [] := by
  rw [findB_eq, pcs_no60 b h]
  rfl
theorem picks_none : ∀ (l : List (List UInt8 × List UInt8)), picks l (List.replicate l.length []) = l.map (·.1)
  | [] => rfl
  | x :: l => by simp [picks, pick, List.replicate_succ, picks_none l]
/-- Where nothing is put all stays. -/
theorem put_none (b : List UInt8) (l : List LinkD) (hl : findB b = some l) (h4 : b.length ≤ 4000) : putB b (List.replicate l.length []) = (b, 0) := by
  have hf := findB_eq b
  rw [hl] at hf
  split at hf
  · cases hf
  · have hf := Option.some.inj hf
    unfold putB
    rw [hl]
    simp only
    have hany : (List.replicate l.length ([] : List UInt8)).any (fun t => t.any fun c => badPut c.toNat) = false := by
      rw [List.any_eq_false]
      intro x hx
      rw [(List.mem_replicate.1 hx).2]
      simp
    have hp : putL b 0 [] l (List.replicate l.length []) = b := by
      have hn : l.length = (pcs b).2.length := by rw [hf, links_len]
      rw [hn, hf, putL_weave b _ (by simp), picks_none]
      exact (pcs_app b).symm
    rw [if_neg (by simp), hany, hp, if_neg (by simp), if_neg (show ¬ 4000 < b.length by omega)]
end Go.Proofs.YtacecobfhaihhaaDoor

namespace Go.Proofs.YtacecobfhaihhaaDoor

/-! ### The links of a page, by places -/
def FL (n : Nat) (r : List UInt8) (out : List LinkD) : Option (List LinkD) := findL n r.length r out
theorem FL_eq {n : Nat} {r : List UInt8} {out : List LinkD} (h : r.length ≤ n) (ho : out.length ≤ 60) : FL n r out = if 60 < (out ++ links (n - r.length) (pcs r)).length then none else some (out ++ links (n - r.length) (pcs r)) :=
  findL_eq n r.length r out (n - r.length) (pcs r) (by omega) (pcs_find r _ (Nat.le_refl _)) ho
theorem FL_nil (n : Nat) (out : List LinkD) : FL n [] out = some out := rfl
theorem FL_find (b : List UInt8) : findB b = FL b.length b [] := rfl
theorem FL_other {n : Nat} {c : UInt8} {r : List UInt8} {out : List LinkD} (hc : c ≠ 60) (h : r.length + 1 ≤ n) (ho : out.length ≤ 60) : FL n (c :: r) out = FL n r out := by
  have e : pcs (c :: r) = prep [c] (pcs r) := by
    have := pcs_ahead [c] r (by simpa using hc)
    simpa using this
  rw [FL_eq (by simpa using h) ho, FL_eq (by omega) ho, e, links_prep]
  have : n - (c :: r).length + [c].length = n - r.length := by simp; omega
  rw [this]
theorem stepL_lt (n : Nat) (r : List UInt8) (out : List LinkD) (h : r.length + 1 ≤ n) : (stepL n (60 :: r) out).1.length ≤ r.length := by
  rw [stepL_eq n (60 :: r) out (n - (r.length + 1)) (by simp; omega)]
  exact stepP_lt 60 r
theorem FL_step {n : Nat} {r : List UInt8} {out : List LinkD} (h : r.length + 1 ≤ n) (ho : out.length ≤ 60) :
    FL n (60 :: r) out = if 60 < (stepL n (60 :: r) out).2.length then none else FL n (stepL n (60 :: r) out).1 (stepL n (60 :: r) out).2 := by
  have hs := stop_app (pIs 60) (60 :: r)
  have h1 : stopD (pIs 60) (60 :: r) = 60 :: r := (stopD_at (pIs 60) 60 r (by decide)).1
  have h2 : stopT (pIs 60) (60 :: r) = [] := (stopD_at (pIs 60) 60 r (by decide)).2
  have e := pcs_step (60 :: r) (by simp)
  rw [h1, h2] at e
  have hlt := stepP_lt 60 r
  have hl := congrArg List.length (stepP_app (60 :: r))
  rw [List.length_append, List.length_cons] at hl
  rw [FL_eq (by simpa using h) ho, e, links_prep, links_catP, stepL_eq n (60 :: r) out (n - (r.length + 1)) (by simp; omega)]
  simp only [List.length_nil, Nat.add_zero, List.length_cons]
  have e2 : n - (r.length + 1) + (weave (stepP (60 :: r)).1 (vals (stepP (60 :: r)).1)).length = n - (stepP (60 :: r)).2.length := by omega
  rw [e2, ← List.append_assoc]
  by_cases h60 : 60 < (out ++ links (n - (r.length + 1)) (stepP (60 :: r)).1).length
  · rw [if_pos h60, if_pos (by rw [List.length_append]; omega)]
  · rw [if_neg h60, FL_eq (by omega) (by omega)]

/-! ### The attributes of a tag -/
theorem attrs_fuel (n : Nat) : ∀ (f g : Nat) (r : List UInt8) (seen : List (List UInt8)) (ls : List LinkD), r.length < f → r.length < g → attrsL n f r seen ls = attrsL n g r seen ls
  | 0, _, _, _, _, h, _ => absurd h (by omega)
  | _, 0, _, _, _, _, h => absurd h (by omega)
  | f + 1, g + 1, r, seen, ls, h1, h2 => by
    have hl := stopD_len pAttr r
    rw [attrsL, attrsL]
    cases hd : stopD pAttr r with
    | nil => rfl
    | cons c r2 =>
      rw [hd, List.length_cons] at hl
      simp only
      by_cases hc : c = 62
      · rw [if_pos hc, if_pos hc]
      · rw [if_neg hc, if_neg hc]
        have h3 := stopD_len pEq r2
        have h4 := stopD_len pNotSp (stopD pEq r2)
        have hv : (valueR (stopD pNotSp (stopD pEq r2)).tail).2.2.length ≤ (stopD pNotSp (stopD pEq r2)).tail.length := by
          rw [(valueR_valP _).1]; exact valP_len _
        have ht : (stopD pNotSp (stopD pEq r2)).tail.length ≤ (stopD pNotSp (stopD pEq r2)).length := by simp
        rw [attrs_fuel n f g _ _ _ (by omega) (by omega), attrs_fuel n f g _ _ _ (by omega) (by omega)]
def AL (n : Nat) (r : List UInt8) (seen : List (List UInt8)) (ls : List LinkD) : Option (List UInt8 × List LinkD) := attrsL n (r.length + 1) r seen ls
theorem AL_nil (n : Nat) (seen : List (List UInt8)) (ls : List LinkD) : AL n [] seen ls = none := rfl
theorem AL_gap {n : Nat} {c : UInt8} {r : List UInt8} {seen : List (List UInt8)} {ls : List LinkD} (hc : pAttr c.toNat = false) : AL n (c :: r) seen ls = AL n r seen ls := by
  unfold AL
  rw [List.length_cons]
  have h := (stopD_pre pAttr [c] r (by simpa using hc)).1
  rw [List.singleton_append] at h
  rw [attrs_fuel n (r.length + 1) (r.length + 1 + 1) r seen ls (by omega) (by omega), attrsL, attrsL, h]
theorem AL_end {n : Nat} {r : List UInt8} {seen : List (List UInt8)} {ls : List LinkD} : AL n (62 :: r) seen ls = some (r, ls) := by
  unfold AL
  rw [attrsL, (stopD_at pAttr 62 r (by decide)).1]
  simp
theorem AL_go {n : Nat} {c : UInt8} {r : List UInt8} {seen : List (List UInt8)} {ls : List LinkD} (h : pAttr c.toNat = true) (hc : c ≠ 62) (h1 : (stopD pNotSp (stopD pEq r)).head? ≠ some 61) :
    AL n (c :: r) seen ls = AL n (stopD pEq r) (lowL (c :: stopT pEq r) :: seen) ls := by
  unfold AL
  have h3 := stopD_len pEq r
  rw [attrsL, (stopD_at pAttr c r h).1]
  simp only
  rw [if_neg hc, if_neg h1]
  exact attrs_fuel n _ _ _ _ _ (by simp; omega) (by omega)
theorem AL_is {n : Nat} {c : UInt8} {r r4 : List UInt8} {seen : List (List UInt8)} {ls : List LinkD} (h : pAttr c.toNat = true) (hc : c ≠ 62) (h1 : stopD pNotSp (stopD pEq r) = 61 :: r4) :
    AL n (c :: r) seen ls = AL n (valueR r4).2.2 (lowL (c :: stopT pEq r) :: seen) (addLink n (lowL (c :: stopT pEq r)) seen (valueR r4) ls) := by
  unfold AL
  have h3 := stopD_len pEq r
  have h4 := stopD_len pNotSp (stopD pEq r)
  rw [h1, List.length_cons] at h4
  have hv : (valueR r4).2.2.length ≤ r4.length := by rw [(valueR_valP _).1]; exact valP_len _
  rw [attrsL, (stopD_at pAttr c r h).1]
  simp only
  rw [if_neg hc, h1, if_pos (by rfl)]
  have e : (61 :: r4).tail = r4 := rfl
  rw [e]
  exact attrs_fuel n _ _ _ _ _ (by rw [List.length_cons]; omega) (by omega)
theorem tagL_AL (n : Nat) (r : List UInt8) (shut : Bool) (out : List LinkD) : tagL n r shut out = match AL n (stopD pName r) [] [] with
    | none => ([], out)
    | some (r', ls) => (r', if shut then out else out ++ ls) := rfl
end Go.Proofs.YtacecobfhaihhaaDoor

namespace Go.Proofs.YtacecobfhaihhaaDoor

/-! ### Pieces for the document's way to find links -/
theorem join_splitK (sep new : List UInt8) : ∀ (k : Nat) (s : List UInt8), Lib.splitK sep 0 k s ≠ [] ∧ Lib.join (Lib.splitK sep 0 k s) new = Lib.replaceK sep new k s
  | 0, s => ⟨by simp [Lib.splitK], by rw [Lib.splitK, Lib.replaceK, Lib.join_one]⟩
  | k + 1, s => by
    rw [Lib.splitK, Lib.replaceK]
    by_cases h : (Lib.index s sep == -1) = true
    · rw [if_pos h, if_pos h]
      exact ⟨by simp, Lib.join_one _ _⟩
    · rw [if_neg h, if_neg h, Nat.add_zero]
      obtain ⟨h1, h2⟩ := join_splitK sep new k (s.drop ((Lib.index s sep).toNat + sep.length))
      refine ⟨by simp, ?_⟩
      rw [← h2]
      cases hs : Lib.splitK sep 0 k (s.drop ((Lib.index s sep).toNat + sep.length)) with
      | nil => exact absurd hs h1
      | cons x r =>
        rw [Lib.join_cons, Lib.join_cons]
        simp [Lib.joinTail]
theorem unamp_join (l : List UInt8) : Lib.join (Lib.split l [38, 97, 109, 112, 59]) [38] = unamp l := by
  unfold unamp Lib.replaceAll Lib.replace Lib.split
  rw [if_neg (by decide), (join_splitK _ _ _ _).2]
  have : Lib.replaceNum l [38, 97, 109, 112, 59] (-1) = Lib.count l [38, 97, 109, 112, 59] := by
    unfold Lib.replaceNum
    rw [if_pos (.inl (by decide))]
  rw [this]
theorem letter_small : ∀ b : Fin 256, ([97, 98, 99, 100, 101, 102, 103, 104, 105, 106, 107, 108, 109, 110, 111, 112, 113, 114, 115, 116, 117, 118, 119, 120, 121, 122] : List UInt8).contains (lowB (UInt8.ofNat b.val)) = isLet b.val := by decide +kernel
theorem space_small : ∀ b : Fin 256, ([32, 9, 13, 10, 12] : List UInt8).contains (UInt8.ofNat b.val) = isSp b.val := by decide +kernel
/-- A loop that goes on till a byte: where it stands. -/
theorem drop_stop (p : Nat → Bool) (s : List UInt8) (i : Nat) (h : i < s.length) (hp : p (nth s i) = false) : stopD p (s.drop i) = stopD p (s.drop (i + 1)) ∧ stopT p (s.drop i) = (s.getD i 0) :: stopT p (s.drop (i + 1)) := by
  have e : s.drop i = s.getD i 0 :: s.drop (i + 1) := by
    rw [List.drop_eq_getElem_cons h]
    simp [List.getD, h]
  have hp' : p (s.getD i 0).toNat = false := hp
  rw [e]
  have h2 := stopD_pre p [s.getD i 0] (s.drop (i + 1)) (by intro b hb; simp only [List.mem_singleton] at hb; rw [hb]; exact hp')
  exact h2
theorem drop_at (p : Nat → Bool) (s : List UInt8) (i : Nat) (h : i < s.length) (hp : p (nth s i) = true) : stopD p (s.drop i) = s.drop i ∧ stopT p (s.drop i) = [] := by
  have e : s.drop i = s.getD i 0 :: s.drop (i + 1) := by
    rw [List.drop_eq_getElem_cons h]
    simp [List.getD, h]
  rw [e]
  exact stopD_at p _ _ hp
theorem drop_end (p : Nat → Bool) (s : List UInt8) : stopD p (s.drop s.length) = [] ∧ stopT p (s.drop s.length) = [] := by
  rw [List.drop_length]
  exact ⟨rfl, rfl⟩
/-- How far a stop is. -/
def toP (p : Nat → Bool) (s : List UInt8) (i : Nat) : Nat := i + (stopT p (s.drop i)).length
theorem toP_step (p : Nat → Bool) (s : List UInt8) (i : Nat) (h : i < s.length) (hp : p (nth s i) = false) : toP p s i = toP p s (i + 1) := by
  unfold toP
  rw [(drop_stop p s i h hp).2, List.length_cons]
  omega
theorem toP_at (p : Nat → Bool) (s : List UInt8) (i : Nat) (h : i < s.length) (hp : p (nth s i) = true) : toP p s i = i := by
  unfold toP
  rw [(drop_at p s i h hp).2]
  rfl
theorem toP_end (p : Nat → Bool) (s : List UInt8) : toP p s s.length = s.length := by
  unfold toP
  rw [(drop_end p s).2]
  rfl
theorem toP_drop (p : Nat → Bool) (s : List UInt8) (i : Nat) : s.drop (toP p s i) = stopD p (s.drop i) := by
  unfold toP
  rw [← List.drop_drop]
  have h := stop_app p (s.drop i)
  generalize stopT p (s.drop i) = a at h ⊢
  generalize stopD p (s.drop i) = b at h ⊢
  rw [← h, List.drop_left]
theorem toP_le (p : Nat → Bool) (s : List UInt8) (i : Nat) (h : i ≤ s.length) : i ≤ toP p s i ∧ toP p s i ≤ s.length := by
  have := stopT_len p (s.drop i)
  rw [List.length_drop] at this
  unfold toP
  omega
theorem toP_take (p : Nat → Bool) (s : List UInt8) (i : Nat) : (s.take (toP p s i)).drop i = stopT p (s.drop i) := by
  unfold toP
  rw [List.drop_take, Nat.add_sub_cancel_left]
  have h := stop_app p (s.drop i)
  generalize stopT p (s.drop i) = a at h ⊢
  generalize stopD p (s.drop i) = b at h ⊢
  rw [← h, List.take_left]
end Go.Proofs.YtacecobfhaihhaaDoor

namespace Go.Proofs.YtacecobfhaihhaaDoor

/-! ### The document's steps, by places -/
theorem drop_cons (l : List UInt8) (i : Nat) (h : i < l.length) : l.drop i = l.getD i 0 :: l.drop (i + 1) := by
  rw [List.drop_eq_getElem_cons h]
  simp [List.getD, h]
theorem getD_is (l : List UInt8) (i k : Nat) (hk : k < 256) (h : nth l i = k) : l.getD i 0 = UInt8.ofNat k := by
  apply UInt8.toNat_inj.1
  rw [UInt8.toNat_ofNat']
  unfold nth at h
  omega
theorem getD_not (l : List UInt8) (i k : Nat) (hk : k < 256) (h : nth l i ≠ k) : l.getD i 0 ≠ UInt8.ofNat k := by
  intro e
  apply h
  unfold nth
  rw [e, UInt8.toNat_ofNat']
  omega
def letP (s : List UInt8) (i : Nat) : Bool := decide (i < s.length) && isLet (nth s i)
section
variable {l : List UInt8} {i : Nat} {out : List LinkD}
theorem FL_skip (h : i < l.length) (h60 : nth l i ≠ 60) (ho : out.length ≤ 60) : FL l.length (l.drop i) out = FL l.length (l.drop (i + 1)) out := by
  rw [drop_cons l i h]
  refine FL_other (getD_not l i 60 (by omega) h60) ?_ ho
  rw [List.length_drop]
  omega
theorem FL_lt (h : i < l.length) (h60 : nth l i = 60) (ho : out.length ≤ 60) :
    FL l.length (l.drop i) out = if 60 < (stepL l.length (l.drop i) out).2.length then none else FL l.length (stepL l.length (l.drop i) out).1 (stepL l.length (l.drop i) out).2 := by
  have e : l.drop i = 60 :: l.drop (i + 1) := by rw [drop_cons l i h, getD_is l i 60 (by omega) h60]; rfl
  rw [e]
  refine FL_step ?_ ho
  rw [List.length_drop]
  omega
theorem FL_com (h : i < l.length) (h60 : nth l i = 60) (ho : out.length ≤ 60) (hp : Lib.hasPrefix (l.drop i) [60, 33, 45, 45] = true) : FL l.length (l.drop i) out = FL l.length (pastL [45, 45, 62] (l.drop (i + 4))) out := by
  rw [FL_lt h h60 ho]
  unfold stepL
  rw [if_pos hp]
  simp only
  rw [if_neg (by omega), List.drop_drop]
theorem FL_bang (h : i < l.length) (h60 : nth l i = 60) (ho : out.length ≤ 60) (hp : Lib.hasPrefix (l.drop i) [60, 33, 45, 45] = false) (hp2 : (Lib.hasPrefix (l.drop i) [60, 33] || Lib.hasPrefix (l.drop i) [60, 63]) = true) : FL l.length (l.drop i) out = FL l.length (pastL [62] (l.drop i)) out := by
  have key : stepL l.length (l.drop i) out = (pastL [62] (l.drop i), out) := by
    unfold stepL
    rw [if_neg (by simp [hp]), if_pos hp2]
  rw [FL_lt h h60 ho, key]
  simp only
  rw [if_neg (by omega)]
theorem prefix_com (h : Lib.hasPrefix (l.drop i) [60, 33, 45, 45] = true) : i + 4 ≤ l.length := by
  have := (List.isPrefixOf_iff_prefix.1 h).length_le
  simp only [List.length_cons, List.length_nil, List.length_drop] at this
  omega
theorem nth_one (h : i + 1 < l.length) : (Lib.hasPrefix (l.drop i) [60, 47] = true) ↔ (nth l i = 60 ∧ nth l (i + 1) = 47) := by
  have e : l.drop i = l.getD i 0 :: l.getD (i + 1) 0 :: l.drop (i + 2) := by rw [drop_cons l i (by omega), drop_cons l (i + 1) h]
  rw [e]
  show ((60 : UInt8) == l.getD i 0 && ((47 : UInt8) == l.getD (i + 1) 0 && List.isPrefixOf [] _)) = true ↔ _
  rw [Bool.and_eq_true, Bool.and_eq_true]
  constructor
  · rintro ⟨h1, h2, _⟩
    have h1 := eq_of_beq h1
    have h2 := eq_of_beq h2
    unfold nth
    rw [← h1, ← h2]
    exact ⟨rfl, rfl⟩
  · rintro ⟨h1, h2⟩
    rw [getD_is l i 60 (by omega) h1, getD_is l (i + 1) 47 (by omega) h2]
    simp
theorem step_tag (h60 : nth l i = 60) (hp : Lib.hasPrefix (l.drop i) [60, 33, 45, 45] = false) (hp2 : (Lib.hasPrefix (l.drop i) [60, 33] || Lib.hasPrefix (l.drop i) [60, 63]) = false) :
    stepL l.length (l.drop i) out = if letP l (i + 1) then tagL l.length (l.drop (i + 1)) false out else if (Lib.hasPrefix (l.drop i) [60, 47] && letP l (i + 2)) then tagL l.length (l.drop (i + 2)) true out else (l.drop (i + 1), out) := by
  unfold stepL
  rw [if_neg (by simp [hp]), if_neg (by simp [hp2]), List.drop_drop, List.drop_drop, nth_drop, nth_drop, List.length_drop]
  have e1 : (decide (1 < l.length - i) && isLet (nth l (i + 1))) = letP l (i + 1) := by
    unfold letP
    congr 1
    rw [decide_eq_decide]
    omega
  rw [e1]
  have e2 : (decide (2 < l.length - i) && nth l (i + 1) == 47 && isLet (nth l (i + 2))) = (Lib.hasPrefix (l.drop i) [60, 47] && letP l (i + 2)) := by
    unfold letP
    by_cases h2 : i + 2 < l.length
    · have d1 : decide (2 < l.length - i) = true := by simp; omega
      have d2 : decide (i + 2 < l.length) = true := by simpa using h2
      rw [d1, d2, Bool.true_and, Bool.true_and]
      congr 1
      have hn := nth_one (l := l) (i := i) (by omega)
      rw [Bool.eq_iff_iff, hn]
      simp [h60]
    · have d1 : decide (2 < l.length - i) = false := by simp; omega
      have d2 : decide (i + 2 < l.length) = false := by simpa using h2
      rw [d1, d2]
      simp
  rw [e2]
theorem let_one (_h60 : nth l i = 60) (hp : (Lib.hasPrefix (l.drop i) [60, 47] && letP l (i + 2)) = true) : letP l (i + 1) = false := by
  rw [Bool.and_eq_true] at hp
  have h2 : i + 2 < l.length := by
    have := hp.2
    unfold letP at this
    rw [Bool.and_eq_true, decide_eq_true_eq] at this
    exact this.1
  have h3 := ((nth_one (by omega)).1 hp.1).2
  unfold letP
  rw [h3]
  simp [isLet]
theorem FL_none (h : i < l.length) (h60 : nth l i = 60) (ho : out.length ≤ 60) (hp : Lib.hasPrefix (l.drop i) [60, 33, 45, 45] = false) (hp2 : (Lib.hasPrefix (l.drop i) [60, 33] || Lib.hasPrefix (l.drop i) [60, 63]) = false)
    (hs : (Lib.hasPrefix (l.drop i) [60, 47] && letP l (i + 2)) = false) (hl : letP l (i + 1) = false) : FL l.length (l.drop i) out = FL l.length (l.drop (i + 1)) out := by
  have key : stepL l.length (l.drop i) out = (l.drop (i + 1), out) := by
    rw [step_tag h60 hp hp2, if_neg (by simp [hl]), if_neg (by simp [hs])]
  rw [FL_lt h h60 ho, key]
  simp only
  rw [if_neg (by omega)]
/-- What a tag leaves. -/
def tagX (n : Nat) (R : Option (List UInt8 × List LinkD)) (shut : Bool) (out : List LinkD) : Option (List LinkD) :=
  match R with
  | none => some out
  | some (r', ls) => if 60 < (if shut then out else out ++ ls).length then none else FL n r' (if shut then out else out ++ ls)
theorem FL_tag (h : i < l.length) (h60 : nth l i = 60) (ho : out.length ≤ 60) (hp : Lib.hasPrefix (l.drop i) [60, 33, 45, 45] = false) (hp2 : (Lib.hasPrefix (l.drop i) [60, 33] || Lib.hasPrefix (l.drop i) [60, 63]) = false)
    (shut : Bool) (hs : (Lib.hasPrefix (l.drop i) [60, 47] && letP l (i + 2)) = shut) (hl : shut = true ∨ letP l (i + 1) = true) (j : Nat) (hj : j = if shut then i + 2 else i + 1) :
    FL l.length (l.drop i) out = tagX l.length (AL l.length (l.drop (toP pName l j)) [] []) shut out := by
  have key : stepL l.length (l.drop i) out = tagL l.length (l.drop j) shut out := by
    rw [step_tag h60 hp hp2]
    cases shut with
    | true => rw [if_neg (by simp [let_one h60 hs]), if_pos hs, hj, if_pos rfl]
    | false =>
      rcases hl with hl | hl
      · cases hl
      · rw [if_pos hl, hj, if_neg (by simp)]
  rw [FL_lt h h60 ho, key, tagL_AL, toP_drop]
  unfold tagX
  cases AL l.length (stopD pName (l.drop j)) [] [] with
  | none =>
    simp only
    rw [if_neg (by omega), FL_nil]
  | some x => rfl
section
variable {n : Nat} {seen : List (List UInt8)} {ls : List LinkD}
theorem AL_skip (h : i < l.length) (hp : pAttr (nth l i) = false) : AL n (l.drop i) seen ls = AL n (l.drop (i + 1)) seen ls := by
  rw [drop_cons l i h]
  exact AL_gap hp
theorem AL_stop (h : i < l.length) (h62 : nth l i = 62) : AL n (l.drop i) seen ls = some (l.drop (i + 1), ls) := by
  have e : l.drop i = 62 :: l.drop (i + 1) := by rw [drop_cons l i h, getD_is l i 62 (by omega) h62]; rfl
  rw [e]
  exact AL_end
theorem name_is (h : i < l.length) (_hp : pEq (nth l i) = false ∨ True) (j : Nat) (hj : j = toP pEq l (i + 1)) : (l.take j).drop i = l.getD i 0 :: stopT pEq (l.drop (i + 1)) := by
  have hle := toP_le pEq l (i + 1) (by omega)
  have e : l.take j = (l.take (i + 1)) ++ stopT pEq (l.drop (i + 1)) := by
    have h1 := toP_take pEq l (i + 1)
    rw [← hj] at h1
    rw [← h1]
    have h2 : (l.take j).take (i + 1) = l.take (i + 1) := by rw [List.take_take]; congr 1; omega
    rw [← h2, List.take_append_drop]
  rw [e, List.take_add_one, List.append_assoc, List.drop_append_of_le_length (by rw [List.length_take]; omega), List.drop_of_length_le (by rw [List.length_take]; omega)]
  simp [List.getD, h]
theorem AL_bare (h : i < l.length) (hp : pAttr (nth l i) = true) (h62 : nth l i ≠ 62) (j k : Nat) (hj : j = toP pEq l (i + 1)) (hk : k = toP pNotSp l j) (hno : ¬ (k < l.length ∧ nth l k = 61)) :
    AL n (l.drop i) seen ls = AL n (l.drop j) (lowL ((l.take j).drop i) :: seen) ls := by
  have hle := toP_le pEq l (i + 1) (by omega)
  have hle2 := toP_le pNotSp l j (by omega)
  rw [name_is h (.inr trivial) j hj, hj, toP_drop, drop_cons l i h]
  refine AL_go hp (getD_not l i 62 (by omega) h62) ?_
  rw [← toP_drop pEq, ← hj, ← toP_drop pNotSp, ← hk]
  intro hh
  apply hno
  have hkl : k < l.length := by
    rcases Nat.lt_or_ge k l.length with h' | h'
    · exact h'
    · rw [List.drop_of_length_le h'] at hh; cases hh
  refine ⟨hkl, ?_⟩
  rw [drop_cons l k hkl] at hh
  injection hh with hh
  unfold nth
  rw [hh]
  rfl
theorem AL_val (h : i < l.length) (hp : pAttr (nth l i) = true) (h62 : nth l i ≠ 62) (j k : Nat) (hj : j = toP pEq l (i + 1)) (hk : k = toP pNotSp l j) (hkl : k < l.length) (h61 : nth l k = 61) :
    AL n (l.drop i) seen ls = AL n (valueR (l.drop (k + 1))).2.2 (lowL ((l.take j).drop i) :: seen) (addLink n (lowL ((l.take j).drop i)) seen (valueR (l.drop (k + 1))) ls) := by
  rw [name_is h (.inr trivial) j hj, drop_cons l i h]
  refine AL_is hp (getD_not l i 62 (by omega) h62) ?_
  rw [← toP_drop pEq, ← hj, ← toP_drop pNotSp, ← hk, drop_cons l k hkl, getD_is l k 61 (by omega) h61]
  rfl
end
/-- A value between quotes. -/
theorem value_quo (k2 T : Nat) (k : Nat) (hk2 : k2 = toP pNotSp l (k + 1)) (hl : k2 < l.length) (hq : nth l k2 = 34 ∨ nth l k2 = 39) (hT : T = toP (pIs (nth l k2)) l (k2 + 1)) :
    valueR (l.drop (k + 1)) = (l.drop (k2 + 1), l.drop T, l.drop (min (T + 1) l.length)) := by
  have e : stopD pNotSp (l.drop (k + 1)) = l.getD k2 0 :: l.drop (k2 + 1) := by rw [← toP_drop, ← hk2, drop_cons l k2 hl]
  have hc : l.getD k2 0 = 34 ∨ l.getD k2 0 = 39 := by
    rcases hq with hq | hq
    · exact .inl (getD_is l k2 34 (by omega) hq)
    · exact .inr (getD_is l k2 39 (by omega) hq)
  unfold valueR
  rw [e]
  simp only
  rw [if_pos hc]
  have e2 : stopD (pIs (l.getD k2 0).toNat) (l.drop (k2 + 1)) = l.drop T := by rw [hT, toP_drop]; rfl
  rw [e2, List.drop_drop]
  congr 2
  rcases Nat.lt_or_ge T l.length with h' | h'
  · rw [Nat.min_eq_left (by omega)]
  · rw [Nat.min_eq_right (by omega), List.drop_of_length_le (by omega), List.drop_length]
theorem value_bare (k2 T : Nat) (k : Nat) (hk2 : k2 = toP pNotSp l (k + 1)) (hq : ¬ (k2 < l.length ∧ (nth l k2 = 34 ∨ nth l k2 = 39))) (hT : T = toP pVal l k2) (hle : k2 ≤ l.length) :
    valueR (l.drop (k + 1)) = (l.drop k2, l.drop T, l.drop T) := by
  rcases Nat.lt_or_ge k2 l.length with hl | hl
  · have e : stopD pNotSp (l.drop (k + 1)) = l.getD k2 0 :: l.drop (k2 + 1) := by rw [← toP_drop, ← hk2, drop_cons l k2 hl]
    have hc : ¬ (l.getD k2 0 = 34 ∨ l.getD k2 0 = 39) := by
      intro hc
      apply hq
      refine ⟨hl, ?_⟩
      unfold nth
      rcases hc with hc | hc <;> rw [hc]
      · exact .inl rfl
      · exact .inr rfl
    unfold valueR
    rw [e]
    simp only
    rw [if_neg hc, ← drop_cons l k2 hl, ← toP_drop, ← hT]
  · have e : stopD pNotSp (l.drop (k + 1)) = [] := by rw [← toP_drop, ← hk2, List.drop_of_length_le hl]
    have hT2 : T = l.length := by
      have := toP_le pVal l k2 hle
      omega
    unfold valueR
    rw [e]
    simp only
    rw [hT2, List.drop_length, List.drop_of_length_le hl]
/-- A link of a value, by places. -/
theorem add_at {seen : List (List UInt8)} {ls : List LinkD} {nm : List UInt8} {r3 : List UInt8} (a T : Nat) (h1 : a ≤ T) (h2 : T ≤ l.length) :
    addLink l.length nm seen (l.drop a, l.drop T, r3) ls = if leadsB nm && !seen.contains nm then ls ++ [⟨a, T, unamp ((l.take T).drop a)⟩] else ls := by
  unfold addLink
  simp only [List.length_drop]
  have e1 : l.length - (l.length - a) = a := by omega
  have e2 : l.length - (l.length - T) = T := by omega
  have e3 : (l.drop a).take (l.length - a - (l.length - T)) = (l.take T).drop a := by
    rw [List.drop_take]
    congr 1
    omega
  rw [e1, e2, e3]
end
end Go.Proofs.YtacecobfhaihhaaDoor

namespace Go.Proofs.YtacecobfhaihhaaDoor

/-! ### An address, as data; what package url computes -/
structure UrlD where
  scheme : List UInt8
  hasHost : Bool
  host : List UInt8
  path : List UInt8
  hasQuery : Bool
  query : List UInt8
  hasFrag : Bool
  frag : List UInt8
def UrlD.cells (u : UrlD) : List Value := [str u.scheme, .bool u.hasHost, str u.host, str u.path, .bool u.hasQuery, str u.query, .bool u.hasFrag, str u.frag]
def UrlD.val (u : UrlD) : Value := .agg #[str u.scheme, .bool u.hasHost, str u.host, str u.path, .bool u.hasQuery, str u.query, .bool u.hasFrag, str u.frag]
def noU : List UInt8 := [34, 60, 62, 92, 94, 96, 123, 124, 125]
def charU (x : Nat) : Bool := decide (32 < x) && decide (x ≤ 126) && decide (Lib.indexByte noU (UInt8.ofNat x) < 0)
def badU (but : List UInt8) (x : Nat) : Bool := !charU x || decide (0 ≤ Lib.indexByte but (UInt8.ofNat x))
def wordU (s but : List UInt8) : Bool := !s.any (fun b => badU but b.toNat)
def schC (x : Nat) : Bool := (decide (97 ≤ x) && decide (x ≤ 122)) || (decide (48 ≤ x) && decide (x ≤ 57)) || x == 43 || x == 45 || x == 46
def schA (x : Nat) : Bool := decide (97 ≤ x) && decide (x ≤ 122)
def schemeU : List UInt8 → Bool
  | [] => true
  | c :: r => schA c.toNat && r.all (fun b => schC b.toNat)
theorem lowC_scheme (s : List UInt8) : schemeU s = (s.all (fun b => schC b.toNat) && (s == [] || schA (nth s 0))) := by
  cases s with
  | nil => rfl
  | cons c r =>
    show (schA c.toNat && r.all _) = ((schC c.toNat && r.all _) && (false || schA c.toNat))
    cases h : schA c.toNat with
    | false => simp
    | true =>
      have : schC c.toNat = true := by unfold schA at h; unfold schC; simp only [h, Bool.true_or]
      simp [this]
/-- url.text. -/
def textU (u : UrlD) : List UInt8 :=
  (if u.scheme = [] then [] else u.scheme ++ [58]) ++ (if u.hasHost then [47, 47] ++ u.host else []) ++ u.path ++ (if u.hasQuery then 63 :: u.query else []) ++ (if u.hasFrag then 35 :: u.frag else [])
def okU (u : UrlD) : Bool := schemeU u.scheme && (wordU u.host [47, 63, 35] && ((u.host == lowL u.host) && (wordU u.path [63, 35] && (wordU u.query [35] && wordU u.frag [35]))))
def formA (u : UrlD) : Bool := (!u.hasHost && !(u.host == [])) || (!u.hasQuery && !(u.query == [])) || (!u.hasFrag && !(u.frag == []))
def formB (u : UrlD) : Bool := if u.hasHost then !(u.path == []) && !(nth u.path 0 == 47) else Lib.hasPrefix u.path [47, 47] || ((u.scheme == []) && decide (0 ≤ Lib.indexByte (Lib.cut u.path [47]).1 58))
/-- url.Check behind its first test. -/
def chkU (u : UrlD) : Nat := if okU u = false then 1 else if formA u || formB u then 4 else if 120 < (textU u).length then 2 else 0
def longU (u : UrlD) : Bool := decide (120 < u.scheme.length) || decide (120 < u.host.length) || decide (120 < u.path.length) || decide (120 < u.query.length) || decide (120 < u.frag.length)
/-- url.Check. -/
def checkU (u : UrlD) : Nat := if longU u then 2 else chkU u
def zeroU : UrlD := ⟨[], false, [], [], false, [], false, []⟩
def stopCS (b : UInt8) : Bool := b != 58 && b != 47
/-- The scheme, and what is behind it. -/
def schemeP (s : List UInt8) : Option (List UInt8 × List UInt8) :=
  if (s.dropWhile stopCS).head? = some 58 then
    (if (s.takeWhile stopCS) = [] ∨ schemeU (lowL (s.takeWhile stopCS)) = false then none else some (lowL (s.takeWhile stopCS), (s.dropWhile stopCS).tail))
  else some ([], s)
def not47 (b : UInt8) : Bool := b != 47
def hostP (s : List UInt8) : Bool × List UInt8 × List UInt8 :=
  if Lib.hasPrefix s [47, 47] then (true, lowL ((s.drop 2).takeWhile not47), (s.drop 2).dropWhile not47) else (false, [], s)
def partsU (s : List UInt8) : Option UrlD :=
  match schemeP (Lib.cut (Lib.cut s [35]).1 [63]).1 with
  | none => none
  | some (sc, r) => some ⟨sc, (hostP r).1, (hostP r).2.1, (hostP r).2.2, (Lib.cut (Lib.cut s [35]).1 [63]).2.2, (Lib.cut (Lib.cut s [35]).1 [63]).2.1, (Lib.cut s [35]).2.2, (Lib.cut s [35]).2.1⟩
/-- url.Parse. -/
def readU (s : List UInt8) : UrlD × Nat :=
  if 120 < s.length then (zeroU, 2) else
  match partsU s with
  | none => (zeroU, 1)
  | some u => if checkU u = 0 then (u, 0) else (zeroU, checkU u)
/-- url.Print. -/
def printU (u : UrlD) : List UInt8 × Nat := if checkU u = 0 then (textU u, 0) else ([], checkU u)

/-! ### Segments -/
def joinC (c : UInt8) : List (List UInt8) → List UInt8
  | [] => []
  | [x] => x
  | x :: y :: r => x ++ c :: joinC c (y :: r)
def consHead (b : UInt8) : List (List UInt8) → List (List UInt8)
  | [] => [[b]]
  | x :: r => (b :: x) :: r
def splitC (c : UInt8) : List UInt8 → List (List UInt8)
  | [] => [[]]
  | b :: l => if b = c then [] :: splitC c l else consHead b (splitC c l)
def isDot (s : List UInt8) : Bool := s == [46] || s == [46, 46]
def popU (out : List (List UInt8)) : List (List UInt8) := if 1 < out.length ∨ (out.length = 1 ∧ out.head? ≠ some []) then out.dropLast else out
def dotStep (last : Bool) (out : List (List UInt8)) (s : List UInt8) : List (List UInt8) :=
  if s = [46] then (if last then out ++ [[]] else out)
  else if s = [46, 46] then (if last then popU out ++ [[]] else popU out)
  else out ++ [s]
def dotsF : List (List UInt8) → List (List UInt8) → List (List UInt8)
  | [], out => out
  | s :: r, out => dotsF r (dotStep r.isEmpty out s)
def slashU (p q : List UInt8) : List UInt8 := if Lib.hasPrefix p [47] && !Lib.hasPrefix q [47] then 47 :: q else q
/-- url.dots. -/
def dotsU (p : List UInt8) : List UInt8 := if p = [] then [] else slashU p (joinC 47 (dotsF (splitC 47 p) []))
/-- url.merged. -/
def mergedU (b : UrlD) (p : List UInt8) : List UInt8 := if b.hasHost && b.path == [] then 47 :: p else b.path.take (Lib.lastIndexByte ⟨b.path.toArray⟩ 47 + 1).toNat ++ p
def ledU (b u : UrlD) : UrlD :=
  if u.scheme ≠ [] then u
  else if u.hasHost then { u with scheme := b.scheme }
  else if u.path = [] then
    (if u.hasQuery then { u with scheme := b.scheme, hasHost := b.hasHost, host := b.host, path := b.path }
     else { u with scheme := b.scheme, hasHost := b.hasHost, host := b.host, path := b.path, hasQuery := b.hasQuery, query := b.query })
  else if nth u.path 0 = 47 then { u with scheme := b.scheme, hasHost := b.hasHost, host := b.host }
  else { u with scheme := b.scheme, hasHost := b.hasHost, host := b.host, path := mergedU b u.path }
def undotU (o : UrlD) : UrlD := if o.hasHost || Lib.hasPrefix o.path [47] then { o with path := dotsU o.path } else o
def endU (o : UrlD) : UrlD × Nat := if (!o.hasHost && Lib.hasPrefix o.path [47, 47]) = true then (zeroU, 4) else if checkU o = 0 then (o, 0) else (zeroU, checkU o)
/-- url.Lead. -/
def leadU (b u : UrlD) : UrlD × Nat :=
  if checkU b ≠ 0 then (zeroU, checkU b)
  else if checkU u ≠ 0 then (zeroU, checkU u)
  else if b.scheme = [] then (zeroU, 4)
  else endU (undotU (ledU b u))

/-! ### Cuts -/
theorem indexByte_tw (l : List UInt8) (c : UInt8) : Lib.indexByte l c = if c ∈ l then ((l.takeWhile (fun b => b != c)).length : Int) else -1 := by
  induction l with
  | nil => rfl
  | cons b l ih =>
    unfold Lib.indexByte
    by_cases h : b = c
    · subst h; simp
    · have h' : c ≠ b := fun e => h e.symm
      rw [ih]
      by_cases hm : c ∈ l
      · have e2 : (((l.takeWhile (fun b => b != c)).length : Int) == -1) = false := by simp
        simp [h, hm, e2]
      · simp [h, h', hm]
theorem indexByte_neg (l : List UInt8) (c : UInt8) : Lib.indexByte l c < 0 ↔ c ∉ l := by
  rw [indexByte_tw]
  by_cases h : c ∈ l
  · rw [if_pos h]; simp [h]
  · rw [if_neg h]; simp [h]
theorem cut_tw (l : List UInt8) (c : UInt8) : Lib.cut l [c] = (l.takeWhile (fun b => b != c), (l.dropWhile (fun b => b != c)).drop 1, decide (c ∈ l)) := by
  unfold Lib.cut
  rw [Lib.index_one, indexByte_tw]
  by_cases h : c ∈ l
  · rw [if_pos h, if_pos (by omega)]
    have e := List.takeWhile_append_dropWhile (p := fun b => b != c) (l := l)
    have e1 : l.take (l.takeWhile (fun b => b != c)).length = l.takeWhile (fun b => b != c) := by
      have := congrArg (List.take (l.takeWhile (fun b => b != c)).length) e
      rw [List.take_left] at this
      exact this.symm
    have e2 : l.drop ((l.takeWhile (fun b => b != c)).length + 1) = (l.dropWhile (fun b => b != c)).drop 1 := by
      rw [← List.drop_drop]
      congr 1
      have := congrArg (List.drop (l.takeWhile (fun b => b != c)).length) e
      rw [List.drop_left] at this
      exact this.symm
    simp [h, e1, e2]
  · rw [if_neg h, if_neg (by omega)]
    have e1 : ∀ l : List UInt8, c ∉ l → l.takeWhile (fun b => b != c) = l ∧ l.dropWhile (fun b => b != c) = [] := by
      intro l
      induction l with
      | nil => simp
      | cons b l ih =>
        intro h
        simp only [List.mem_cons, not_or] at h
        have h' : b ≠ c := fun e => h.1 e.symm
        simp [h', ih h.2]
    simp [h, e1 l h]
theorem cut_app (x y : List UInt8) (c : UInt8) (h : ∀ b ∈ x, b ≠ c) : Lib.cut (x ++ c :: y) [c] = (x, y, true) := by
  rw [cut_tw, List.takeWhile_append_of_pos (by simpa using h), List.dropWhile_append_of_pos (by simpa using h)]
  simp
theorem cut_not (x : List UInt8) (c : UInt8) (h : ∀ b ∈ x, b ≠ c) : Lib.cut x [c] = (x, [], false) := by
  have e : Lib.index x [c] < 0 := by rw [Lib.index_one, indexByte_neg]; exact fun hm => h c hm rfl
  unfold Lib.cut
  rw [if_neg (by omega)]
theorem first_of (l : List UInt8) (c : UInt8) (h : c ∈ l) : ∃ x y, l = x ++ c :: y ∧ ∀ b ∈ x, b ≠ c := by
  induction l with
  | nil => cases h
  | cons a l ih =>
    by_cases e : a = c
    · subst e; exact ⟨[], l, rfl, by simp⟩
    · have hm : c ∈ l := by
        simp only [List.mem_cons] at h
        rcases h with h | h
        · exact absurd h.symm e
        · exact h
      obtain ⟨x, y, rfl, hx⟩ := ih hm
      exact ⟨a :: x, y, rfl, by intro b hb; simp only [List.mem_cons] at hb; rcases hb with rfl | hb; exact e; exact hx b hb⟩
theorem cut_back (l : List UInt8) (c : UInt8) : l = (Lib.cut l [c]).1 ++ (if (Lib.cut l [c]).2.2 then c :: (Lib.cut l [c]).2.1 else []) := by
  by_cases h : c ∈ l
  · obtain ⟨x, y, rfl, hx⟩ := first_of l c h
    rw [cut_app x y c hx]
    simp
  · rw [cut_not l c (fun b hb e => h (e ▸ hb))]
    simp
end Go.Proofs.YtacecobfhaihhaaDoor

namespace Go.Proofs.YtacecobfhaihhaaDoor

theorem ofNat_toNat8 (b : UInt8) : UInt8.ofNat b.toNat = b := by simp
theorem word_mem {s but : List UInt8} (h : wordU s but = true) : ∀ b ∈ s, charU b.toNat = true ∧ b ∉ but := by
  intro b hb
  unfold wordU at h
  rw [Bool.not_eq_true', List.any_eq_false] at h
  have := h b hb
  unfold badU at this
  rw [ofNat_toNat8] at this
  simp only [Bool.or_eq_true, Bool.not_eq_true', decide_eq_true_eq, not_or, Bool.not_eq_false, Int.not_le] at this
  exact ⟨this.1, (indexByte_neg _ _).1 this.2⟩
theorem char_ascii {x : Nat} (h : charU x = true) : x ≤ 126 := by
  unfold charU at h
  simp only [Bool.and_eq_true, decide_eq_true_eq] at h
  exact h.1.2
theorem sch_mem {s : List UInt8} (h : schemeU s = true) : ∀ b ∈ s, schC b.toNat = true := by
  rw [lowC_scheme, Bool.and_eq_true, List.all_eq_true] at h
  exact h.1
theorem lowB_same {b : UInt8} (h : ¬ (65 ≤ b.toNat ∧ b.toNat ≤ 90)) : lowB b = b := by
  unfold lowB
  rw [if_neg]
  intro ⟨h1, h2⟩
  exact h ⟨UInt8.le_iff_toNat_le.1 h1, UInt8.le_iff_toNat_le.1 h2⟩
theorem lowB_cap {b : UInt8} (h : 65 ≤ b.toNat ∧ b.toNat ≤ 90) : lowB b = b + 32 := by
  unfold lowB
  rw [if_pos ⟨UInt8.le_iff_toNat_le.2 h.1, UInt8.le_iff_toNat_le.2 h.2⟩]
theorem lowB_nat (b : UInt8) : (lowB b).toNat = if 65 ≤ b.toNat ∧ b.toNat ≤ 90 then b.toNat + 32 else b.toNat := by
  by_cases h : 65 ≤ b.toNat ∧ b.toNat ≤ 90
  · rw [if_pos h, lowB_cap h, UInt8.toNat_add]
    show (b.toNat + 32) % 256 = _
    omega
  · rw [if_neg h, lowB_same h]
theorem lowB_lowB (b : UInt8) : lowB (lowB b) = lowB b := by
  apply lowB_same
  rw [lowB_nat]
  split <;> omega
theorem lowL_lowL (l : List UInt8) : lowL (lowL l) = lowL l := by simp [lowL, lowB_lowB]
theorem lowL_app (a b : List UInt8) : lowL (a ++ b) = lowL a ++ lowL b := by simp [lowL]
theorem lowB_ascii {b : UInt8} (h : (lowB b).toNat < 128) : b.toNat < 128 := by
  rw [lowB_nat] at h
  split at h <;> omega
theorem ne_of_toNat {b c : UInt8} (h : b.toNat ≠ c.toNat) : b ≠ c := fun e => h (by rw [e])
theorem schC_ne {b : UInt8} (h : schC b.toNat = true) : b ≠ 58 ∧ b ≠ 47 ∧ b ≠ 63 ∧ b ≠ 35 ∧ lowB b = b ∧ b.toNat < 128 := by
  simp only [schC, Bool.or_eq_true, Bool.and_eq_true, decide_eq_true_eq, beq_iff_eq] at h
  refine ⟨ne_of_toNat ?_, ne_of_toNat ?_, ne_of_toNat ?_, ne_of_toNat ?_, lowB_same (by omega), by omega⟩
  · show b.toNat ≠ 58; omega
  · show b.toNat ≠ 47; omega
  · show b.toNat ≠ 63; omega
  · show b.toNat ≠ 35; omega
theorem check_ok {u : UrlD} (h : checkU u = 0) : longU u = false ∧ okU u = true ∧ formA u = false ∧ formB u = false ∧ (textU u).length ≤ 120 := by
  unfold checkU at h
  cases h1 : longU u with
  | true => rw [h1] at h; simp at h
  | false =>
    rw [h1] at h
    simp only [Bool.false_eq_true, if_false] at h
    unfold chkU at h
    cases h2 : okU u with
    | false => rw [h2] at h; simp at h
    | true =>
      rw [h2] at h
      simp only [Bool.true_eq_false, if_false] at h
      cases h3 : formA u with
      | true => rw [h3] at h; simp at h
      | false =>
        cases h4 : formB u with
        | true => rw [h3, h4] at h; simp at h
        | false =>
          rw [h3, h4] at h
          simp only [Bool.or_self, Bool.false_eq_true, if_false] at h
          refine ⟨rfl, rfl, rfl, rfl, ?_⟩
          by_cases h5 : 120 < (textU u).length
          · rw [if_pos h5] at h; simp at h
          · omega
theorem ok_parts {u : UrlD} (h : okU u = true) : schemeU u.scheme = true ∧ wordU u.host [47, 63, 35] = true ∧ u.host = lowL u.host ∧ wordU u.path [63, 35] = true ∧ wordU u.query [35] = true ∧ wordU u.frag [35] = true := by
  unfold okU at h
  simp only [Bool.and_eq_true, beq_iff_eq] at h
  exact ⟨h.1, h.2.1, h.2.2.1, h.2.2.2.1, h.2.2.2.2.1, h.2.2.2.2.2⟩
theorem form_parts {u : UrlD} (h : formA u = false) : (u.hasHost = false → u.host = []) ∧ (u.hasQuery = false → u.query = []) ∧ (u.hasFrag = false → u.frag = []) := by
  unfold formA at h
  simp only [Bool.or_eq_false_iff, Bool.and_eq_false_iff, Bool.not_eq_false', beq_iff_eq] at h
  obtain ⟨⟨h1, h2⟩, h3⟩ := h
  refine ⟨fun e => ?_, fun e => ?_, fun e => ?_⟩
  · rcases h1 with h1 | h1
    · rw [e] at h1; cases h1
    · exact h1
  · rcases h2 with h2 | h2
    · rw [e] at h2; cases h2
    · exact h2
  · rcases h3 with h3 | h3
    · rw [e] at h3; cases h3
    · exact h3
def tlU (u : UrlD) : List UInt8 := (if u.hasQuery then 63 :: u.query else []) ++ (if u.hasFrag then 35 :: u.frag else [])
def schS (u : UrlD) : List UInt8 := if u.scheme = [] then [] else u.scheme ++ [58]
def hostS (u : UrlD) : List UInt8 := if u.hasHost then [47, 47] ++ u.host else []
theorem textU_eq (u : UrlD) : textU u = schS u ++ (hostS u ++ u.path) ++ tlU u := by
  unfold textU schS hostS tlU
  simp only [List.append_assoc]
theorem schS_ne {u : UrlD} (h : schemeU u.scheme = true) : ∀ b ∈ schS u, b ≠ 35 ∧ b ≠ 63 ∧ b.toNat < 128 := by
  intro b hb
  unfold schS at hb
  by_cases e : u.scheme = []
  · rw [if_pos e] at hb; simp at hb
  · rw [if_neg e] at hb
    simp only [List.mem_append, List.mem_singleton] at hb
    rcases hb with hb | rfl
    · have := schC_ne (sch_mem h b hb); exact ⟨this.2.2.2.1, this.2.2.1, this.2.2.2.2.2⟩
    · exact ⟨by decide, by decide, by decide⟩
theorem word_ne {s but : List UInt8} (h : wordU s but = true) {c : UInt8} (hc : c ∈ but) : ∀ b ∈ s, b ≠ c := fun b hb e => (word_mem h b hb).2 (e ▸ hc)
theorem word_lt {s but : List UInt8} (h : wordU s but = true) : ∀ b ∈ s, b.toNat < 128 := fun b hb => by have := char_ascii (word_mem h b hb).1; omega
theorem hostS_ne {u : UrlD} (h : wordU u.host [47, 63, 35] = true) : ∀ b ∈ hostS u, b ≠ 35 ∧ b ≠ 63 ∧ b.toNat < 128 := by
  intro b hb
  unfold hostS at hb
  cases e : u.hasHost
  · rw [e] at hb; simp at hb
  · rw [e] at hb
    simp only [if_true, List.cons_append, List.nil_append, List.mem_cons] at hb
    rcases hb with rfl | rfl | hb
    · exact ⟨by decide, by decide, by decide⟩
    · exact ⟨by decide, by decide, by decide⟩
    · exact ⟨word_ne h (by simp) b hb, word_ne h (by simp) b hb, word_lt h b hb⟩
theorem takeWhile_all {p : UInt8 → Bool} {l : List UInt8} (h : ∀ b ∈ l, p b = true) (r : List UInt8) : (l ++ r).takeWhile p = l ++ r.takeWhile p ∧ (l ++ r).dropWhile p = r.dropWhile p :=
  ⟨List.takeWhile_append_of_pos h, List.dropWhile_append_of_pos h⟩
theorem lowL_sch {s : List UInt8} (h : schemeU s = true) : lowL s = s := by
  unfold lowL
  conv => rhs; rw [← List.map_id s]
  exact List.map_congr_left fun b hb => (schC_ne (sch_mem h b hb)).2.2.2.2.1
theorem head_stop (p : UInt8 → Bool) (l : List UInt8) (c : UInt8) (h : (l.dropWhile p).head? = some c) : p c = false := by
  have := List.head?_dropWhile_not p l
  rw [h] at this
  simpa using this
theorem tw_mem {p : UInt8 → Bool} {l : List UInt8} {b : UInt8} (h : b ∈ l.takeWhile p) : p b = true := by
  have := List.all_takeWhile (p := p) (l := l)
  exact List.all_eq_true.1 this b h
theorem schemeP_text {u : UrlD} (h0 : okU u = true) (h1 : formB u = false) (_h2 : formA u = false) : schemeP (schS u ++ (hostS u ++ u.path)) = some (u.scheme, hostS u ++ u.path) := by
  obtain ⟨k0, k1, k2, k3, _, _⟩ := ok_parts h0
  unfold schemeP
  by_cases e : u.scheme = []
  · have es : schS u = [] := by unfold schS; rw [if_pos e]
    rw [es, List.nil_append, e]
    rw [if_neg]
    cases hh : u.hasHost
    · have eh : hostS u = [] := by unfold hostS; rw [hh]; rfl
      rw [eh, List.nil_append]
      unfold formB at h1
      rw [hh, e] at h1
      simp only [Bool.false_eq_true, if_false, Bool.or_eq_false_iff, beq_self_eq_true, Bool.true_and, decide_eq_false_iff_not, Int.not_le] at h1
      rw [indexByte_neg, cut_tw] at h1
      intro hd
      refine h1.2 ?_
      show (58 : UInt8) ∈ u.path.takeWhile (fun b => b != 47)
      have hs := List.takeWhile_append_dropWhile (p := stopCS) (l := u.path)
      cases hdd : u.path.dropWhile stopCS with
      | nil => rw [hdd] at hd; cases hd
      | cons a r =>
        rw [hdd] at hd hs
        injection hd with hd
        subst hd
        rw [← hs]
        have hall : ∀ b ∈ u.path.takeWhile stopCS, (b != 47) = true := by
          intro b hb
          have := tw_mem hb
          unfold stopCS at this
          simp only [Bool.and_eq_true] at this
          exact this.2
        rw [(takeWhile_all hall _).1]
        simp
    · have eh : hostS u = 47 :: 47 :: u.host := by unfold hostS; rw [hh]; rfl
      rw [eh]
      simp [stopCS]
  · have es : schS u = u.scheme ++ [58] := by unfold schS; rw [if_neg e]
    have hall : ∀ b ∈ u.scheme, stopCS b = true := by
      intro b hb
      have := schC_ne (sch_mem k0 b hb)
      simp [stopCS, this.1, this.2.1]
    rw [es, List.append_assoc, List.singleton_append, (takeWhile_all hall _).1, (takeWhile_all hall _).2]
    have e1 : (58 :: (hostS u ++ u.path)).takeWhile stopCS = [] := by simp [stopCS]
    have e2 : (58 :: (hostS u ++ u.path)).dropWhile stopCS = 58 :: (hostS u ++ u.path) := by simp [stopCS]
    rw [e1, e2, List.append_nil, lowL_sch k0, k0]
    simp [e]
theorem hostP_text {u : UrlD} (h0 : okU u = true) (h1 : formB u = false) (h2 : formA u = false) : hostP (hostS u ++ u.path) = (u.hasHost, u.host, u.path) := by
  obtain ⟨k0, k1, k2, k3, _, _⟩ := ok_parts h0
  unfold hostP
  cases hh : u.hasHost
  · have eh : hostS u = [] := by unfold hostS; rw [hh]; rfl
    rw [eh, List.nil_append, (form_parts h2).1 hh]
    unfold formB at h1
    rw [hh] at h1
    simp only [Bool.false_eq_true, if_false, Bool.or_eq_false_iff] at h1
    rw [h1.1]
    rfl
  · have eh : hostS u = 47 :: 47 :: u.host := by unfold hostS; rw [hh]; rfl
    rw [eh]
    have hp : Lib.hasPrefix (47 :: 47 :: u.host ++ u.path) [47, 47] = true := by simp [Lib.hasPrefix, List.isPrefixOf]
    rw [hp]
    have hall : ∀ b ∈ u.host, not47 b = true := by
      intro b hb
      have := word_ne k1 (c := 47) (by simp) b hb
      simp [not47, this]
    have ht := takeWhile_all hall u.path
    have hpth : u.path.takeWhile not47 = [] ∧ u.path.dropWhile not47 = u.path := by
      unfold formB at h1
      rw [hh] at h1
      simp only [if_true, Bool.and_eq_false_iff, Bool.not_eq_false', beq_iff_eq] at h1
      cases hp : u.path with
      | nil => exact ⟨rfl, rfl⟩
      | cons a r =>
        rw [hp] at h1
        rcases h1 with h1 | h1
        · cases h1
        · have : a = 47 := UInt8.toNat_inj.1 h1
          subst this
          simp [not47]
    simp only [if_true, List.cons_append, List.drop_succ_cons, List.drop_zero]
    rw [ht.1, ht.2, hpth.1, hpth.2, List.append_nil, ← k2]
theorem parts_text {u : UrlD} (h : checkU u = 0) : partsU (textU u) = some u := by
  obtain ⟨_, h0, h2, h1, _⟩ := check_ok h
  obtain ⟨k0, k1, k2, k3, k4, k5⟩ := ok_parts h0
  have hpre : ∀ b ∈ schS u ++ (hostS u ++ u.path), b ≠ 35 ∧ b ≠ 63 := by
    intro b hb
    simp only [List.mem_append] at hb
    rcases hb with hb | hb | hb
    · have := schS_ne k0 b hb; exact ⟨this.1, this.2.1⟩
    · have := hostS_ne k1 b hb; exact ⟨this.1, this.2.1⟩
    · exact ⟨word_ne k3 (by simp) b hb, word_ne k3 (by simp) b hb⟩
  have c2 : Lib.cut (schS u ++ (hostS u ++ u.path) ++ (if u.hasQuery then 63 :: u.query else [])) [63] = (schS u ++ (hostS u ++ u.path), u.query, u.hasQuery) := by
    cases hq : u.hasQuery
    · rw [(form_parts h2).2.1 hq]
      simp only [Bool.false_eq_true, if_false, List.append_nil]
      exact cut_not _ _ fun b hb => (hpre b hb).2
    · exact cut_app _ _ _ fun b hb => (hpre b hb).2
  have c1 : Lib.cut (textU u) [35] = (schS u ++ (hostS u ++ u.path) ++ (if u.hasQuery then 63 :: u.query else []), u.frag, u.hasFrag) := by
    have hp2 : ∀ b ∈ schS u ++ (hostS u ++ u.path) ++ (if u.hasQuery then 63 :: u.query else []), b ≠ 35 := by
      intro b hb
      rw [List.mem_append] at hb
      rcases hb with hb | hb
      · exact (hpre b hb).1
      · cases hq : u.hasQuery
        · rw [hq] at hb; simp at hb
        · rw [hq] at hb
          simp only [if_true, List.mem_cons] at hb
          rcases hb with rfl | hb
          · decide
          · exact word_ne k4 (by simp) b hb
    rw [textU_eq]
    unfold tlU
    rw [← List.append_assoc]
    cases hf : u.hasFrag
    · rw [(form_parts h2).2.2 hf]
      simp only [Bool.false_eq_true, if_false, List.append_nil]
      exact cut_not _ _ hp2
    · exact cut_app _ _ _ hp2
  unfold partsU
  rw [c1]
  simp only
  rw [c2]
  simp only
  rw [schemeP_text h0 h1 h2]
  simp only
  rw [hostP_text h0 h1 h2]
theorem read_text {u : UrlD} (h : checkU u = 0) : readU (textU u) = (u, 0) := by
  unfold readU
  have h5 := (check_ok h).2.2.2.2
  rw [if_neg (by omega), parts_text h]
  simp only
  rw [if_pos h]
theorem text_ascii {u : UrlD} (h : checkU u = 0) : ∀ b ∈ textU u, b.toNat < 128 := by
  obtain ⟨_, h0, h2, h1, _⟩ := check_ok h
  obtain ⟨k0, k1, k2, k3, k4, k5⟩ := ok_parts h0
  intro b hb
  rw [textU_eq] at hb
  unfold tlU at hb
  simp only [List.mem_append] at hb
  rcases hb with (hb | hb | hb) | hb | hb
  · exact (schS_ne k0 b hb).2.2
  · exact (hostS_ne k1 b hb).2.2
  · exact word_lt k3 b hb
  · cases hq : u.hasQuery
    · rw [hq] at hb; simp at hb
    · rw [hq] at hb
      simp only [if_true, List.mem_cons] at hb
      rcases hb with rfl | hb
      · decide
      · exact word_lt k4 b hb
  · cases hq : u.hasFrag
    · rw [hq] at hb; simp at hb
    · rw [hq] at hb
      simp only [if_true, List.mem_cons] at hb
      rcases hb with rfl | hb
      · decide
      · exact word_lt k5 b hb
theorem schemeP_back {s sc r : List UInt8} (h : schemeP s = some (sc, r)) : ∃ a, s = a ++ r ∧ lowL a = (if sc = [] then [] else sc ++ [58]) := by
  unfold schemeP at h
  by_cases hd : (s.dropWhile stopCS).head? = some 58
  · rw [if_pos hd] at h
    by_cases hc : (s.takeWhile stopCS) = [] ∨ schemeU (lowL (s.takeWhile stopCS)) = false
    · rw [if_pos hc] at h; cases h
    · rw [if_neg hc] at h
      injection h with h
      injection h with h1 h2
      have hs := List.takeWhile_append_dropWhile (p := stopCS) (l := s)
      cases hdd : s.dropWhile stopCS with
      | nil => rw [hdd] at hd; cases hd
      | cons a t =>
        rw [hdd] at hd hs h2
        injection hd with hd
        subst hd
        rw [List.tail_cons] at h2
        subst h2
        refine ⟨s.takeWhile stopCS ++ [58], by rw [List.append_assoc]; exact hs.symm, ?_⟩
        have hne : sc ≠ [] := by
          rw [← h1]
          intro e
          exact hc (.inl (by simpa [lowL] using e))
        rw [if_neg hne, lowL_app, h1]
        rfl
  · rw [if_neg hd] at h
    injection h with h
    injection h with h1 h2
    subst h1; subst h2
    exact ⟨[], rfl, rfl⟩
theorem hasPrefix_two {s : List UInt8} (h : Lib.hasPrefix s [47, 47] = true) : s = 47 :: 47 :: s.drop 2 := by
  unfold Lib.hasPrefix at h
  rw [List.isPrefixOf_iff_prefix] at h
  obtain ⟨t, rfl⟩ := h
  rfl
theorem hostP_back (r : List UInt8) : ∃ a, r = a ++ (hostP r).2.2 ∧ lowL a = (if (hostP r).1 then [47, 47] ++ (hostP r).2.1 else []) := by
  unfold hostP
  by_cases h : Lib.hasPrefix r [47, 47] = true
  · rw [if_pos h]
    refine ⟨[47, 47] ++ (r.drop 2).takeWhile not47, ?_, ?_⟩
    · simp only [List.append_assoc]
      rw [List.takeWhile_append_dropWhile]
      exact hasPrefix_two h
    · rw [lowL_app]; rfl
  · rw [if_neg h]
    exact ⟨[], rfl, rfl⟩
theorem parts_back {s : List UInt8} {v : UrlD} (h : partsU s = some v) : ∃ a, s = a ++ v.path ++ tlU v ∧ textU v = lowL a ++ v.path ++ tlU v := by
  unfold partsU at h
  have b1 := cut_back s 35
  have b2 := cut_back (Lib.cut s [35]).1 63
  cases hs : schemeP (Lib.cut (Lib.cut s [35]).1 [63]).1 with
  | none => rw [hs] at h; cases h
  | some x =>
    obtain ⟨sc, r⟩ := x
    rw [hs] at h
    simp only [Option.some.injEq] at h
    obtain ⟨a1, ha1, hl1⟩ := schemeP_back hs
    obtain ⟨a2, ha2, hl2⟩ := hostP_back r
    refine ⟨a1 ++ a2, ?_, ?_⟩
    · rw [← h]
      simp only [tlU]
      conv => lhs; rw [b1, b2, ha1, ha2]
      simp only [List.append_assoc]
    · rw [textU_eq, ← h]
      simp only [schS, hostS, tlU]
      rw [lowL_app, hl1, hl2]
      simp only [List.append_assoc]
theorem read_parts {s : List UInt8} {v : UrlD} (h : readU s = (v, 0)) : s.length ≤ 120 ∧ partsU s = some v ∧ checkU v = 0 := by
  unfold readU at h
  by_cases hl : 120 < s.length
  · rw [if_pos hl] at h; injection h with _ h; cases h
  · rw [if_neg hl] at h
    cases hp : partsU s with
    | none => rw [hp] at h; injection h with _ h; cases h
    | some u =>
      rw [hp] at h
      simp only at h
      by_cases hc : checkU u = 0
      · rw [if_pos hc] at h
        injection h with h _
        subst h
        exact ⟨by omega, rfl, hc⟩
      · rw [if_neg hc] at h
        injection h with _ h
        exact absurd h hc
theorem tail_len (v : UrlD) : (tlU v).length = (if v.hasQuery then 1 + v.query.length else 0) + (if v.hasFrag then 1 + v.frag.length else 0) := by
  unfold tlU
  cases v.hasQuery <;> cases v.hasFrag <;> simp <;> omega
/-- What is read, is printed so that it is read again; with small letters alone. -/
theorem back_law {s : List UInt8} {v : UrlD} (h : readU s = (v, 0)) : checkU v = 0 ∧ readU (textU v) = (v, 0) ∧ lowL (textU v) = lowL s ∧ (∀ b ∈ s, b.toNat < 128) ∧ (∀ b ∈ textU v, b.toNat < 128) ∧ (tlU v).length ≤ s.length ∧ v.path.drop (min v.path.length 1) ++ s.drop (s.length - (tlU v).length) <:+ s := by
  obtain ⟨_, hp, hc⟩ := read_parts h
  obtain ⟨a, h1, h2⟩ := parts_back hp
  have hlow : lowL (textU v) = lowL s := by
    rw [h2]
    conv => rhs; rw [h1]
    rw [lowL_app, lowL_app, lowL_app, lowL_app, lowL_lowL]
  have hta := text_ascii hc
  have htl : (tlU v).length ≤ s.length := by rw [h1]; simp only [List.length_append]; omega
  refine ⟨hc, read_text hc, hlow, fun b hb => ?_, hta, htl, ?_⟩
  · have hm : lowB b ∈ lowL s := List.mem_map_of_mem hb
    rw [← hlow] at hm
    obtain ⟨c, hc1, hc2⟩ := List.mem_map.1 hm
    have := hta c hc1
    apply lowB_ascii
    rw [← hc2, lowB_nat]
    split <;> omega
  · have e : s.drop (s.length - (tlU v).length) = tlU v := by
      have : s.length - (tlU v).length = (a ++ v.path).length := by
        conv => lhs; rw [h1]
        simp only [List.length_append]; omega
      rw [this]
      conv => lhs; rw [h1]
      rw [List.drop_left]
    rw [e]
    refine ⟨a ++ v.path.take (min v.path.length 1), ?_⟩
    conv => rhs; rw [h1]
    rw [List.append_assoc, ← List.append_assoc (v.path.take _), List.take_append_drop, List.append_assoc]
end Go.Proofs.YtacecobfhaihhaaDoor

namespace Go.Proofs.YtacecobfhaihhaaDoor
open Go.RowKit

/-! ### The document's small, isScheme, between -/
def capsL : List UInt8 := [65, 66, 67, 68, 69, 70, 71, 72, 73, 74, 75, 76, 77, 78, 79, 80, 81, 82, 83, 84, 85, 86, 87, 88, 89, 90]
theorem caps_is : ∀ x : Fin 256, decide (0 ≤ Lib.indexByte capsL (UInt8.ofNat x.val)) = (decide (65 ≤ x.val) && decide (x.val ≤ 90)) := by decide +kernel
set_option maxRecDepth 100000 in
set_option maxHeartbeats 1000000 in
theorem small_any (l : List UInt8) (w : World) (hl : l.length ≤ maxLen) : Calls Tryd.prog 41 #[str l] w fun e w' => e = .returned (str (lowL l)) ∧ Below w.heap.size w w' := by
  unfold maxLen at hl
  obtain ⟨c, w1, hconv, hown, hc, hb1, hsz⟩ := run_toOwn (P := Tryd.prog) w 9 22 5 l Tryd.underlying9 Tryd.underlying22 Tryd.underlying5 rfl
  obtain ⟨n, hn⟩ : ∃ n, n = l.length := ⟨_, rfl⟩
  rw [← hn] at hconv hl hc
  have Hn := Lib.hid hn
  have Hown := Lib.hid hown
  have Hsz := Lib.hid hsz
  clear hn hown hsz
  go_enter Tryd.func41, Tryd.ntmps41
  go_wp2_with fail
  go_loopw [4, 9] (fun _ iv wr => LowRel w n l iv wr) (fun _ iv _ => n - (intOf iv).toNat)
  case atStart => exact ⟨0, by omega, rfl, hb1, by simpa using Hown.out⟩
  case round =>
    obtain ⟨k, hk, rfl, hbel, hO⟩ := hrel
    have hlen : ((l.take k).map lowB ++ l.drop k).length = n := by
      simp only [List.length_append, List.length_map, List.length_take, List.length_drop]; have := Hn.out; omega
    by_cases hkn : k < n
    · have hkl : k < l.length := by rw [← Hn.out]; exact hkn
      have hfz := hO.fz k (by rw [hlen]; exact hkn)
      have hcell : wr.cell? ⟨w.heap.size, k, none⟩ = some (.int .u8 (nth l k)) := by
        obtain ⟨b, off, hA, _, hc⟩ := hO.by_.opn (by rw [hlen]; omega)
        injection hA with hA
        injection hA with hA hB _
        subst hA
        subst hB
        have := hc k (by rw [hlen]; exact hkn)
        rw [Nat.zero_add] at this
        rw [this]
        have e : nth ((l.take k).map lowB ++ l.drop k) k = nth l k := by
          have : ((l.take k).map lowB).length = k := by simp; omega
          unfold nth
          simp only [List.getD]
          rw [List.getElem?_append_right (by omega), this, Nat.sub_self, List.getElem?_drop, Nat.add_zero]
        rw [e]
      have hx := nth_lt l k
      have hset := (low_at l k hkl).2
      have hnk : l[k].toNat = nth l k := (nth_of l k hkl).symm
      have hO2 := hO.set k (lowB l[k])
      rw [← hset] at hO2
      have hI := fun W => IndexByte_any capsL (nth l k) W
      have hcap := caps_is ⟨nth l k, hx⟩
      simp only at hcap
      generalize Lib.indexByte capsL (UInt8.ofNat (nth l k)) = z at hI hcap
      have hI2 : ∀ W, Calls Tryd.prog 38 #[.string ⟨#[65, 66, 67, 68, 69, 70, 71, 72, 73, 74, 75, 76, 77, 78, 79, 80, 81, 82, 83, 84, 85, 86, 87, 88, 89, 90]⟩, .int .u8 (nth l k : Nat)] W fun e w' => e = .returned (.int .i64 z) ∧ W = w' := hI
      have HI := Lib.hid hI2
      have HO := Lib.hid hO
      have HO2 := Lib.hid hO2
      have Hset := Lib.hid hset
      have Hnk := Lib.hid hnk
      have Hlen := Lib.hid hlen
      clear hset hnk hO hO2 hlen hI hI2
      by_cases h12 : 65 ≤ nth l k ∧ nth l k ≤ 90
      · have hz : decide (0 ≤ z) = true := by rw [hcap]; simp [h12.1, h12.2]
        have hw32 : IntKind.u8.wrap (((nth l k : Nat) : Int) + 32) = ((nth l k + 32 : Nat) : Int) := by rw [IntKind.wrap_u8]; omega
        have Hz12 := Lib.hid h12
        have Hcap := Lib.hid hcap
        clear hcap h12
        go_wp2_with fail
        refine (HI.out _).mono ?_
        rintro e w2 ⟨rfl, rfl⟩
        go_wp2_with fail
        refine ⟨⟨k + 1, by omega, by go_num, hbel.setCell (Nat.le_refl _) _, ?_⟩, by simp [intOf]; omega⟩
        have e : (lowB l[k]).toNat = nth l k + 32 := by
          unfold lowB
          rw [if_pos ⟨UInt8.le_iff_toNat_le.2 (by rw [Hnk.out]; exact Hz12.out.1), UInt8.le_iff_toNat_le.2 (by rw [Hnk.out]; exact Hz12.out.2)⟩, UInt8.toNat_add, Hnk.out]
          show (nth l k + 32) % 256 = _
          have := Hz12.out
          omega
        have HO3 := HO2.out
        rw [e] at HO3
        first | exact HO3 | (push_cast at HO3; exact HO3)
      · have hz : decide (0 ≤ z) = false := by
          rw [hcap]
          rw [Bool.and_eq_false_iff, decide_eq_false_iff_not, decide_eq_false_iff_not]
          omega
        have hs : LowRel w n l (.int .i64 ((k + 1 : Nat) : Int)) wr := by
          refine ⟨k + 1, by omega, rfl, hbel, ?_⟩
          have e : lowB l[k] = l[k] := lowB_same (by rw [Hnk.out]; exact h12)
          rw [Hset.out, e]
          have e2 : ((l.take k).map lowB ++ l.drop k)[k]'(by rw [Hlen.out]; exact hkn) = l[k] := by
            have : ((l.take k).map lowB).length = k := by simp; omega
            rw [List.getElem_append_right (by omega)]
            simp only [List.getElem_drop]
            congr 1
            omega
          rw [← e2, List.set_getElem_self]
          exact HO.out
        have Hs := Lib.hid hs
        have Hcap := Lib.hid hcap
        clear hcap hs h12
        go_wp2_with fail
        refine (HI.out _).mono ?_
        rintro e w2 ⟨rfl, rfl⟩
        go_wp2_with fail
        exact ⟨by have := Hs.out; simpa using this, by simp [intOf]; omega⟩
    · have hkn' : k = n := by omega
      have hM : (l.take k).map lowB ++ l.drop k = lowL l := by
        rw [hkn', List.take_of_length_le (by rw [← Hn.out]; omega), List.drop_of_length_le (by rw [← Hn.out]; omega), List.append_nil]; rfl
      rw [hM] at hO hlen
      have hts := run_toStr (P := Tryd.prog) wr 22 9 5 _ (some ⟨w.heap.size, 0, none⟩) n c (lowL l) (by have := hO.by_; rw [hlen] at this; exact this) Tryd.underlying22 Tryd.underlying5 Tryd.underlying9
      clear hO hM hlen hkn'
      go_wp2_with fail
      go_ret
      exact ⟨rfl, hbel⟩
end Go.Proofs.YtacecobfhaihhaaDoor

namespace Go.Proofs.YtacecobfhaihhaaDoor
/-- Does a text hold another one? -/
def hasS (s t : List UInt8) : Bool := decide (0 ≤ Lib.index s t)
end Go.Proofs.YtacecobfhaihhaaDoor

namespace Go.Proofs.YtacecobfhaihhaaDoor
open Go.RowKit

/-! ### strings.Contains -/
theorem Contains_any (s m : List UInt8) (w : World) (hM : MaxLenOk w) (hs : s.length ≤ 1000000) : Calls Tryd.prog 40 #[str s, str m] w fun e w' => e = .returned (.bool (hasS s m)) ∧ w = w' := by
  obtain ⟨k, hk⟩ := hM
  refine (Go.Proofs.Tryd.strings_Contains ⟨s.toArray⟩ ⟨m.toArray⟩ k w (by simp [ByteArray.size]; omega) hk).mono ?_
  rintro e w' ⟨rfl, rfl⟩
  exact ⟨rfl, rfl⟩
theorem Contains_big (s m : List UInt8) (w : World) (hM : MaxLenOk w) (hs : s.length ≤ 100000000) : Calls Tryd.prog 40 #[str s, str m] w fun e w' => e = .returned (.bool (hasS s m)) ∧ w = w' := by
  obtain ⟨k, hk⟩ := hM
  refine (Go.Proofs.Tryd.strings_Contains ⟨s.toArray⟩ ⟨m.toArray⟩ k w (by simp [ByteArray.size]; omega) hk).mono ?_
  rintro e w' ⟨rfl, rfl⟩
  exact ⟨rfl, rfl⟩
end Go.Proofs.YtacecobfhaihhaaDoor

namespace Go.Proofs.YtacecobfhaihhaaDoor

/-! ### Segments -/
theorem splitC_ne (c : UInt8) : ∀ l, splitC c l ≠ []
  | [] => by simp [splitC]
  | b :: l => by
    unfold splitC
    by_cases h : b = c
    · rw [if_pos h]; simp
    · rw [if_neg h]
      cases h2 : splitC c l <;> simp [consHead]
theorem joinC_cons (c : UInt8) (x y : List UInt8) (r) : joinC c (x :: y :: r) = x ++ c :: joinC c (y :: r) := rfl
theorem joinC_head (c b : UInt8) (x : List UInt8) (r) : joinC c ((b :: x) :: r) = b :: joinC c (x :: r) := by
  cases r <;> rfl
theorem join_split (c : UInt8) : ∀ l, joinC c (splitC c l) = l
  | [] => rfl
  | b :: l => by
    have ih := join_split c l
    have hne := splitC_ne c l
    unfold splitC
    by_cases h : b = c
    · rw [if_pos h]
      cases h2 : splitC c l with
      | nil => exact absurd h2 hne
      | cons x r => rw [h2] at ih; rw [joinC_cons, ih, h]; rfl
    · rw [if_neg h]
      cases h2 : splitC c l with
      | nil => exact absurd h2 hne
      | cons x r => rw [h2] at ih; show joinC c ((b :: x) :: r) = _; rw [joinC_head, ih]
theorem splitC_free (c : UInt8) : ∀ l, ∀ x ∈ splitC c l, c ∉ x
  | [] => by simp [splitC]
  | b :: l => by
    have ih := splitC_free c l
    unfold splitC
    by_cases h : b = c
    · rw [if_pos h]
      intro x hx
      simp only [List.mem_cons] at hx
      rcases hx with rfl | hx
      · simp
      · exact ih x hx
    · rw [if_neg h]
      have hb : c ≠ b := fun e => h e.symm
      cases h2 : splitC c l with
      | nil => simp [consHead, hb]
      | cons x r =>
        rw [h2] at ih
        intro y hy
        simp only [consHead, List.mem_cons] at hy
        rcases hy with rfl | hy
        · simp only [List.mem_cons, not_or]; exact ⟨hb, ih x (by simp)⟩
        · exact ih y (by simp [hy])
theorem splitC_app (c : UInt8) : ∀ (x l : List UInt8), c ∉ x → splitC c (x ++ c :: l) = x :: splitC c l
  | [], l, _ => by simp [splitC]
  | b :: x, l, h => by
    simp only [List.mem_cons, not_or] at h
    have hb : b ≠ c := fun e => h.1 e.symm
    show splitC c (b :: (x ++ c :: l)) = _
    rw [splitC, if_neg hb, splitC_app c x l h.2]
    rfl
theorem splitC_one (c : UInt8) : ∀ (x : List UInt8), c ∉ x → splitC c x = [x]
  | [], _ => rfl
  | b :: x, h => by
    simp only [List.mem_cons, not_or] at h
    have hb : b ≠ c := fun e => h.1 e.symm
    rw [splitC, if_neg hb, splitC_one c x h.2]
    rfl
theorem split_joinC (c : UInt8) : ∀ (L : List (List UInt8)), L ≠ [] → (∀ x ∈ L, c ∉ x) → splitC c (joinC c L) = L
  | [], h, _ => absurd rfl h
  | [x], _, h => splitC_one c x (h x (by simp))
  | x :: y :: r, _, h => by
    rw [joinC_cons, splitC_app c x _ (h x (by simp)), split_joinC c (y :: r) (by simp) (fun z hz => h z (by simp only [List.mem_cons] at hz ⊢; exact .inr hz))]

/-! ### Dots -/
def Good (L : List (List UInt8)) : Prop := ∀ x ∈ L, (47 : UInt8) ∉ x ∧ isDot x = false
theorem Good.app {a b : List (List UInt8)} (h1 : Good a) (h2 : Good b) : Good (a ++ b) := by
  intro x hx
  rcases List.mem_append.1 hx with h | h
  · exact h1 x h
  · exact h2 x h
theorem Good.pop {a : List (List UInt8)} (h : Good a) : Good (popU a) := by
  unfold popU
  split
  · intro x hx; exact h x ((List.dropLast_sublist _).subset hx)
  · exact h
theorem good_nil1 : Good [[]] := by intro x hx; simp at hx; subst hx; exact ⟨by simp, rfl⟩
theorem Good.step {last : Bool} {out : List (List UInt8)} {s : List UInt8} (h : Good out) (hs : (47 : UInt8) ∉ s) : Good (dotStep last out s) := by
  unfold dotStep
  by_cases h1 : s = [46]
  · rw [if_pos h1]
    cases last
    · exact h
    · exact h.app good_nil1
  · rw [if_neg h1]
    by_cases h2 : s = [46, 46]
    · rw [if_pos h2]
      cases last
      · exact h.pop
      · exact h.pop.app good_nil1
    · rw [if_neg h2]
      refine h.app ?_
      intro x hx
      simp only [List.mem_singleton] at hx
      subst hx
      refine ⟨hs, ?_⟩
      unfold isDot
      rw [Bool.or_eq_false_iff, beq_eq_false_iff_ne, beq_eq_false_iff_ne]
      exact ⟨h1, h2⟩
theorem dotsF_good : ∀ (L out : List (List UInt8)), (∀ x ∈ L, (47 : UInt8) ∉ x) → Good out → Good (dotsF L out)
  | [], _, _, h => h
  | s :: r, out, hL, h => by
    unfold dotsF
    exact dotsF_good r _ (fun x hx => hL x (by simp [hx])) (h.step (hL s (by simp)))
theorem dotsF_same : ∀ (L out : List (List UInt8)), (∀ x ∈ L, isDot x = false) → dotsF L out = out ++ L
  | [], out, _ => by simp [dotsF]
  | s :: r, out, h => by
    have hs := h s (by simp)
    unfold isDot at hs
    rw [Bool.or_eq_false_iff, beq_eq_false_iff_ne, beq_eq_false_iff_ne] at hs
    unfold dotsF dotStep
    rw [if_neg hs.1, if_neg hs.2, dotsF_same r _ (fun x hx => h x (by simp [hx]))]
    simp
theorem good_split_join {L : List (List UInt8)} (h : Good L) : ∀ x ∈ splitC 47 (joinC 47 L), isDot x = false := by
  cases L with
  | nil => intro x hx; simp [joinC, splitC] at hx; subst hx; rfl
  | cons a r =>
    rw [split_joinC 47 (a :: r) (by simp) (fun x hx => (h x hx).1)]
    exact fun x hx => (h x hx).2
/-- No dots are left to go. -/
theorem dots_free (p : List UInt8) : ∀ x ∈ splitC 47 (dotsU p), isDot x = false := by
  unfold dotsU
  by_cases hp : p = []
  · rw [if_pos hp]; intro x hx; simp [splitC] at hx; subst hx; rfl
  · rw [if_neg hp]
    have hg : Good (dotsF (splitC 47 p) []) := dotsF_good _ _ (splitC_free 47 p) (by intro x hx; cases hx)
    have h1 := good_split_join hg
    unfold slashU
    split
    · show ∀ x ∈ splitC 47 ([] ++ 47 :: _), _
      rw [splitC_app 47 [] _ (by simp)]
      intro x hx
      simp only [List.mem_cons] at hx
      rcases hx with rfl | hx
      · rfl
      · exact h1 x hx
    · exact h1
theorem dots_same {p : List UInt8} (h : ∀ x ∈ splitC 47 p, isDot x = false) : dotsU p = p := by
  unfold dotsU
  by_cases hp : p = []
  · rw [if_pos hp, hp]
  · rw [if_neg hp, dotsF_same _ _ h, List.nil_append, join_split]
    unfold slashU
    rw [if_neg]
    simp

/-! ### What is led to -/
theorem undot_path (o : UrlD) : (undotU o).hasHost = o.hasHost ∧ (undotU o).scheme = o.scheme ∧ (undotU o).hasFrag = o.hasFrag ∧ (undotU o).frag = o.frag := by
  unfold undotU; split <;> exact ⟨rfl, rfl, rfl, rfl⟩
theorem undot_free {o : UrlD} (h : Lib.hasPrefix (undotU o).path [47] = true) : ∀ x ∈ splitC 47 (undotU o).path, isDot x = false := by
  unfold undotU at h ⊢
  by_cases hc : (o.hasHost || Lib.hasPrefix o.path [47]) = true
  · rw [if_pos hc]; exact dots_free _
  · rw [if_neg hc] at h
    rw [Bool.or_eq_true, not_or] at hc
    exact absurd h hc.2
theorem prefix_one {p : List UInt8} : Lib.hasPrefix p [47] = true ↔ p ≠ [] ∧ nth p 0 = 47 := by
  cases p with
  | nil => simp [Lib.hasPrefix, List.isPrefixOf]
  | cons a r =>
    have : nth (a :: r) 0 = a.toNat := rfl
    rw [this]
    simp only [Lib.hasPrefix, List.isPrefixOf, Bool.and_true, beq_iff_eq, ne_eq, reduceCtorEq, not_false_eq_true, true_and]
    constructor
    · intro h; rw [← h]; rfl
    · intro h; exact (UInt8.toNat_inj.1 h).symm
theorem led_scheme {b u : UrlD} (h : b.scheme ≠ []) : (ledU b u).scheme ≠ [] ∧ (ledU b u).hasFrag = u.hasFrag ∧ (ledU b u).frag = u.frag := by
  unfold ledU
  by_cases h1 : u.scheme ≠ []
  · rw [if_pos h1]; exact ⟨h1, rfl, rfl⟩
  · rw [if_neg h1]
    split
    · exact ⟨h, rfl, rfl⟩
    · split
      · split <;> exact ⟨h, rfl, rfl⟩
      · split <;> exact ⟨h, rfl, rfl⟩
theorem lead_parts {b u x : UrlD} (h : leadU b u = (x, 0)) : checkU b = 0 ∧ checkU u = 0 ∧ b.scheme ≠ [] ∧ x = undotU (ledU b u) ∧ checkU x = 0 := by
  unfold leadU at h
  by_cases h1 : checkU b ≠ 0
  · rw [if_pos h1] at h; injection h with _ h; exact absurd h h1
  · rw [if_neg h1] at h
    by_cases h2 : checkU u ≠ 0
    · rw [if_pos h2] at h; injection h with _ h; exact absurd h h2
    · rw [if_neg h2] at h
      by_cases h3 : b.scheme = []
      · rw [if_pos h3] at h; injection h with _ h; cases h
      · rw [if_neg h3] at h
        unfold endU at h
        by_cases h4 : (!(undotU (ledU b u)).hasHost && Lib.hasPrefix (undotU (ledU b u)).path [47, 47]) = true
        · rw [if_pos h4] at h; injection h with _ h; cases h
        · rw [if_neg h4] at h
          by_cases h5 : checkU (undotU (ledU b u)) = 0
          · rw [if_pos h5] at h
            injection h with h _
            subst h
            exact ⟨by omega, by omega, h3, rfl, h5⟩
          · rw [if_neg h5] at h; injection h with _ h; exact absurd h h5
theorem end_same {x : UrlD} (h : checkU x = 0) : endU x = (x, 0) := by
  obtain ⟨_, _, _, h1, _⟩ := check_ok h
  unfold endU
  rw [if_neg, if_pos h]
  intro hc
  rw [Bool.and_eq_true, Bool.not_eq_true'] at hc
  unfold formB at h1
  rw [hc.1] at h1
  simp only [Bool.false_eq_true, if_false, Bool.or_eq_false_iff] at h1
  rw [h1.1] at hc
  exact absurd hc.2 (by simp)
theorem undot_same {x : UrlD} (h : checkU x = 0) (hf : Lib.hasPrefix x.path [47] = true → ∀ s ∈ splitC 47 x.path, isDot s = false) : undotU x = x := by
  obtain ⟨_, _, _, h1, _⟩ := check_ok h
  unfold undotU
  by_cases hp : Lib.hasPrefix x.path [47] = true
  · rw [dots_same (hf hp)]; split <;> rfl
  · cases hh : x.hasHost
    · rw [if_neg]
      rw [Bool.not_eq_true] at hp
      simp [hp]
    · unfold formB at h1
      rw [hh] at h1
      simp only [if_true, Bool.and_eq_false_iff, Bool.not_eq_false', beq_iff_eq] at h1
      have he : x.path = [] := by
        rcases h1 with h1 | h1
        · exact h1
        · by_cases e : x.path = []
          · exact e
          · exact absurd (prefix_one.2 ⟨e, h1⟩) hp
      rw [he]
      have : dotsU [] = x.path := by rw [he]; rfl
      rw [this, ← hh]
      split <;> rfl
/-- What is led to leads to itself from anywhere. -/
theorem lead_self {b u c x : UrlD} (h : leadU b u = (x, 0)) (hc : checkU c = 0) (hs : c.scheme ≠ []) : leadU c x = (x, 0) := by
  obtain ⟨_, _, hb, hx, hk⟩ := lead_parts h
  have hxs : x.scheme ≠ [] := by rw [hx, (undot_path _).2.1]; exact (led_scheme hb).1
  unfold leadU
  rw [if_neg (by omega), if_neg (by omega), if_neg hs]
  have : ledU c x = x := by unfold ledU; rw [if_pos hxs]
  rw [this, undot_same hk (by rw [hx]; exact undot_free), end_same hk]
def noFrag (x : UrlD) : UrlD := { x with hasFrag := false, frag := [] }
theorem check_noFrag {x : UrlD} (h : checkU x = 0) : checkU (noFrag x) = 0 := by
  obtain ⟨h1, h2, h3, h4, h5⟩ := check_ok h
  obtain ⟨k0, k1, k2, k3, k4, k5⟩ := ok_parts h2
  have e1 : longU (noFrag x) = false := by
    unfold longU at h1 ⊢
    simp only [Bool.or_eq_false_iff] at h1 ⊢
    refine ⟨⟨⟨⟨h1.1.1.1.1, h1.1.1.1.2⟩, h1.1.1.2⟩, h1.1.2⟩, by simp [noFrag]⟩
  have e2 : okU (noFrag x) = true := by
    unfold okU at h2 ⊢
    simp only [Bool.and_eq_true] at h2 ⊢
    exact ⟨h2.1, h2.2.1, h2.2.2.1, h2.2.2.2.1, h2.2.2.2.2.1, rfl⟩
  have e3 : formA (noFrag x) = false := by
    unfold formA at h3 ⊢
    simp only [Bool.or_eq_false_iff] at h3 ⊢
    exact ⟨⟨h3.1.1, h3.1.2⟩, rfl⟩
  have e4 : formB (noFrag x) = false := h4
  have e5 : (textU (noFrag x)).length ≤ 120 := by
    refine Nat.le_trans ?_ h5
    unfold textU noFrag
    simp only [List.length_append]
    simp
  unfold checkU chkU
  rw [e1, e2, e3, e4]
  simp only [Bool.false_eq_true, if_false, Bool.true_eq_false, Bool.or_self]
  rw [if_neg (by omega)]
theorem lead_none {b u x : UrlD} (h : leadU b u = (x, 0)) : leadU x zeroU = (noFrag x, 0) := by
  obtain ⟨_, _, hb, hx, hk⟩ := lead_parts h
  have hxs : x.scheme ≠ [] := by rw [hx, (undot_path _).2.1]; exact (led_scheme hb).1
  unfold leadU
  have hz : checkU zeroU = 0 := by decide
  rw [if_neg (by omega), if_neg (by omega), if_neg hxs]
  have : ledU x zeroU = noFrag x := rfl
  rw [this, undot_same (check_noFrag hk) (by show Lib.hasPrefix x.path [47] = true → ∀ s ∈ splitC 47 x.path, isDot s = false; rw [hx]; exact undot_free), end_same (check_noFrag hk)]
/-- What has a path from the root leads to it, whatever path stands there. -/
theorem lead_paths {b u x y : UrlD} {p : List UInt8} (h : leadU b u = (x, 0)) (h2 : leadU { b with path := p, hasQuery := false, query := [] } u = (y, 0)) (hc : u.hasHost = true ∨ Lib.hasPrefix u.path [47] = true ∨ u.scheme ≠ []) : x = y := by
  obtain ⟨_, _, _, hx, _⟩ := lead_parts h
  obtain ⟨_, _, _, hy, _⟩ := lead_parts h2
  rw [hx, hy]
  congr 1
  unfold ledU
  by_cases h1 : u.scheme ≠ []
  · rw [if_pos h1, if_pos h1]
  · rw [if_neg h1, if_neg h1]
    cases hh : u.hasHost
    · rw [hh] at hc
      simp only [Bool.false_eq_true, false_or, h1, or_false] at hc
      have := prefix_one.1 hc
      simp only [Bool.false_eq_true, if_false]
      rw [if_neg this.1, if_neg this.1, if_pos this.2, if_pos this.2]
    · simp
end Go.Proofs.YtacecobfhaihhaaDoor

namespace Go.Proofs.YtacecobfhaihhaaDoor

/-! ### The library's words, by segments -/
theorem index_free (x : List UInt8) (c : UInt8) (h : c ∉ x) : Lib.index x [c] = -1 := by
  rw [Lib.index_one, indexByte_tw, if_neg h]
theorem index_seg (x r : List UInt8) (c : UInt8) (h : c ∉ x) : Lib.index (x ++ c :: r) [c] = x.length := by
  rw [Lib.index_one, indexByte_tw, if_pos (by simp), List.takeWhile_append_of_pos (fun b hb => by simp only [bne_iff_ne, ne_eq]; exact fun e => h (e ▸ hb))]
  simp
theorem drop_seg (x r : List UInt8) (c : UInt8) : (x ++ c :: r).drop (((x.length : Nat) : Int).toNat + ([c] : List UInt8).length) = r := by
  rw [Int.toNat_natCast]
  show List.drop (x.length + 1) _ = r
  rw [← List.drop_drop, List.drop_left]
  rfl
theorem count_seg (c : UInt8) : ∀ (fuel : Nat) (L : List (List UInt8)), L.length ≤ fuel → (∀ x ∈ L, c ∉ x) → Lib.countFrom [c] fuel (joinC c L) = L.length - 1 := by
  intro fuel
  induction fuel with
  | zero => intro L h _; have : L = [] := List.eq_nil_of_length_eq_zero (by omega); subst this; rfl
  | succ f ih =>
    intro L h hx
    match L, h, hx with
    | [], _, _ => rfl
    | [x], _, hx =>
      show (if Lib.index x [c] == -1 then 0 else _) = 0
      rw [index_free x c (hx x (by simp))]
      rfl
    | x :: y :: r, h, hx =>
      rw [joinC_cons, Lib.countFrom, index_seg x _ c (hx x (by simp)), drop_seg, ih (y :: r) (by simp at h ⊢; omega) (fun z hz => hx z (by simp at hz ⊢; exact .inr hz))]
      have : ((x.length : Int) == -1) = false := by simp
      rw [this]
      simp
      omega
theorem joinC_len (c : UInt8) : ∀ (L : List (List UInt8)), L.length ≤ (joinC c L).length + 1 := by
  intro L
  induction L with
  | nil => simp
  | cons x L ih =>
    match L, ih with
    | [], _ => simp
    | y :: r, ih =>
      rw [joinC_cons]
      simp only [List.length_cons, List.length_append] at ih ⊢
      omega
theorem count_split (c : UInt8) (l : List UInt8) : Lib.count l [c] = (splitC c l).length - 1 := by
  have h := count_seg c (l.length + 1) (splitC c l) (by have := joinC_len c (splitC c l); rw [join_split] at this; exact this) (splitC_free c l)
  rw [join_split] at h
  exact h
theorem splitK_seg (c : UInt8) : ∀ (L : List (List UInt8)), L ≠ [] → (∀ x ∈ L, c ∉ x) → Lib.splitK [c] 0 (L.length - 1) (joinC c L) = L := by
  intro L
  induction L with
  | nil => intro h; exact absurd rfl h
  | cons x L ih =>
    intro _ hx
    match L, ih, hx with
    | [], _, _ => rfl
    | y :: r, ih, hx =>
      have h1 := ih (by simp) (fun z hz => hx z (by simp at hz ⊢; exact .inr hz))
      show Lib.splitK [c] 0 ((y :: r).length - 1 + 1) (joinC c (x :: y :: r)) = _
      rw [joinC_cons, Lib.splitK, index_seg x _ c (hx x (by simp)), drop_seg, h1]
      have : ((x.length : Int) == -1) = false := by simp
      rw [this]
      simp
theorem splitK_split (c : UInt8) (l : List UInt8) : Lib.splitK [c] 0 (Lib.count l [c]) l = splitC c l := by
  have h := splitK_seg c (splitC c l) (splitC_ne c l) (splitC_free c l)
  rw [join_split, ← count_split] at h
  exact h
theorem splitB_split (c : UInt8) (l : List UInt8) : (Lib.splitB ⟨#[c]⟩ 0 (Lib.countB ⟨l.toArray⟩ ⟨#[c]⟩) ⟨l.toArray⟩).map Value.string = (splitC c l).map str ∧ Lib.countB ⟨l.toArray⟩ ⟨#[c]⟩ + 1 = (splitC c l).length := by
  have hc : Lib.countB ⟨l.toArray⟩ ⟨#[c]⟩ = Lib.count l [c] := rfl
  have hd := Lib.splitB_data ⟨#[c]⟩ 0 (Lib.count l [c]) ⟨l.toArray⟩
  constructor
  · rw [hc]
    have h2 := splitK_split c l
    have e : ∀ L : List ByteArray, L.map Value.string = (L.map (fun s => s.data.toList)).map str := by
      intro L
      rw [List.map_map]
      exact List.map_congr_left fun x _ => str_of x
    rw [e]
    congr 1
    exact hd.trans h2
  · rw [hc, count_split]
    have := splitC_ne c l
    have : (splitC c l).length ≠ 0 := fun h => this (List.eq_nil_of_length_eq_zero h)
    omega
theorem splitC_len (c : UInt8) (l : List UInt8) : (splitC c l).length ≤ l.length + 1 := by
  have := joinC_len c (splitC c l)
  rwa [join_split] at this
theorem join_joinC (c : UInt8) : ∀ L : List (List UInt8), Lib.join L [c] = joinC c L
  | [] => rfl
  | [x] => Lib.join_one x [c]
  | x :: y :: r => by
    have ih := join_joinC c (y :: r)
    rw [joinC_cons, ← ih]
    simp [Lib.join, List.intercalate, List.intersperse]
theorem indexAny_tw (l : List UInt8) : Lib.indexAny l [58, 47] = if l.dropWhile stopCS = [] then -1 else ((l.takeWhile stopCS).length : Int) := by
  induction l with
  | nil => rfl
  | cons b l ih =>
    unfold Lib.indexAny
    by_cases h : stopCS b = true
    · have hc : ([58, 47] : List UInt8).contains b = false := by
        unfold stopCS at h
        simp only [Bool.and_eq_true, bne_iff_ne, ne_eq] at h
        simp [h.1, h.2]
      rw [hc, ih]
      simp only [Bool.false_eq_true, if_false, List.dropWhile_cons, h, if_true, List.takeWhile_cons]
      by_cases hd : l.dropWhile stopCS = []
      · rw [if_pos hd, if_pos hd]; rfl
      · rw [if_neg hd, if_neg hd, if_neg (by simp)]
        simp
    · have hc : ([58, 47] : List UInt8).contains b = true := by
        by_cases e : b = 58
        · simp [e]
        · by_cases e2 : b = 47
          · simp [e2]
          · exact absurd (by simp [stopCS, e, e2]) h
      rw [hc]
      simp only [if_true, List.dropWhile_cons, List.takeWhile_cons, h]
      simp
/-- The place of the first : or /, and what stands there. -/
theorem place_cs {l : List UInt8} {c : UInt8} {r : List UInt8} (h : l.dropWhile stopCS = c :: r) : (l.takeWhile stopCS).length < l.length ∧ nth l (l.takeWhile stopCS).length = c.toNat ∧ l.take (l.takeWhile stopCS).length = l.takeWhile stopCS ∧ l.drop ((l.takeWhile stopCS).length + 1) = r := by
  have e := List.takeWhile_append_dropWhile (p := stopCS) (l := l)
  rw [h] at e
  generalize l.takeWhile stopCS = x at e
  subst e
  refine ⟨by simp, ?_, by simp, by rw [← List.drop_drop, List.drop_left]; rfl⟩
  rw [nth_of _ _ (by simp)]
  simp
theorem lastIdx_range (l : List UInt8) : -1 ≤ Lib.lastIndexByte ⟨l.toArray⟩ 47 ∧ Lib.lastIndexByte ⟨l.toArray⟩ 47 < l.length := by
  have hsz : (⟨l.toArray⟩ : ByteArray).size = l.length := by simp [ByteArray.size]
  rcases Lib.lastIndexByte_spec ⟨l.toArray⟩ 47 with ⟨h, _⟩ | ⟨i, hi, h, _⟩
  · rw [h]; omega
  · rw [h]; rw [hsz] at hi; omega
theorem not47_stop (l : List UInt8) : Lib.indexByte l 47 = if l.dropWhile not47 = [] then -1 else ((l.takeWhile not47).length : Int) := by
  rw [indexByte_tw]
  by_cases h : (47 : UInt8) ∈ l
  · rw [if_pos h, if_neg]
    · rfl
    · obtain ⟨x, y, rfl, hx⟩ := first_of l 47 h
      rw [List.dropWhile_append_of_pos (fun b hb => by simp [not47, hx b hb])]
      simp [not47]
  · rw [if_neg h, if_pos]
    have hall : ∀ b ∈ l, not47 b = true := by
      intro b hb
      simp only [not47, bne_iff_ne, ne_eq]
      exact fun e => h (e ▸ hb)
    have := (takeWhile_all hall []).2
    rw [List.append_nil] at this
    exact this
theorem tw_take (p : UInt8 → Bool) (l : List UInt8) : l.take (l.takeWhile p).length = l.takeWhile p ∧ l.drop (l.takeWhile p).length = l.dropWhile p := by
  have e := List.takeWhile_append_dropWhile (p := p) (l := l)
  constructor
  · have := congrArg (List.take (l.takeWhile p).length) e
    rw [List.take_left] at this
    exact this.symm
  · have := congrArg (List.drop (l.takeWhile p).length) e
    rw [List.drop_left] at this
    exact this.symm
end Go.Proofs.YtacecobfhaihhaaDoor

import Derived.Test.YtdhmmepcnladcaaDoorUrlM
namespace Go.Proofs.YtdhmmepcnladcaaDoor

theorem ofNat_toNat8 (b : UInt8) : UInt8.ofNat b.toNat = b := by simp
theorem word_mem {s but : List UInt8} (h : wordU s but = true) : ∀ b ∈ s, charU b.toNat = true ∧ b ∉ but := by
  intro b hb
  unfold wordU at h
  rw [Bool.not_eq_true', List.any_eq_false] at h
  have := h b hb
  unfold badU at this
  rw [ofNat_toNat8] at this
  simp only [Bool.or_eq_true, Bool.not_eq_true', decide_eq_true_eq, not_or, Bool.not_eq_false, Int.not_le] at this
  exact ⟨this.1, (indexByte_neg _ _).1 this.2⟩
theorem char_ascii {x : Nat} (h : charU x = true) : x ≤ 126 := by
  unfold charU at h
  simp only [Bool.and_eq_true, decide_eq_true_eq] at h
  exact h.1.2
theorem sch_mem {s : List UInt8} (h : schemeU s = true) : ∀ b ∈ s, schC b.toNat = true := by
  rw [lowC_scheme, Bool.and_eq_true, List.all_eq_true] at h
  exact h.1
theorem lowB_same {b : UInt8} (h : ¬ (65 ≤ b.toNat ∧ b.toNat ≤ 90)) : lowB b = b := by
  unfold lowB
  rw [if_neg]
  intro ⟨h1, h2⟩
  exact h ⟨UInt8.le_iff_toNat_le.1 h1, UInt8.le_iff_toNat_le.1 h2⟩
theorem lowB_cap {b : UInt8} (h : 65 ≤ b.toNat ∧ b.toNat ≤ 90) : lowB b = b + 32 := by
  unfold lowB
  rw [if_pos ⟨UInt8.le_iff_toNat_le.2 h.1, UInt8.le_iff_toNat_le.2 h.2⟩]
theorem lowB_nat (b : UInt8) : (lowB b).toNat = if 65 ≤ b.toNat ∧ b.toNat ≤ 90 then b.toNat + 32 else b.toNat := by
  by_cases h : 65 ≤ b.toNat ∧ b.toNat ≤ 90
  · rw [if_pos h, lowB_cap h, UInt8.toNat_add]
    show (b.toNat + 32) % 256 = _
    omega
  · rw [if_neg h, lowB_same h]
theorem lowB_lowB (b : UInt8) : lowB (lowB b) = lowB b := by
  apply lowB_same
  rw [lowB_nat]
  split <;> omega
theorem lowL_lowL (l : List UInt8) : lowL (lowL l) = lowL l := by simp [lowL, lowB_lowB]
theorem lowL_app (a b : List UInt8) : lowL (a ++ b) = lowL a ++ lowL b := by simp [lowL]
theorem lowB_ascii {b : UInt8} (h : (lowB b).toNat < 128) : b.toNat < 128 := by
  rw [lowB_nat] at h
  split at h <;> omega
theorem ne_of_toNat {b c : UInt8} (h : b.toNat ≠ c.toNat) : b ≠ c := fun e => h (by rw [e])
theorem schC_ne {b : UInt8} (h : schC b.toNat = true) : b ≠ 58 ∧ b ≠ 47 ∧ b ≠ 63 ∧ b ≠ 35 ∧ lowB b = b ∧ b.toNat < 128 := by
  simp only [schC, Bool.or_eq_true, Bool.and_eq_true, decide_eq_true_eq, beq_iff_eq] at h
  refine ⟨ne_of_toNat ?_, ne_of_toNat ?_, ne_of_toNat ?_, ne_of_toNat ?_, lowB_same (by omega), by omega⟩
  · show b.toNat ≠ 58; omega
  · show b.toNat ≠ 47; omega
  · show b.toNat ≠ 63; omega
  · show b.toNat ≠ 35; omega
theorem check_ok {u : UrlD} (h : checkU u = 0) : longU u = false ∧ okU u = true ∧ formA u = false ∧ formB u = false ∧ (textU u).length ≤ 120 := by
  unfold checkU at h
  cases h1 : longU u with
  | true => rw [h1] at h; simp at h
  | false =>
    rw [h1] at h
    simp only [Bool.false_eq_true, if_false] at h
    unfold chkU at h
    cases h2 : okU u with
    | false => rw [h2] at h; simp at h
    | true =>
      rw [h2] at h
      simp only [Bool.true_eq_false, if_false] at h
      cases h3 : formA u with
      | true => rw [h3] at h; simp at h
      | false =>
        cases h4 : formB u with
        | true => rw [h3, h4] at h; simp at h
        | false =>
          rw [h3, h4] at h
          simp only [Bool.or_self, Bool.false_eq_true, if_false] at h
          refine ⟨rfl, rfl, rfl, rfl, ?_⟩
          by_cases h5 : 120 < (textU u).length
          · rw [if_pos h5] at h; simp at h
          · omega
theorem ok_parts {u : UrlD} (h : okU u = true) : schemeU u.scheme = true ∧ wordU u.host [47, 63, 35] = true ∧ u.host = lowL u.host ∧ wordU u.path [63, 35] = true ∧ wordU u.query [35] = true ∧ wordU u.frag [35] = true := by
  unfold okU at h
  simp only [Bool.and_eq_true, beq_iff_eq] at h
  exact ⟨h.1, h.2.1, h.2.2.1, h.2.2.2.1, h.2.2.2.2.1, h.2.2.2.2.2⟩
theorem form_parts {u : UrlD} (h : formA u = false) : (u.hasHost = false → u.host = []) ∧ (u.hasQuery = false → u.query = []) ∧ (u.hasFrag = false → u.frag = []) := by
  unfold formA at h
  simp only [Bool.or_eq_false_iff, Bool.and_eq_false_iff, Bool.not_eq_false', beq_iff_eq] at h
  obtain ⟨⟨h1, h2⟩, h3⟩ := h
  refine ⟨fun e => ?_, fun e => ?_, fun e => ?_⟩
  · rcases h1 with h1 | h1
    · rw [e] at h1; cases h1
    · exact h1
  · rcases h2 with h2 | h2
    · rw [e] at h2; cases h2
    · exact h2
  · rcases h3 with h3 | h3
    · rw [e] at h3; cases h3
    · exact h3
def tlU (u : UrlD) : List UInt8 := (if u.hasQuery then 63 :: u.query else []) ++ (if u.hasFrag then 35 :: u.frag else [])
def schS (u : UrlD) : List UInt8 := if u.scheme = [] then [] else u.scheme ++ [58]
def hostS (u : UrlD) : List UInt8 := if u.hasHost then [47, 47] ++ u.host else []
theorem textU_eq (u : UrlD) : textU u = schS u ++ (hostS u ++ u.path) ++ tlU u := by
  unfold textU schS hostS tlU
  simp only [List.append_assoc]
theorem schS_ne {u : UrlD} (h : schemeU u.scheme = true) : ∀ b ∈ schS u, b ≠ 35 ∧ b ≠ 63 ∧ b.toNat < 128 := by
  intro b hb
  unfold schS at hb
  by_cases e : u.scheme = []
  · rw [if_pos e] at hb; simp at hb
  · rw [if_neg e] at hb
    simp only [List.mem_append, List.mem_singleton] at hb
    rcases hb with hb | rfl
    · have := schC_ne (sch_mem h b hb); exact ⟨this.2.2.2.1, this.2.2.1, this.2.2.2.2.2⟩
    · exact ⟨by decide, by decide, by decide⟩
theorem word_ne {s but : List UInt8} (h : wordU s but = true) {c : UInt8} (hc : c ∈ but) : ∀ b ∈ s, b ≠ c := fun b hb e => (word_mem h b hb).2 (e ▸ hc)
theorem word_lt {s but : List UInt8} (h : wordU s but = true) : ∀ b ∈ s, b.toNat < 128 := fun b hb => by have := char_ascii (word_mem h b hb).1; omega
theorem hostS_ne {u : UrlD} (h : wordU u.host [47, 63, 35] = true) : ∀ b ∈ hostS u, b ≠ 35 ∧ b ≠ 63 ∧ b.toNat < 128 := by
  intro b hb
  unfold hostS at hb
  cases e : u.hasHost
  · rw [e] at hb; simp at hb
  · rw [e] at hb
    simp only [if_true, List.cons_append, List.nil_append, List.mem_cons] at hb
    rcases hb with rfl | rfl | hb
    · exact ⟨by decide, by decide, by decide⟩
    · exact ⟨by decide, by decide, by decide⟩
    · exact ⟨word_ne h (by simp) b hb, word_ne h (by simp) b hb, word_lt h b hb⟩
theorem takeWhile_all {p : UInt8 → Bool} {l : List UInt8} (h : ∀ b ∈ l, p b = true) (r : List UInt8) : (l ++ r).takeWhile p = l ++ r.takeWhile p ∧ (l ++ r).dropWhile p = r.dropWhile p :=
  ⟨List.takeWhile_append_of_pos h, List.dropWhile_append_of_pos h⟩
theorem lowL_sch {s : List UInt8} (h : schemeU s = true) : lowL s = s := by
  unfold lowL
  conv => rhs; rw [← List.map_id s]
  exact List.map_congr_left fun b hb => (schC_ne (sch_mem h b hb)).2.2.2.2.1
theorem head_stop (p : UInt8 → Bool) (l : List UInt8) (c : UInt8) (h : (l.dropWhile p).head? = some c) : p c = false := by
  have := List.head?_dropWhile_not p l
  rw [h] at this
  simpa using this
theorem tw_mem {p : UInt8 → Bool} {l : List UInt8} {b : UInt8} (h : b ∈ l.takeWhile p) : p b = true := by
  have := List.all_takeWhile (p := p) (l := l)
  exact List.all_eq_true.1 this b h
theorem schemeP_text {u : UrlD} (h0 : okU u = true) (h1 : formB u = false) (h2 : formA u = false) : schemeP (schS u ++ (hostS u ++ u.path)) = some (u.scheme, hostS u ++ u.path) := by
  obtain ⟨k0, k1, k2, k3, _, _⟩ := ok_parts h0
  unfold schemeP
  by_cases e : u.scheme = []
  · have es : schS u = [] := by unfold schS; rw [if_pos e]
    rw [es, List.nil_append, e]
    rw [if_neg]
    cases hh : u.hasHost
    · have eh : hostS u = [] := by unfold hostS; rw [hh]; rfl
      rw [eh, List.nil_append]
      unfold formB at h1
      rw [hh, e] at h1
      simp only [Bool.false_eq_true, if_false, Bool.or_eq_false_iff, beq_self_eq_true, Bool.true_and, decide_eq_false_iff_not, Int.not_le] at h1
      rw [indexByte_neg, cut_tw] at h1
      intro hd
      refine h1.2 ?_
      show (58 : UInt8) ∈ u.path.takeWhile (fun b => b != 47)
      have hs := List.takeWhile_append_dropWhile (p := stopCS) (l := u.path)
      cases hdd : u.path.dropWhile stopCS with
      | nil => rw [hdd] at hd; cases hd
      | cons a r =>
        rw [hdd] at hd hs
        injection hd with hd
        subst hd
        rw [← hs]
        have hall : ∀ b ∈ u.path.takeWhile stopCS, (b != 47) = true := by
          intro b hb
          have := tw_mem hb
          unfold stopCS at this
          simp only [Bool.and_eq_true] at this
          exact this.2
        rw [(takeWhile_all hall _).1]
        simp
    · have eh : hostS u = 47 :: 47 :: u.host := by unfold hostS; rw [hh]; rfl
      rw [eh]
      simp [stopCS]
  · have es : schS u = u.scheme ++ [58] := by unfold schS; rw [if_neg e]
    have hall : ∀ b ∈ u.scheme, stopCS b = true := by
      intro b hb
      have := schC_ne (sch_mem k0 b hb)
      simp [stopCS, this.1, this.2.1]
    rw [es, List.append_assoc, List.singleton_append, (takeWhile_all hall _).1, (takeWhile_all hall _).2]
    have e1 : (58 :: (hostS u ++ u.path)).takeWhile stopCS = [] := by simp [stopCS]
    have e2 : (58 :: (hostS u ++ u.path)).dropWhile stopCS = 58 :: (hostS u ++ u.path) := by simp [stopCS]
    rw [e1, e2, List.append_nil, lowL_sch k0, k0]
    simp [e]
theorem hostP_text {u : UrlD} (h0 : okU u = true) (h1 : formB u = false) (h2 : formA u = false) : hostP (hostS u ++ u.path) = (u.hasHost, u.host, u.path) := by
  obtain ⟨k0, k1, k2, k3, _, _⟩ := ok_parts h0
  unfold hostP
  cases hh : u.hasHost
  · have eh : hostS u = [] := by unfold hostS; rw [hh]; rfl
    rw [eh, List.nil_append, (form_parts h2).1 hh]
    unfold formB at h1
    rw [hh] at h1
    simp only [Bool.false_eq_true, if_false, Bool.or_eq_false_iff] at h1
    rw [h1.1]
    rfl
  · have eh : hostS u = 47 :: 47 :: u.host := by unfold hostS; rw [hh]; rfl
    rw [eh]
    have hp : Lib.hasPrefix (47 :: 47 :: u.host ++ u.path) [47, 47] = true := by simp [Lib.hasPrefix, List.isPrefixOf]
    rw [hp]
    have hall : ∀ b ∈ u.host, not47 b = true := by
      intro b hb
      have := word_ne k1 (c := 47) (by simp) b hb
      simp [not47, this]
    have ht := takeWhile_all hall u.path
    have hpth : u.path.takeWhile not47 = [] ∧ u.path.dropWhile not47 = u.path := by
      unfold formB at h1
      rw [hh] at h1
      simp only [if_true, Bool.and_eq_false_iff, Bool.not_eq_false', beq_iff_eq] at h1
      cases hp : u.path with
      | nil => exact ⟨rfl, rfl⟩
      | cons a r =>
        rw [hp] at h1
        rcases h1 with h1 | h1
        · cases h1
        · have : a = 47 := UInt8.toNat_inj.1 h1
          subst this
          simp [not47]
    simp only [if_true, List.cons_append, List.drop_succ_cons, List.drop_zero]
    rw [ht.1, ht.2, hpth.1, hpth.2, List.append_nil, ← k2]
theorem parts_text {u : UrlD} (h : checkU u = 0) : partsU (textU u) = some u := by
  obtain ⟨_, h0, h2, h1, _⟩ := check_ok h
  obtain ⟨k0, k1, k2, k3, k4, k5⟩ := ok_parts h0
  have hpre : ∀ b ∈ schS u ++ (hostS u ++ u.path), b ≠ 35 ∧ b ≠ 63 := by
    intro b hb
    simp only [List.mem_append] at hb
    rcases hb with hb | hb | hb
    · have := schS_ne k0 b hb; exact ⟨this.1, this.2.1⟩
    · have := hostS_ne k1 b hb; exact ⟨this.1, this.2.1⟩
    · exact ⟨word_ne k3 (by simp) b hb, word_ne k3 (by simp) b hb⟩
  have c2 : Lib.cut (schS u ++ (hostS u ++ u.path) ++ (if u.hasQuery then 63 :: u.query else [])) [63] = (schS u ++ (hostS u ++ u.path), u.query, u.hasQuery) := by
    cases hq : u.hasQuery
    · rw [(form_parts h2).2.1 hq]
      simp only [Bool.false_eq_true, if_false, List.append_nil]
      exact cut_not _ _ fun b hb => (hpre b hb).2
    · exact cut_app _ _ _ fun b hb => (hpre b hb).2
  have c1 : Lib.cut (textU u) [35] = (schS u ++ (hostS u ++ u.path) ++ (if u.hasQuery then 63 :: u.query else []), u.frag, u.hasFrag) := by
    have hp2 : ∀ b ∈ schS u ++ (hostS u ++ u.path) ++ (if u.hasQuery then 63 :: u.query else []), b ≠ 35 := by
      intro b hb
      rw [List.mem_append] at hb
      rcases hb with hb | hb
      · exact (hpre b hb).1
      · cases hq : u.hasQuery
        · rw [hq] at hb; simp at hb
        · rw [hq] at hb
          simp only [if_true, List.mem_cons] at hb
          rcases hb with rfl | hb
          · decide
          · exact word_ne k4 (by simp) b hb
    rw [textU_eq]
    unfold tlU
    rw [← List.append_assoc]
    cases hf : u.hasFrag
    · rw [(form_parts h2).2.2 hf]
      simp only [Bool.false_eq_true, if_false, List.append_nil]
      exact cut_not _ _ hp2
    · exact cut_app _ _ _ hp2
  unfold partsU
  rw [c1]
  simp only
  rw [c2]
  simp only
  rw [schemeP_text h0 h1 h2]
  simp only
  rw [hostP_text h0 h1 h2]
theorem read_text {u : UrlD} (h : checkU u = 0) : readU (textU u) = (u, 0) := by
  unfold readU
  have h5 := (check_ok h).2.2.2.2
  rw [if_neg (by omega), parts_text h]
  simp only
  rw [if_pos h]
theorem text_ascii {u : UrlD} (h : checkU u = 0) : ∀ b ∈ textU u, b.toNat < 128 := by
  obtain ⟨_, h0, h2, h1, _⟩ := check_ok h
  obtain ⟨k0, k1, k2, k3, k4, k5⟩ := ok_parts h0
  intro b hb
  rw [textU_eq] at hb
  unfold tlU at hb
  simp only [List.mem_append] at hb
  rcases hb with (hb | hb | hb) | hb | hb
  · exact (schS_ne k0 b hb).2.2
  · exact (hostS_ne k1 b hb).2.2
  · exact word_lt k3 b hb
  · cases hq : u.hasQuery
    · rw [hq] at hb; simp at hb
    · rw [hq] at hb
      simp only [if_true, List.mem_cons] at hb
      rcases hb with rfl | hb
      · decide
      · exact word_lt k4 b hb
  · cases hq : u.hasFrag
    · rw [hq] at hb; simp at hb
    · rw [hq] at hb
      simp only [if_true, List.mem_cons] at hb
      rcases hb with rfl | hb
      · decide
      · exact word_lt k5 b hb
theorem schemeP_back {s sc r : List UInt8} (h : schemeP s = some (sc, r)) : ∃ a, s = a ++ r ∧ lowL a = (if sc = [] then [] else sc ++ [58]) := by
  unfold schemeP at h
  by_cases hd : (s.dropWhile stopCS).head? = some 58
  · rw [if_pos hd] at h
    by_cases hc : (s.takeWhile stopCS) = [] ∨ schemeU (lowL (s.takeWhile stopCS)) = false
    · rw [if_pos hc] at h; cases h
    · rw [if_neg hc] at h
      injection h with h
      injection h with h1 h2
      have hs := List.takeWhile_append_dropWhile (p := stopCS) (l := s)
      cases hdd : s.dropWhile stopCS with
      | nil => rw [hdd] at hd; cases hd
      | cons a t =>
        rw [hdd] at hd hs h2
        injection hd with hd
        subst hd
        rw [List.tail_cons] at h2
        subst h2
        refine ⟨s.takeWhile stopCS ++ [58], by rw [List.append_assoc]; exact hs.symm, ?_⟩
        have hne : sc ≠ [] := by
          rw [← h1]
          intro e
          exact hc (.inl (by simpa [lowL] using e))
        rw [if_neg hne, lowL_app, h1]
        rfl
  · rw [if_neg hd] at h
    injection h with h
    injection h with h1 h2
    subst h1; subst h2
    exact ⟨[], rfl, rfl⟩
theorem hasPrefix_two {s : List UInt8} (h : Lib.hasPrefix s [47, 47] = true) : s = 47 :: 47 :: s.drop 2 := by
  unfold Lib.hasPrefix at h
  rw [List.isPrefixOf_iff_prefix] at h
  obtain ⟨t, rfl⟩ := h
  rfl
theorem hostP_back (r : List UInt8) : ∃ a, r = a ++ (hostP r).2.2 ∧ lowL a = (if (hostP r).1 then [47, 47] ++ (hostP r).2.1 else []) := by
  unfold hostP
  by_cases h : Lib.hasPrefix r [47, 47] = true
  · rw [if_pos h]
    refine ⟨[47, 47] ++ (r.drop 2).takeWhile not47, ?_, ?_⟩
    · simp only [List.append_assoc]
      rw [List.takeWhile_append_dropWhile]
      exact hasPrefix_two h
    · rw [lowL_app]; rfl
  · rw [if_neg h]
    exact ⟨[], rfl, rfl⟩
theorem parts_back {s : List UInt8} {v : UrlD} (h : partsU s = some v) : ∃ a, s = a ++ v.path ++ tlU v ∧ textU v = lowL a ++ v.path ++ tlU v := by
  unfold partsU at h
  have b1 := cut_back s 35
  have b2 := cut_back (Lib.cut s [35]).1 63
  cases hs : schemeP (Lib.cut (Lib.cut s [35]).1 [63]).1 with
  | none => rw [hs] at h; cases h
  | some x =>
    obtain ⟨sc, r⟩ := x
    rw [hs] at h
    simp only [Option.some.injEq] at h
    obtain ⟨a1, ha1, hl1⟩ := schemeP_back hs
    obtain ⟨a2, ha2, hl2⟩ := hostP_back r
    refine ⟨a1 ++ a2, ?_, ?_⟩
    · rw [← h]
      simp only [tlU]
      conv => lhs; rw [b1, b2, ha1, ha2]
      simp only [List.append_assoc]
    · rw [textU_eq, ← h]
      simp only [schS, hostS, tlU]
      rw [lowL_app, hl1, hl2]
      simp only [List.append_assoc]
theorem read_parts {s : List UInt8} {v : UrlD} (h : readU s = (v, 0)) : s.length ≤ 120 ∧ partsU s = some v ∧ checkU v = 0 := by
  unfold readU at h
  by_cases hl : 120 < s.length
  · rw [if_pos hl] at h; injection h with _ h; cases h
  · rw [if_neg hl] at h
    cases hp : partsU s with
    | none => rw [hp] at h; injection h with _ h; cases h
    | some u =>
      rw [hp] at h
      simp only at h
      by_cases hc : checkU u = 0
      · rw [if_pos hc] at h
        injection h with h _
        subst h
        exact ⟨by omega, rfl, hc⟩
      · rw [if_neg hc] at h
        injection h with _ h
        exact absurd h hc
theorem tail_len (v : UrlD) : (tlU v).length = (if v.hasQuery then 1 + v.query.length else 0) + (if v.hasFrag then 1 + v.frag.length else 0) := by
  unfold tlU
  cases v.hasQuery <;> cases v.hasFrag <;> simp <;> omega
/-- What is read, is printed so that it is read again; with small letters alone. -/
theorem back_law {s : List UInt8} {v : UrlD} (h : readU s = (v, 0)) : checkU v = 0 ∧ readU (textU v) = (v, 0) ∧ lowL (textU v) = lowL s ∧ (∀ b ∈ s, b.toNat < 128) ∧ (∀ b ∈ textU v, b.toNat < 128) ∧ (tlU v).length ≤ s.length ∧ v.path.drop (min v.path.length 1) ++ s.drop (s.length - (tlU v).length) <:+ s := by
  obtain ⟨_, hp, hc⟩ := read_parts h
  obtain ⟨a, h1, h2⟩ := parts_back hp
  have hlow : lowL (textU v) = lowL s := by
    rw [h2]
    conv => rhs; rw [h1]
    rw [lowL_app, lowL_app, lowL_app, lowL_app, lowL_lowL]
  have hta := text_ascii hc
  have htl : (tlU v).length ≤ s.length := by rw [h1]; simp only [List.length_append]; omega
  refine ⟨hc, read_text hc, hlow, fun b hb => ?_, hta, htl, ?_⟩
  · have hm : lowB b ∈ lowL s := List.mem_map_of_mem hb
    rw [← hlow] at hm
    obtain ⟨c, hc1, hc2⟩ := List.mem_map.1 hm
    have := hta c hc1
    apply lowB_ascii
    rw [← hc2, lowB_nat]
    split <;> omega
  · have e : s.drop (s.length - (tlU v).length) = tlU v := by
      have : s.length - (tlU v).length = (a ++ v.path).length := by
        conv => lhs; rw [h1]
        simp only [List.length_append]; omega
      rw [this]
      conv => lhs; rw [h1]
      rw [List.drop_left]
    rw [e]
    refine ⟨a ++ v.path.take (min v.path.length 1), ?_⟩
    conv => rhs; rw [h1]
    rw [List.append_assoc, ← List.append_assoc (v.path.take _), List.take_append_drop, List.append_assoc]
end Go.Proofs.YtdhmmepcnladcaaDoor

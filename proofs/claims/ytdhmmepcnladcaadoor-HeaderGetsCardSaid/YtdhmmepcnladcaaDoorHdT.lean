import Derived.Test.YtdhmmepcnladcaaDoorHd9
namespace Go.Proofs.YtdhmmepcnladcaaDoor
open Go.RowKit
attribute [local go_sem high] cut_fields upto_fields

/-- One field appended: what stood ahead reads as it did. -/
theorem app_keep (W : World) (base : Nat) (S : Option Addr) (k c : Nat) (xs : List Value) (hown : W.ownsRow base 46 2 (.slice S k c) k xs) (hbase : base ≤ W.heap.size) (hk : k ≤ 1000) (a : Addr) (news : List Value) (hl : news.length = 2)
    (hnews : ∀ j u, news[j]? = some u → W.cell? (a.add j) = some u) (h1 : ∀ u ∈ news, u.oneCell' = true) :
    ∃ S' c' w', (Builtin.append_ #[42, 42] 42 #[.slice S k c, .slice (some a) 1 1]).run Tryd.prog W = .ok (.slice S' (k + 1) c') w' ∧ w'.ownsRow base 46 2 (.slice S' (k + 1) c') (k + 1) (xs ++ news) ∧ Below base W w' ∧ Sl w' w'.heap.size 2 S k xs := by
  obtain ⟨i0, hi0, hz0, hz1, hz2⟩ := info_parts infoField
  obtain ⟨v', w', hr, h2, h3, _, h5⟩ := run_append_own_at (P := Tryd.prog) W base 42 42 46 i0 (.agg #[.string ⟨#[]⟩, .string ⟨#[]⟩]) 2 32 Tryd.underlying42 hi0 hz0 hz1 hz2 rfl (by decide) _ k xs hown a 1 1 news (by rw [hl]) hnews h1 (by unfold maxLen; omega) (by omega) hbase
  obtain ⟨S', c', rfl⟩ : ∃ S' c', v' = .slice S' (k + 1) c' := by
    rcases h2.2 with ⟨hv, h0⟩ | ⟨g, cap, cur, hv, _⟩
    · omega
    · exact ⟨_, _, hv⟩
  refine ⟨S', c', w', hr, h2, (Below.refl base W).grown h3 hbase (fun g hg => (hown.lt g hg).1), ?_⟩
  rcases hown.2 with ⟨hv, h0⟩ | ⟨g, cap, cur, hv, hbg, hg, hnc, hcm, hcs, htake⟩
  · subst h0
    have : xs = [] := List.eq_nil_of_length_eq_zero (by simpa using hown.1)
    subst this
    exact Sl.nil_ _ _ _ _
  · injection hv with hS _ hc
    subst hS
    subst hc
    by_cases hroom : k + 1 ≤ c
    · have hfit : k * i0.size + news.length ≤ cur.size := by rw [hl, hcs, hz1]; omega
      have hr2 := run_append_room (P := Tryd.prog) W 42 42 46 i0 Tryd.underlying42 hi0 g k c cur hg a 1 1 news (by rw [hl, hz1]) hnews h1 hroom hfit
      rw [hr] at hr2
      injection hr2 with hv2 _
      injection hv2 with hS2 _ hc2
      subst hS2
      subst hc2
      have h6 := own_head h2 (i := k) (by omega)
      rw [List.take_left' (by rw [hown.1])] at h6
      exact Sl.of_own h6
    · have holds : ∀ j u, xs[j]? = some u → W.cell? ((⟨g, 0, none⟩ : Addr).add j) = some u := hown.cells (g := g) rfl
      have hr2 := run_append_grow (P := Tryd.prog) W 42 42 46 i0 _ Tryd.underlying42 hi0 hz0 ⟨g, 0, none⟩ k c xs (by rw [hown.1, hz1]) holds a 1 1 news (by rw [hl, hz1]) hnews (by omega) (by omega) (growslice_fits (by omega) (by rw [hz2]; omega))
      rw [hr] at hr2
      injection hr2 with _ hw2
      have hb : Below W.heap.size W w' := by rw [hw2]; exact (Below.refl _ W).drew.alloc (Nat.le_refl _) _
      exact ((Sl.of_own hown).below hb).more hb.size
theorem ToUpper_a (l : List UInt8) (w : World) (h : asciiL l) : Calls Tryd.prog 64 #[str l] w fun e w' => e = .returned (str (Lib.toUpperA l)) ∧ Below w.heap.size w w' :=
  Go.Proofs.Tryd.strings_ToUpper_ascii ⟨l.toArray⟩ w (by have := h.1; simp [ByteArray.size]; omega) (fun j b hb => h.2 b (List.mem_of_getElem? hb))
theorem ToLower_a (l : List UInt8) (w : World) (h : asciiL l) : Calls Tryd.prog 65 #[str l] w fun e w' => e = .returned (str (Lib.toLowerA l)) ∧ Below w.heap.size w w' :=
  Go.Proofs.Tryd.strings_ToLower_ascii ⟨l.toArray⟩ w (by have := h.1; simp [ByteArray.size]; omega) (fun j b hb => h.2 b (List.mem_of_getElem? hb))
theorem upper_ascii {l : List UInt8} (h : asciiL l) : asciiL (Lib.toUpperA l) := by
  refine ⟨by simpa [Lib.toUpperA] using h.1, ?_⟩
  intro b hb
  obtain ⟨x, hx, rfl⟩ := List.mem_map.1 hb
  exact (by decide +kernel : ∀ x : Fin 128, (Lib.upperB (UInt8.ofNat x.val)).toNat < 128) ⟨x.toNat, h.2 x hx⟩ |> fun h => by rwa [ofNat_toNat8] at h
theorem lower_ascii {l : List UInt8} (h : asciiL l) : asciiL (Lib.toLowerA l) := by
  refine ⟨by simpa [Lib.toLowerA] using h.1, ?_⟩
  intro b hb
  obtain ⟨x, hx, rfl⟩ := List.mem_map.1 hb
  exact (by decide +kernel : ∀ x : Fin 128, (Lib.lowerB (UInt8.ofNat x.val)).toNat < 128) ⟨x.toNat, h.2 x hx⟩ |> fun h => by rwa [ofNat_toNat8] at h
set_option maxRecDepth 100000 in
set_option maxHeartbeats 400000 in
theorem gets1_any (x : FieldD) (fn : List UInt8) (bf : Nat) (w : World) (hc : w.cell? ⟨bf, 0, none⟩ = some (str fn)) (hx : asciiL x.name) (hf : asciiL fn) :
    Calls Tryd.prog 68 #[.agg #[str x.name, str x.value], .pointer (some ⟨bf, 0, none⟩)] w fun e w' => e = .returned (.bool (sameN fn x)) ∧ Below w.heap.size w w' := by
  have hef := fun W => EqualFold_ascii x.name fn W hx hf
  have Hef := Lib.hid hef
  have hlt : bf < w.heap.size := World.block_lt_of_cell? w _ hc
  have hc2 := (((Below.refl w.heap.size w).alloc (Nat.le_refl _) (.cells #[str x.name, str x.value] 46)).cell (p := ⟨bf, 0, none⟩) hlt).trans hc
  unfold sameN
  generalize Lib.equalFold x.name fn = r at Hef ⊢
  clear hef
  go_enter Tryd.func68, Tryd.ntmps68
  go_wp2_with fail
  refine (Hef.out _).mono ?_
  rintro e w1 ⟨rfl, rfl⟩
  go_wp2_with fail
  go_ret
  exact ⟨rfl, (Below.refl _ _).alloc (Nat.le_refl _) _⟩
section
variable {P : Program}
theorem wpOp_runv {k : Nat} {K : Act → World → Prop} {w : World} {ops : Array Oper} {o : Oper} {a : Act} {Q : Exit → Act → World → Prop} (hi : ops[k]? = some o) (hw : Region.wanted o (yielded ops a.tmps) = true) (v : Value) (w' : World) (hv : (execOp a.eval o).run P w = .ok (.value v) w') (h : K (a.put o.dst v) w') : wpOp P ops Q k K a w := by
  unfold wpOp
  simp only [hi, hw, if_true]
  refine .inl ?_
  unfold Oper.wp
  simp only [hv, Oper.upon]
  exact h
theorem wpOp_appRun {k : Nat} {K : Act → World → Prop} {w : World} {ops : Array Oper} {o : Oper} {a : Act} {Q : Exit → Act → World → Prop} (hi : ops[k]? = some o) (hw : Region.wanted o (yielded ops a.tmps) = true) (s x : Operand) (t : TypeId)
    (ho : o.op = .call { callee := .builtin .append, args := #[s, x], argTypes := #[t, t] }) (v1 v2 : Value) (hs : a.eval s = v1) (hx : a.eval x = v2) (v : Value) (w' : World) (hrun : (Builtin.append_ #[t, t] o.type #[v1, v2]).run P w = .ok v w') (h : K (a.put o.dst v) w') : wpOp P ops Q k K a w := by
  unfold wpOp
  simp only [hi, hw, if_true]
  refine .inl ?_
  unfold Oper.wp execOp
  simp only [ho, resolve, invoke, builtin, Sem.run_bind, Sem.run_pure, Result.andThen_ok, List.map_toArray, List.map_cons, List.map_nil, hs, hx, hrun]
  exact h
theorem wpOp_callF {k : Nat} {K : Act → World → Prop} {w : World} {ops : Array Oper} {o : Oper} {a : Act} {Q : Exit → Act → World → Prop} (hi : ops[k]? = some o) (hw : Region.wanted o (yielded ops a.tmps) = true) (f : FuncId) (args : Array Value)
    (hrun : (execOp a.eval o).run P w = .ok (.enter f args) w) (v : Value) (R : World → Prop) (hc : Calls P f args w fun e w' => e = .returned v ∧ R w') (h : ∀ w', R w' → K (a.put o.dst v) w') : wpOp P ops Q k K a w := by
  unfold wpOp
  simp only [hi, hw, if_true]
  refine .inl ?_
  unfold Oper.wp
  rw [hrun, Oper.upon_enter]
  refine hc.mono fun e w'' hh => ?_
  obtain ⟨rfl, hr⟩ := hh
  exact h w'' hr
end
def TrueG (w : World) (e : Ending) (w' : World) : Prop := e = .returned (.bool true) ∧ Below w.heap.size w w'
/-- The box of the field. -/
def FBox (w : World) (b : Nat) (f : FieldD) : Prop := w.cell? ⟨b, 0, none⟩ = some (str f.name) ∧ w.cell? ⟨b, 1, none⟩ = some (str f.value)
theorem FBox.below {w w' : World} {b : Nat} {f : FieldD} (h : FBox w b f) {C : Nat} (hb : Below C w w') (hC : b < C) : FBox w' b f := ⟨(hb.cell (p := ⟨b, 0, none⟩) hC).trans h.1, (hb.cell (p := ⟨b, 1, none⟩) hC).trans h.2⟩
set_option maxRecDepth 100000 in
set_option maxHeartbeats 4000000 in
theorem HeaderGets_walk (l : List FieldD) (A0 : Option Addr) (n0 c0 : Nat) (f : FieldD) (w : World) (h0 : Sl w w.heap.size 2 A0 n0 (fieldC l)) (hs0 : smallF l) (hn0 : n0 ≤ c0) (hm0 : c0 ≤ maxLen) (hrc : c0 * 32 ≤ 140737488351232) (hf : f.name.length ≤ maxLen ∧ f.value.length ≤ maxLen) :
    Calls Tryd.prog 9 #[.slice A0 n0 c0, .agg #[str f.name, str f.value]] w (TrueG w) := by
  obtain ⟨i0, hi0, hz0, hz1, hz2⟩ := info_parts infoField
  have hl0 : l.length = n0 := by have := h0.1; rw [fieldC_len] at this; omega
  obtain ⟨W, hW⟩ : ∃ W, W = w.alloc (.cells #[str f.name, str f.value] 46) := ⟨_, rfl⟩
  have hbW : Below w.heap.size w W := by rw [hW]; exact (Below.refl _ w).alloc (Nat.le_refl _) _
  have hszW : W.heap.size = w.heap.size + 1 := by rw [hW]; simp
  have hFB : FBox W w.heap.size f := by rw [hW]; exact box2_new w _ _ _
  have hownM : ((w.alloc (.cells #[str f.name, str f.value] 46)).alloc (.cells #[str f.name, str f.value] 46)).ownsRow (w.heap.size + 1) 46 2 (.slice (some ⟨w.heap.size + 1, 0, none⟩) 1 1) 1 [str f.name, str f.value] :=
    ⟨rfl, .inr ⟨w.heap.size + 1, 1, _, rfl, Nat.le_refl _, by have := heap_alloc_new (w.alloc (.cells #[str f.name, str f.value] 46)) (.cells #[str f.name, str f.value] 46); simpa using this, Nat.le_refl _, by unfold maxLen; omega, rfl, rfl⟩⟩
  have hsm : smallF (f :: l) := by
    intro x hx
    rcases List.mem_cons.1 hx with rfl | hx
    · exact hf
    · exact hs0 x hx
  have hlA : Below w.heap.size w ((w.alloc (.cells #[str f.name, str f.value] 46)).alloc (.cells #[str f.name, str f.value] 46)) := ((Below.refl _ w).alloc (Nat.le_refl _) _).alloc (by simp) _
  have hFB2 : FBox ((w.alloc (.cells #[str f.name, str f.value] 46)).alloc (.cells #[str f.name, str f.value] 46)) w.heap.size f := by rw [← hW]; exact hFB.below ((Below.refl _ W).alloc (Nat.le_refl _) _) (by omega)
  have h63 : 1 + n0 ≤ maxLen := by unfold maxLen; omega
  have h47 : (1 + n0) * 32 ≤ 140737488355328 := by omega
  have hone : ∀ u ∈ fieldC l, u.oneCell' = true := fieldC_one l
  have H0 := Lib.hid h0
  have Hl0 := Lib.hid hl0
  have Hsm := Lib.hid hsm
  have Hone := Lib.hid hone
  have HownM := Lib.hid hownM
  unfold maxLen at hm0
  clear h0 hl0 hsm hone hownM hs0 hW hbW hFB hszW
  go_enter Tryd.func9, Tryd.ntmps9
  go_wp2_with (at_builtin; refine wpList_app rfl _ _ 42 rfl (w.heap.size + 1) 46 i0 (.agg #[.string ⟨#[]⟩, .string ⟨#[]⟩]) 2 32 Tryd.underlying42 hi0 hz0 hz1 hz2 rfl (by decide) _ 1 1 [str f.name, str f.value] rfl HownM.out _ A0 n0 c0 (fieldC l) rfl (H0.out.below hlA) Hone.out h63 h47 (by simp) ?_)
  intro S c w4 hown hb4 _
  have hown : w4.ownsRow (w.heap.size + 1) 46 2 (.slice S (1 + n0) c) (1 + n0) (fieldC (f :: l)) := hown
  have hFB := hFB2.below hb4 (by omega)
  have hbel := hlA.trans (hb4.mono (by omega))
  have hc4 := own_cap hown
  have Hown := Lib.hid (Sl.of_own hown)
  clear hFB2 hb4 HownM hlA hown
  go_wp2_with fail
  refine (headed_any _).mono ?_
  rintro e w5 ⟨rfl, hb⟩
  have hFB := hFB.below hb (by have := hbel.size; have := World.block_lt_of_cell? _ _ hFB.1; omega)
  have hbel := hbel.trans (hb.mono hbel.size)
  have Hown := Lib.hid ((Hown.out.below hb).more hb.size)
  clear hb
  have hck := fun W' S' c' B (h : Sl W' B 2 S' (1 + n0) (fieldC (f :: l))) hB => FCheck_any (f :: l) S' (1 + n0) c' B W' h hB Hsm.out h63
  by_cases hk : chkF (f :: l) = 0
  · rw [hk] at hck
    have hckl := chk_len hk
    have hn19 : n0 ≤ 19 := by have := hckl.1; rw [List.length_cons, Hl0.out] at this; omega
    have hasc := chk_asciiL hk
    have hfa : asciiL f.name := hasc f (by simp)
    have hla : ∀ x ∈ l, asciiL x.name := fun x hx => hasc x (by simp [hx])
    obtain ⟨g1, g2, g3, g4⟩ := gets_law l f
    have Hck := Lib.hid (hck w5 S c _ Hown.out (Nat.le_refl _))
    have Hasc := Lib.hid hasc
    have Hfa := Lib.hid hfa
    have Hla := Lib.hid hla
    have hua := upper_ascii hfa
    have hda := lower_ascii hfa
    have hup := fun W' => ToUpper_a f.name W' hfa
    have hdn := fun W' => ToLower_a f.name W' hfa
    generalize Lib.toUpperA f.name = up at hup g1 g3 hua
    generalize Lib.toLowerA f.name = dn at hdn g2 g4 hda
    have Hup := Lib.hid hup
    have Hdn := Lib.hid hdn
    have hG1 : ∀ W', Below w5.heap.size w5 W' → Calls Tryd.prog 61 #[.slice S (1 + n0) c, str up] W' fun e w' => e = .returned (str f.value) ∧ Below W'.heap.size W' w' := fun W' hb => by
      have := Get_ascii (f :: l) up S (1 + n0) c w5.heap.size W' (Hown.out.below hb) hb.size h63 Hasc.out hua
      rwa [g1] at this
    have hG2 : ∀ W', Below w5.heap.size w5 W' → Calls Tryd.prog 61 #[.slice S (1 + n0) c, str dn] W' fun e w' => e = .returned (str f.value) ∧ Below W'.heap.size W' w' := fun W' hb => by
      have := Get_ascii (f :: l) dn S (1 + n0) c w5.heap.size W' (Hown.out.below hb) hb.size h63 Hasc.out hda
      rwa [g2] at this
    have HG1 := Lib.hid hG1
    have HG2 := Lib.hid hG2
    have hvv : (f.value == f.value) = true := by simp
    have hb5 := Below.refl w5.heap.size w5
    have hbf : w.heap.size < w5.heap.size := World.block_lt_of_cell? _ _ hFB.1
    clear hck hk hckl hasc hfa hla hup hdn hG1 hG2
    go_wp2_with fail
    refine Hck.out.mono ?_
    rintro e w6 ⟨rfl, hb⟩
    have hFB := hFB.below hb hbf
    have hb5 := hb5.trans hb
    clear hb Hck
    go_wp2_with fail
    have hFB : FBox w6.drew w.heap.size f := hFB
    have hb5 := hb5.drew
    go_region_held (fun w' => w'.cell? ⟨w.heap.size, 0, none⟩ = some (str f.name) ∧ w'.cell? ⟨w.heap.size, 1, none⟩ = some (str f.value)) (exact hFB) ((first
      | (go_at_call 64; refine (Hup.out _).mono ?_; rintro e wn ⟨rfl, hb⟩; have hFB := FBox.below hFB hb (Nat.lt_of_lt_of_le hbf hb5.size); have hb5 := hb5.trans (hb.mono hb5.size))
      | (go_at_call 65; refine (Hdn.out _).mono ?_; rintro e wm ⟨rfl, hb⟩; have hFB := FBox.below hFB hb (Nat.lt_of_lt_of_le hbf hb5.size); have hb5 := hb5.trans (hb.mono hb5.size))))
    go_wp2_with fail
    have hFB : FBox wm.drew w.heap.size f := hFB
    have hb5 := hb5.drew
    go_region_held (fun w' => w'.cell? ⟨w.heap.size, 0, none⟩ = some (str f.name) ∧ w'.cell? ⟨w.heap.size, 1, none⟩ = some (str f.value)) (exact hFB) ((first
      | (go_at_call 61; (with_reducible refine (HG1.out _ hb5).mono ?_); rintro e wp ⟨rfl, hb⟩; have hFB := FBox.below hFB hb (Nat.lt_of_lt_of_le hbf hb5.size); have hb5 := hb5.trans (hb.mono hb5.size))
      | (go_at_call 61; (with_reducible refine (HG2.out _ hb5).mono ?_); rintro e wq ⟨rfl, hb⟩; have hFB := FBox.below hFB hb (Nat.lt_of_lt_of_le hbf hb5.size); have hb5 := hb5.trans (hb.mono hb5.size))))
    go_wp2_with fail
    have hbq := hbel.trans (hb5.mono hbel.size)
    have hcl := Clone_Field A0 n0 c0 w.heap.size (fieldC l) wq (H0.out.below hbq) hbq.size (fieldC_one l) (by omega)
    refine hcl.mono ?_
    rintro e wc ⟨S6, c6, rfl, hown6, hb6⟩
    have hFB := hFB.below hb6 (Nat.lt_of_lt_of_le hbf hb5.size)
    have hbc := hbq.trans (hb6.mono hbq.size)
    have hszc := hbq.size
    have hbfq : w.heap.size < wq.heap.size := Nat.lt_of_lt_of_le hbf hb5.size
    have hpd : PredFB wq.heap.size 68 #[.pointer (some ⟨w.heap.size, 0, none⟩)] (sameN f.name) l wc := fun W' x hx hW' =>
      gets1_any x f.name w.heap.size W' (hFB.below hW' hbfq).1 (Hla.out x hx) Hfa.out
    have hdel := DeleteFunc_fields wq.heap.size 68 #[.pointer (some ⟨w.heap.size, 0, none⟩)] (enters_of Tryd.func68 (by kernel_rfl) rfl) (sameN f.name) l S6 n0 c6 wc hown6 hb6.size (by omega) hpd
    have hLl : (leftF l f.name).length ≤ 19 := by
      unfold leftF
      have := List.length_filter_le (fun x => !sameN f.name x) l
      rw [Hl0.out] at this
      omega
    have hLa : ∀ x ∈ leftF l f.name, asciiL x.name := fun x hx => Hla.out x ((List.mem_filter.1 hx).1)
    rw [show l.filter (fun x => !sameN f.name x) = leftF l f.name from rfl] at hdel
    generalize leftF l f.name = L at hdel g3 g4 hLl hLa
    have Hdel := Lib.hid hdel
    clear hcl hpd hdel hown6
    go_wp2_with fail
    refine Hdel.out.mono ?_
    rintro e wd ⟨S7, k7, c7, rfl, hk7, hown7, hb7⟩
    have hFB := hFB.below hb7 hbfq
    have hbd := hbc.trans (hb7.mono hszc)
    have hszd := Nat.le_trans hb6.size hb7.size
    have hbA : Below wd.heap.size wd (wd.drew.alloc (.cells #[str f.name, str f.value] 46)) := (Below.refl wd.heap.size wd).drew.alloc (Nat.le_refl _) _
    have hFBA : FBox (wd.drew.alloc (.cells #[str f.name, str f.value] 46)) w.heap.size f := hFB.below hbA (Nat.lt_of_lt_of_le hbfq hszd)
    have hnews : ∀ j u, [str f.name, str f.value][j]? = some u → (wd.drew.alloc (.cells #[str f.name, str f.value] 46)).cell? ((⟨wd.heap.size, 0, none⟩ : Addr).add j) = some u := by
      intro j u hj
      have h := box2_new wd.drew 46 (str f.name) (str f.value)
      match j, hj with
      | 0, hj => simp only [List.getElem?_cons_zero, Option.some.injEq] at hj; rw [← hj]; exact h.1
      | 1, hj => simp only [List.getElem?_cons_succ, List.getElem?_cons_zero, Option.some.injEq] at hj; rw [← hj]; exact h.2
    obtain ⟨S8, c8, w8, hrun8, hown8, hb8, hsl8⟩ := app_keep (wd.drew.alloc (.cells #[str f.name, str f.value] 46)) wq.heap.size S7 k7 c7 (fieldC L) (own_below hown7 hbA) (Nat.le_trans hszd hbA.size) (by omega) ⟨wd.heap.size, 0, none⟩ [str f.name, str f.value] rfl hnews (by intro u hu; simp at hu; rcases hu with rfl | rfl <;> rfl)
    have hFB8 := hFBA.below hb8 hbfq
    have hbA8 : Below w.heap.size w w8 := (hbd.trans (hbA.mono hbd.size)).trans (hb8.mono hszc)
    have hown8 : w8.ownsRow wq.heap.size 46 2 (.slice S8 (k7 + 1) c8) (k7 + 1) (fieldC (L ++ [f])) := by rw [fieldC_app]; exact hown8
    have hG3 : ∀ W', Below w8.heap.size w8 W' → Calls Tryd.prog 61 #[.slice S8 (k7 + 1) c8, str up] W' fun e w' => e = .returned (str f.value) ∧ Below W'.heap.size W' w' := fun W' hb => by
      have := Get_ascii (L ++ [f]) up S8 (k7 + 1) c8 w8.heap.size W' ((Sl.of_own hown8).below hb) hb.size (by unfold maxLen; omega) (fun x hx => by
        rcases List.mem_append.1 hx with h | h
        · exact hLa x h
        · simp only [List.mem_cons, List.not_mem_nil, or_false] at h; rw [h]; exact Hfa.out) hua
      rwa [g3] at this
    have hG4 : ∀ W', Below w8.heap.size w8 W' → Calls Tryd.prog 61 #[.slice S7 k7 c7, str dn] W' fun e w' => e = .returned (str []) ∧ Below W'.heap.size W' w' := fun W' hb => by
      have := Get_ascii L dn S7 k7 c7 w8.heap.size W' (hsl8.below hb) hb.size (by unfold maxLen; omega) hLa hda
      rwa [g4] at this
    have HG3 := Lib.hid hG3
    have HG4 := Lib.hid hG4
    have hb9 := Below.refl w8.heap.size w8
    have hbf8 : w.heap.size < w8.heap.size := World.block_lt_of_cell? _ _ hFB8.1
    clear hG3 hG4 hown8 hsl8 hown7 hnews Hdel hk7 hb8 hbA HG1 HG2 Hup Hdn
    have hFBd : FBox wd.drew w.heap.size f := hFB
    clear hFB
    have ⟨x0, x1⟩ := hFBd
    go_wp2_with fail
    refine wp_region_held (S := fun W' => FBox W' w.heap.size f) (by kernel_rfl) ?_
    change wpAnyH _ _ _ _ _ _ _ _ (World.drew wd)
    have hS : FBox (World.drew wd) w.heap.size f := hFBd
    refine wpAnyH_take (i := 0) (v := ?_) rfl (by kernel_rfl) (by kernel_rfl) (by kernel_rfl) (fun _ _ _ h => h) (Or.inl ⟨by kernel_rfl, ?_⟩) hS ?_
    rotate_left 1
    · intro W' hb'; go_simp; try exact rfl
    refine wpAnyH_take (i := 1) (v := ?_) rfl (by kernel_rfl) (by kernel_rfl) (by kernel_rfl) (fun _ _ _ h => h) (Or.inl ⟨by kernel_rfl, ?_⟩) hS ?_
    rotate_left 1
    · intro W' hb'; have q0 := hb'.1; have q1 := hb'.2; go_simp; try exact rfl
    refine wpAnyH_take (i := 4) (v := ?_) rfl (by kernel_rfl) (by kernel_rfl) (by kernel_rfl) (fun _ _ _ h => h) (Or.inl ⟨by kernel_rfl, ?_⟩) hS ?_
    rotate_left 1
    · intro W' hb'; go_simp; try exact rfl
    refine wpAnyH_take (i := 6) (v := ?_) rfl (by kernel_rfl) (by kernel_rfl) (by kernel_rfl) (fun _ _ _ h => h) (Or.inl ⟨by kernel_rfl, ?_⟩) hS ?_
    rotate_left 1
    · intro W' hb'; go_simp; try exact rfl
    refine wpAnyH_take (i := 7) (v := ?_) rfl (by kernel_rfl) (by kernel_rfl) (by kernel_rfl) (fun _ _ _ h => h) (Or.inl ⟨by kernel_rfl, ?_⟩) hS ?_
    rotate_left 1
    · intro W' hb'; have q0 := hb'.1; have q1 := hb'.2; go_simp; try exact rfl
    refine wpAnyH_all (rs := [2]) (by kernel_rfl) (by simp) ?_
    intro kk hkk
    simp only [List.mem_singleton] at hkk
    subst hkk
    go_simp
    refine wpOp_runv rfl (by kernel_rfl) (.slice (some ⟨wd.heap.size, 0, none⟩) 1 1) (wd.drew.alloc (.cells #[str f.name, str f.value] 46)) (by go_simp) ?_
    have hS := hFBA
    refine ⟨hS, ?_⟩
    refine wpAnyH_all (rs := [3]) (by kernel_rfl) (by simp) ?_
    intro kk hkk
    simp only [List.mem_singleton] at hkk
    subst hkk
    go_simp
    refine wpOp_appRun rfl (by kernel_rfl) _ _ _ rfl (.slice S7 k7 c7) (.slice (some ⟨wd.heap.size, 0, none⟩) 1 1) (by go_simp) (by go_simp) _ w8 hrun8 ?_
    have hS := hFB8
    refine ⟨hS, ?_⟩
    refine wpAnyH_all (rs := [5]) (by kernel_rfl) (by simp) ?_
    intro kk hkk
    simp only [List.mem_singleton] at hkk
    subst hkk
    go_simp
    refine wpOp_callF rfl (by kernel_rfl) 61 #[.slice S8 (k7 + 1) c8, str up] (by go_simp) _ _ (HG3.out _ hb9) ?_
    intro ws hb
    have hS := FBox.below hFB8 hb hbf8
    have hbfs := Nat.lt_of_lt_of_le hbf8 hb.size
    have hb9 := hb9.trans hb
    refine ⟨hS, ?_⟩
    refine wpAnyH_take (i := 8) (v := ?_) rfl (by kernel_rfl) (by kernel_rfl) (by kernel_rfl) (fun _ _ _ h => h) (Or.inl ⟨by kernel_rfl, ?_⟩) hS ?_
    rotate_left 1
    · intro W' hb'; go_simp; try exact rfl
    refine wpAnyH_take (i := 9) (v := ?_) rfl (by kernel_rfl) (by kernel_rfl) (by kernel_rfl) (fun _ _ _ h => h) (Or.inl ⟨by kernel_rfl, ?_⟩) hS ?_
    rotate_left 1
    · intro W' hb'; go_simp; try exact rfl
    refine wpAnyH_take (i := 10) (v := ?_) rfl (by kernel_rfl) (by kernel_rfl) (by kernel_rfl) (fun _ _ _ h => h) (Or.inl ⟨by kernel_rfl, ?_⟩) hS ?_
    rotate_left 1
    · intro W' hb'; go_simp; try exact rfl
    refine wpAnyH_take (i := 11) (v := ?_) rfl (by kernel_rfl) (by kernel_rfl) (by kernel_rfl) (fun _ _ _ h => h) (Or.inl ⟨by kernel_rfl, ?_⟩) hS ?_
    rotate_left 1
    · intro W' hb'; go_simp; try exact rfl
    refine wpAnyH_all (rs := [12]) (by kernel_rfl) (by simp) ?_
    intro kk hkk
    simp only [List.mem_singleton] at hkk
    subst hkk
    go_simp
    refine wpOp_callF rfl (by kernel_rfl) 61 #[.slice S7 k7 c7, str dn] (by go_simp) _ _ (HG4.out _ hb9) ?_
    intro wt hb
    have hS := FBox.below hS hb hbfs
    have hb9 := hb9.trans (hb.mono hb9.size)
    refine ⟨hS, ?_⟩
    refine wpAnyH_take (i := 13) (v := ?_) rfl (by kernel_rfl) (by kernel_rfl) (by kernel_rfl) (fun _ _ _ h => h) (Or.inl ⟨by kernel_rfl, ?_⟩) hS ?_
    rotate_left 1
    · intro W' hb'; go_simp; try exact rfl
    refine wpAnyH_take (i := 14) (v := ?_) rfl (by kernel_rfl) (by kernel_rfl) (by kernel_rfl) (fun _ _ _ h => h) (Or.inl ⟨by kernel_rfl, ?_⟩) hS ?_
    rotate_left 1
    · intro W' hb'; go_simp; try exact rfl
    refine wpAnyH_take (i := 15) (v := ?_) rfl (by kernel_rfl) (by kernel_rfl) (by kernel_rfl) (fun _ _ _ h => h) (Or.inl ⟨by kernel_rfl, ?_⟩) hS ?_
    rotate_left 1
    · intro W' hb'; go_simp; try exact rfl
    refine wpAnyH_done (by kernel_rfl) ?_ _
    go_simp
    go_wp2_with fail
    go_ret
    exact ⟨rfl, hbA8.trans (hb9.mono hbA8.size)⟩
  · generalize chkF (f :: l) = kk at hck hk
    have hkk : ((kk : Int) != 0) = true := by simp; omega
    have Hck := Lib.hid (hck w5 S c _ Hown.out (Nat.le_refl _))
    clear hck hk
    go_wp2_with fail
    refine Hck.out.mono ?_
    rintro e w6 ⟨rfl, hb⟩
    have hbel := hbel.trans (hb.mono hbel.size)
    clear hb
    go_wp2_with fail
    refine (headed_any _).mono ?_
    rintro e w7 ⟨rfl, hb⟩
    go_wp2_with fail
    go_ret
    exact ⟨rfl, hbel.trans (hb.mono hbel.size)⟩
end Go.Proofs.YtdhmmepcnladcaaDoor

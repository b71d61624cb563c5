import Derived.Test.YtdhmmepcnladcaaDoorRpI
import Derived.Test.YtdhmmepcnladcaaDoorPart7
namespace Go.Proofs.YtdhmmepcnladcaaDoor
open Go.RowKit

def InwRes (p : PartD) (w : World) (e : Ending) (w' : World) : Prop :=
  ∃ S n c, e = .returned (.slice S n c) ∧ n = (flatD p).length ∧ w'.ownsRow w.heap.size 3 1 (.slice S n c) n (iCells (inwD p)) ∧ Below w.heap.size w w'
def InwRel (n2 : Nat) (parts : List PartD) (T : List Int) (w0 : World) (lv iv : Value) (wr : World) : Prop :=
  ∃ i m c S done, lv = .slice S m c ∧ iv = .int .i64 (i : Nat) ∧ i ≤ n2 ∧ wr.ownsRow w0.heap.size 3 1 (.slice S m c) m (iCells done) ∧ Hid (inwsD done (parts.drop i) = T ∧ done.length = m) ∧ Below w0.heap.size w0 wr
def InwRel2 (nq g2 : Nat) (G F F0 : List Int) (m0 : Nat) (w0 : World) (lv iv : Value) (wr : World) : Prop :=
  ∃ j m c S done, lv = .slice S m c ∧ iv = .int .i64 (j : Nat) ∧ j ≤ nq ∧ m = m0 + j ∧ wr.ownsRow w0.heap.size 3 1 (.slice S m c) m (iCells done) ∧ Hid (done = G ++ F.take j) ∧
    (∀ j u, (iCells F0)[j]? = some u → wr.cell? ⟨g2, j, none⟩ = some u) ∧ Hid (Value.ownBlock (.slice S m c) ≠ some g2 ∧ g2 < wr.heap.size) ∧ Below w0.heap.size w0 wr
section
variable {P : Program}
theorem wpList_appB {w : World} {ops : Array Oper} {rest : List Oper} {o : Oper} {a : Act} {Q : Exit → Act → World → Prop} (hgd : o.guard = none) (s x : Operand) (t : TypeId)
    (ho : o.op = .call { callee := .builtin .append, args := #[s, x], argTypes := #[t, t] })
    (base : Nat) (e : TypeId) (i : TypeInfo) (z : Value) (size bytes : Nat) (ht : P.underlying t = some (.slice e)) (hi : P.info? e = some i) (hz : i.zero = some z)
    (hsize : i.size = size) (hby : i.bytes = bytes) (hzs : z.cells.size = size) (hsz : 0 < size)
    (S : Option Addr) (n cs : Nat) (xs : List Value) (hs : a.eval s = .slice S n cs) (hown : w.ownsRow base e size (.slice S n cs) n xs)
    (B : Nat) (A : Option Addr) (m c : Nat) (news : List Value) (hx : a.eval x = .slice A m c) (hr : Sl w B size A m news) (h1 : ∀ u ∈ news, u.oneCell' = true)
    (h63 : n + m ≤ maxLen) (hbytes : (n + m) * bytes ≤ 140737488355328) (hbase : base ≤ w.heap.size)
    (h : ∀ S' c' w', w'.ownsRow base e size (.slice S' (n + m) c') (n + m) (xs ++ news) → Below base w w' → w.grownBy w' (Value.ownBlock (.slice S n cs)) →
      (Value.ownBlock (.slice S' (n + m) c') = Value.ownBlock (.slice S n cs) ∨ Value.ownBlock (.slice S' (n + m) c') = some w.heap.size) → wpList P ops Q rest (a.put o.dst (.slice S' (n + m) c')) w') : wpList P ops Q (o :: rest) a w := by
  refine wpList_plain hgd fun K hK => ?_
  obtain ⟨S', c', w', hrun, h2, h3, h4⟩ := run_app (P := P) w base t o.type e i z size bytes ht hi hz hsize hby hzs hsz S n cs xs hown B A m c news hr h1 h63 hbytes hbase
  unfold Oper.wp execOp
  simp only [ho, resolve, invoke, builtin, Sem.run_bind, Sem.run_pure, Result.andThen_ok, List.map_toArray, List.map_cons, List.map_nil, hs, hx, hrun]
  exact hK _ _ (h S' c' w' h2 ((Below.refl base w).grown h3 hbase (fun k hk => (hown.lt k hk).1)) h3 h4)
end
set_option maxRecDepth 100000 in
set_option maxHeartbeats 2000000 in
theorem InWhich_any (k : Nat) : ∀ (p : PartD) (v : List Value) (B : Nat) (w : World), (flatD p).length ≤ k → k ≤ 1000 → B ≤ w.heap.size → PartAt (· < B) w p v →
    Calls Tryd.prog 27 #[.agg v.toArray] w (InwRes p w) := by
  obtain ⟨i0, hi0, hz0, hz1, hz2⟩ := info_parts infoInt2
  induction k with
  | zero => intro p v B w h; rw [flatD_eq] at h; simp at h
  | succ k ih =>
    intro p v B w hk hk1 hB hp
    obtain ⟨A, c, A2, c2, rfl, _, _, _, _, hP, hc2, hcm⟩ := hp.open
    have hT := inwD_parts p
    have hTl := inwD_len p
    have hfl : ∀ x ∈ p.parts, (flatD x).length ≤ k := by
      intro x hx
      obtain ⟨i, hi, rfl⟩ := List.getElem_of_mem hx
      have h1 := (flatsD_get p.parts i hi).1
      rw [flatD_eq] at hk
      simp at hk
      omega
    unfold InwRes
    obtain ⟨n2, hn2⟩ : ∃ n2, n2 = p.parts.length := ⟨_, rfl⟩
    obtain ⟨L, hL⟩ : ∃ L, L = (flatD p).length := ⟨_, rfl⟩
    obtain ⟨T, hTd⟩ : ∃ T, T = inwD p := ⟨_, rfl⟩
    rw [← hL] at hTl hk ⊢
    rw [← hTd] at hTl hT ⊢
    rw [← hn2] at hP hc2 ⊢
    have hn2m : n2 ≤ 9223372036854775807 := by unfold maxLen at hcm; omega
    have HT := Lib.hid hT
    have HTl := Lib.hid hTl
    have Hn2 := Lib.hid hn2
    have Hih := Lib.hid ih
    have Hfl := Lib.hid hfl
    have hL1000 : L ≤ 1000 := by omega
    have hown0 : ((w.alloc (.cells #[str p.type, str p.cs, str p.id, str p.loc, .int .i64 p.how, .slice A p.body.length c, .slice A2 n2 c2] 25)).alloc (.cells #[.int .i64 (-1)] 3)).ownsRow w.heap.size 3 1 (.slice (some ⟨w.heap.size + 1, 0, none⟩) 1 1) 1 (iCells [-1]) :=
      ⟨rfl, .inr ⟨w.heap.size + 1, 1, _, rfl, Nat.le_succ _, by
        have := heap_alloc_new (w.alloc (.cells #[str p.type, str p.cs, str p.id, str p.loc, .int .i64 p.how, .slice A p.body.length c, .slice A2 n2 c2] 25)) (.cells #[.int .i64 (-1)] 3); simpa using this, Nat.le_refl _, by unfold maxLen; omega, rfl, rfl⟩⟩
    have Hown0 := Lib.hid hown0
    clear hT hTl hn2 ih hk hcm hp hfl hL hTd hown0
    go_enter Tryd.func27, Tryd.ntmps27
    go_wp2_with fail
    go_loopw [3, 13] (InwRel n2 p.parts T w) (fun _ iv _ => n2 - (intOf iv).toNat)
    case atStart => exact ⟨0, 1, 1, some ⟨w.heap.size + 1, 0, none⟩, [-1], rfl, rfl, Nat.zero_le _, Hown0.out, ⟨HT.out.symm, rfl⟩, ((Below.refl _ w).alloc (Nat.le_refl _) _).alloc (by simp) _⟩
    case round =>
      clear Hown0
      obtain ⟨i, m, cl, S, done, rfl, rfl, hi, hown, hE, hbel⟩ := hrel
      by_cases hin : i < n2
      · have hPr := hP.belowN hbel hB
        obtain ⟨b, off, q, A', n', c', A2', n2', c2', rfl, hbS, hq, hqa, x0, x1, x2, x3, x4, x5, x6⟩ := hPr.cells7 hin
        have hqm : q ∈ p.parts := List.mem_of_mem_drop (by rw [hq]; simp)
        have hqk := Hfl.out q hqm
        have hE1 := hE.out.1
        have hmd := hE.out.2
        rw [hq, inwsD_cons, hmd] at hE1
        have hlen : m + (flatD q).length ≤ 1000 := by
          have h1 := congrArg List.length hE1
          rw [inwsD_len, List.length_append, List.length_map, inwD_len, hmd, HTl.out] at h1
          omega
        have hbA := (Below.refl wr.heap.size wr).alloc (Nat.le_refl _) (.cells #[str q.type, str q.cs, str q.id, str q.loc, .int .i64 q.how, .slice A' n' c', .slice A2' n2' c2'] 25)
        have hcl := Hih.out q _ B (wr.alloc (.cells #[str q.type, str q.cs, str q.id, str q.loc, .int .i64 q.how, .slice A' n' c', .slice A2' n2' c2'] 25)) hqk (by omega) (Nat.le_trans hB (Nat.le_trans hbel.size hbA.size)) (hqa.belowN hbA (Nat.le_trans hB hbel.size))
        have hbelA := hbel.trans (hbA.mono hbel.size)
        have hownA := own_below hown hbA
        have hQ := inwD_len q
        have hbd := inwD_bd q
        have hpos : 0 < (flatD q).length := by rw [flatD_eq]; simp
        unfold InwRes at hcl
        generalize inwD q = F at hcl hE1 hQ hbd
        generalize (flatD q).length = nq at hcl hlen hQ hqk hbd hpos
        have hbd2 : ∀ x ∈ F, -1 ≤ x ∧ x < 1000 := fun x hx => by have := hbd x hx; omega
        have Hbd := Lib.hid hbd2
        clear hbd hbd2
        have Hcl := Lib.hid hcl
        have HE1 : Hid (inwsD (done ++ F.map (fun x => if x < 0 then 0 else x + (m : Int))) (p.parts.drop (i + 1)) = T) := hE1
        have HQ := Lib.hid hQ
        have Hmd := Lib.hid hmd
        clear hE hE1 hq hqa hqm hcl hPr hown hbel hbA hQ hmd
        go_wp2_with fail
        refine Hcl.out.mono ?_
        rintro e w1 ⟨S2, n3, c3, rfl, rfl, hown2, hb1⟩
        have hQn : F.length = n3 := HQ.out
        have hn3 : 0 < n3 := hpos
        obtain ⟨g2, cap2, hv2, hg2, hg2l⟩ := hown2.form hn3
        injection hv2 with hS2 _ hc2
        subst hS2
        subst hc2
        have hown1 := own_below hownA hb1
        have hbel1 := hbelA.trans (hb1.mono hbelA.size)
        have hcell2 : ∀ j u, (iCells F)[j]? = some u → w1.cell? ⟨g2, j, none⟩ = some u := fun j u hu => by
          have := hown2.cells (g := g2) rfl j u hu
          rwa [Addr.add_lit, Nat.zero_add] at this
        have hne2 : Hid (Value.ownBlock (.slice S m cl) ≠ some g2 ∧ g2 < w1.heap.size) := by
          refine ⟨fun e => ?_, hg2l⟩
          have h1 := (hownA.lt _ e).2
          omega
        have HQn := Lib.hid hQn
        clear x0 x1 x2 x3 x4 x5 x6 hownA hown2 hb1 Hcl hbelA hg2 hg2l hQn
        go_wp2_with fail
        go_loopw [3, 22] (InwRel2 n3 g2 done (F.map (fun x => if x < 0 then 0 else x + (m : Int))) F m w) (fun _ iv _ => n3 - (intOf iv).toNat)
        case atStart => exact ⟨0, m, cl, S, done, rfl, rfl, Nat.zero_le _, rfl, hown1, by show done = _; simp, hcell2, hne2, hbel1⟩
        case round =>
          clear hown1 hcell2 hne2 hbel1
          obtain ⟨j, m2, cl2, S3, done2, rfl, rfl, hj, rfl, hown2, hD, hcell2, hne2, hbel2⟩ := hrel
          by_cases hjn : j < n3
          · have hjF : j < F.length := by rw [HQn.out]; exact hjn
            obtain ⟨x, hx⟩ : ∃ x, x = F[j] := ⟨_, rfl⟩
            have z1 : wr.cell? ⟨g2, j, none⟩ = some (.int .i64 x) := hcell2 j _ (by simp only [iCells, List.getElem?_map, List.getElem?_eq_getElem hjF, hx]; rfl)
            have hxb := Hbd.out x (by rw [hx]; exact List.getElem_mem hjF)
            have hT2 : ∀ y : Int, y = (if x < 0 then 0 else x + (m : Int)) → Hid (done2 ++ [y] = done ++ (F.map (fun x => if x < 0 then 0 else x + (m : Int))).take (j + 1)) := by
              intro y hy
              show _ = _
              rw [List.take_succ_eq_append_getElem (by simp; exact hjF), ← List.append_assoc, ← hD.out]
              simp only [List.getElem_map, ← hx, hy]
            have hsz2 := hbel2.size
            have h63 : m + j + 1 ≤ maxLen := by unfold maxLen; omega
            have h47 : (m + j + 1) * 8 ≤ 140737488355328 := by omega
            by_cases hx0 : x < 0
            · have hT3 := hT2 0 (by rw [if_pos hx0])
              clear hT2 hx hD
              have hd0 : decide (x < 0) = true := by simpa using hx0
              go_wp2_with (at_builtin; refine wpList_appB rfl _ _ 29 rfl w.heap.size 3 i0 (.int .i64 0) 1 8 Tryd.underlying29 hi0 hz0 hz1 hz2 rfl (by decide) S3 (m + j) cl2 (iCells done2) rfl (hown2.alloc _) _ _ 1 1 [.int .i64 0] rfl (Sl.one _ _ _) (iCells_one [0]) h63 h47 (by simp only [World.size_alloc]; omega) ?_)
              intro S' c' w4 hown4 hb4 hg4 hob
              have hbel4 := (hbel2.alloc hsz2 (.cells #[.int .i64 0] 3)).trans hb4
              have hc4 : ∀ j u, (iCells F)[j]? = some u → w4.cell? ⟨g2, j, none⟩ = some u := fun j u hu => by
                rw [World.cell?_of_block (hg4.block g2 (by have := hne2.out.2; simp; omega) (fun e => hne2.out.1 e.symm)), World.cell?_alloc_lt _ _ _ hne2.out.2]
                exact hcell2 j u hu
              have hn4 : Hid (Value.ownBlock (.slice S' (m + j + 1) c') ≠ some g2 ∧ g2 < w4.heap.size) := by
                have h2 := hne2.out.2
                have h3 := hb4.size
                simp only [World.size_alloc] at h3
                refine ⟨?_, by omega⟩
                rcases hob with h | h
                · rw [h]; exact hne2.out.1
                · rw [h]; intro e; injection e with e; omega
              clear hcell2 hne2 z1 hb4 hg4 hob
              go_wp2_with fail
              refine ⟨⟨j + 1, m + j + 1, c', S', done2 ++ [0], rfl, by go_num, by omega, by omega, ?_, hT3, hc4, hn4, hbel4⟩, by simp [intOf]; omega⟩
              rw [iCells_app]; exact hown4
            · have hT3 := hT2 (x + (m : Int)) (by rw [if_neg hx0])
              clear hT2 hx hD
              have hd0 : decide (x < 0) = false := by simpa using hx0
              have hxm : IntKind.i64.wrap (x + (m : Int)) = x + (m : Int) := by rw [IntKind.wrap_i64]; omega
              go_wp2_with (at_builtin; refine wpList_appB rfl _ _ 29 rfl w.heap.size 3 i0 (.int .i64 0) 1 8 Tryd.underlying29 hi0 hz0 hz1 hz2 rfl (by decide) S3 (m + j) cl2 (iCells done2) rfl (hown2.alloc _) _ _ 1 1 [.int .i64 (x + (m : Int))] rfl (Sl.one _ _ _) (iCells_one [x + (m : Int)]) h63 h47 (by simp only [World.size_alloc]; omega) ?_)
              intro S' c' w4 hown4 hb4 hg4 hob
              have hbel4 := (hbel2.alloc hsz2 (.cells #[.int .i64 (x + (m : Int))] 3)).trans hb4
              have hc4 : ∀ j u, (iCells F)[j]? = some u → w4.cell? ⟨g2, j, none⟩ = some u := fun j u hu => by
                rw [World.cell?_of_block (hg4.block g2 (by have := hne2.out.2; simp; omega) (fun e => hne2.out.1 e.symm)), World.cell?_alloc_lt _ _ _ hne2.out.2]
                exact hcell2 j u hu
              have hn4 : Hid (Value.ownBlock (.slice S' (m + j + 1) c') ≠ some g2 ∧ g2 < w4.heap.size) := by
                have h2 := hne2.out.2
                have h3 := hb4.size
                simp only [World.size_alloc] at h3
                refine ⟨?_, by omega⟩
                rcases hob with h | h
                · rw [h]; exact hne2.out.1
                · rw [h]; intro e; injection e with e; omega
              clear hcell2 hne2 z1 hb4 hg4 hob
              go_wp2_with fail
              refine ⟨⟨j + 1, m + j + 1, c', S', done2 ++ [x + (m : Int)], rfl, by go_num, by omega, by omega, ?_, hT3, hc4, hn4, hbel4⟩, by simp [intOf]; omega⟩
              rw [iCells_app]; exact hown4
          · obtain rfl : j = n3 := by omega
            have hE3 : Hid (inwsD done2 (p.parts.drop (i + 1)) = T ∧ done2.length = m + j) := by
              have h1 := hD.out
              rw [List.take_of_length_le (by rw [List.length_map, HQn.out]; exact Nat.le_refl _)] at h1
              refine ⟨by rw [h1]; exact HE1.out, ?_⟩
              rw [h1, List.length_append, List.length_map, HQn.out, Hmd.out]
            clear hD hcell2 hne2
            go_wp2_with fail
            exact ⟨⟨i + 1, m + j, cl2, S3, done2, rfl, by go_num, by omega, hown2, hE3, hbel2⟩, by simp [intOf]; omega⟩
      · have hE1 : Hid (done = T ∧ m = L) := by
          have h1 := hE.out.1
          rw [List.drop_of_length_le (by rw [hP.len]; omega), inwsD] at h1
          exact ⟨h1, by rw [← hE.out.2, h1]; exact HTl.out⟩
        clear hE
        go_wp2_with fail
        go_ret
        obtain ⟨rfl, rfl⟩ := hE1.out
        exact ⟨S, m, cl, rfl, rfl, hown, hbel⟩
end Go.Proofs.YtdhmmepcnladcaaDoor

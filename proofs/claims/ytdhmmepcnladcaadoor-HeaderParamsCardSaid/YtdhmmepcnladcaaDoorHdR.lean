import Derived.Test.YtdhmmepcnladcaaDoorHd7
namespace Go.Proofs.YtdhmmepcnladcaaDoor
open Go.RowKit

set_option maxRecDepth 100000 in
set_option maxHeartbeats 1000000 in
theorem small1L_any (l : List UInt8) (w : World) (hl : l.length ≤ maxLen) : Calls Tryd.prog 32 #[str l] w fun e w' => e = .returned (str (lowL l)) ∧ Below w.heap.size w w' := by
  unfold maxLen at hl
  obtain ⟨c, w1, hconv, hown, hc, hb1, hsz⟩ := run_toOwn (P := Tryd.prog) w 9 22 5 l Tryd.underlying9 Tryd.underlying22 Tryd.underlying5 rfl
  obtain ⟨n, hn⟩ : ∃ n, n = l.length := ⟨_, rfl⟩
  rw [← hn] at hconv hl hc
  have Hn := Lib.hid hn
  have Hown := Lib.hid hown
  have Hsz := Lib.hid hsz
  clear hn hown hsz
  go_enter Tryd.func32, Tryd.ntmps32
  go_wp2_with fail
  go_loopw [4, 5, 10] (fun _ _ iv wr => LowRel w n l iv wr) (fun _ _ iv _ => n - (intOf iv).toNat)
  case atStart => exact ⟨0, by omega, rfl, hb1, by simpa using Hown.out⟩
  case round =>
    obtain ⟨k, hk, rfl, hbel, hO⟩ := hrel
    have hlen : ((l.take k).map lowB ++ l.drop k).length = n := by
      simp only [List.length_append, List.length_map, List.length_take, List.length_drop]; have := Hn.out; omega
    by_cases hkn : k < n
    · have hkl : k < l.length := by rw [← Hn.out]; exact hkn
      have hfz := hO.fz k (by rw [hlen]; exact hkn)
      have hcell : wr.cell? ⟨w.heap.size, k, none⟩ = some (.int .u8 (nth l k)) := by
        obtain ⟨b, off, hA, _, hc⟩ := hO.by_.opn (by rw [hlen]; omega)
        injection hA with hA
        injection hA with hA hB _
        subst hA
        subst hB
        have := hc k (by rw [hlen]; exact hkn)
        rw [Nat.zero_add] at this
        rw [this]
        have e : nth ((l.take k).map lowB ++ l.drop k) k = nth l k := by
          have : ((l.take k).map lowB).length = k := by simp; omega
          unfold nth
          simp only [List.getD]
          rw [List.getElem?_append_right (by omega), this, Nat.sub_self, List.getElem?_drop, Nat.add_zero]
        rw [e]
      have hx := nth_lt l k
      have hset := (low_at l k hkl).2
      have hnk : l[k].toNat = nth l k := (nth_of l k hkl).symm
      have hO2 := hO.set k (lowB l[k])
      rw [← hset] at hO2
      have HO := Lib.hid hO
      have HO2 := Lib.hid hO2
      have Hset := Lib.hid hset
      have Hnk := Lib.hid hnk
      have Hlen := Lib.hid hlen
      clear hset hnk hO hO2 hlen
      have hsame : ¬ (65 ≤ nth l k ∧ nth l k ≤ 90) → LowRel w n l (.int .i64 ((k + 1 : Nat) : Int)) wr := by
        intro h
        refine ⟨k + 1, by omega, rfl, hbel, ?_⟩
        have e : lowB l[k] = l[k] := by
          unfold lowB
          rw [if_neg]
          intro ⟨h1, h2⟩
          have h1 := UInt8.le_iff_toNat_le.1 h1
          have h2 := UInt8.le_iff_toNat_le.1 h2
          rw [Hnk.out] at h1 h2
          exact h ⟨h1, h2⟩
        rw [Hset.out, e]
        have e2 : ((l.take k).map lowB ++ l.drop k)[k]'(by rw [Hlen.out]; exact hkn) = l[k] := by
          have : ((l.take k).map lowB).length = k := by simp; omega
          rw [List.getElem_append_right (by omega)]
          simp only [List.getElem_drop]
          congr 1
          omega
        rw [← e2, List.set_getElem_self]
        exact HO.out
      by_cases h1 : 65 ≤ nth l k
      · by_cases h2 : nth l k ≤ 90
        · clear hsame
          go_wp2_with fail
          refine ⟨⟨k + 1, by omega, by go_num, hbel.setCell (Nat.le_refl _) _, ?_⟩, by simp [intOf]; omega⟩
          have e : (lowB l[k]).toNat = nth l k + 32 := by
            unfold lowB
            rw [if_pos ⟨UInt8.le_iff_toNat_le.2 (by rw [Hnk.out]; exact h1), UInt8.le_iff_toNat_le.2 (by rw [Hnk.out]; exact h2)⟩, UInt8.toNat_add, Hnk.out]
            show (nth l k + 32) % 256 = _
            omega
          have e2 : ((nth l k : Nat) : Int) + 97 - 65 = (((lowB l[k]).toNat : Nat) : Int) := by rw [e]; omega
          rw [e2]
          exact HO2.out
        · have hs := Lib.hid (hsame (by omega))
          clear hsame
          go_wp2_with fail
          exact ⟨by have := hs.out; simpa using this, by simp [intOf]; omega⟩
      · have hs := Lib.hid (hsame (by omega))
        clear hsame
        go_wp2_with fail
        exact ⟨by have := hs.out; simpa using this, by simp [intOf]; omega⟩
    · have hkn' : k = n := by omega
      have hM : (l.take k).map lowB ++ l.drop k = lowL l := by
        rw [hkn', List.take_of_length_le (by rw [← Hn.out]; omega), List.drop_of_length_le (by rw [← Hn.out]; omega), List.append_nil]; rfl
      rw [hM] at hO hlen
      have hts := run_toStr (P := Tryd.prog) wr 22 9 5 _ (some ⟨w.heap.size, 0, none⟩) n c (lowL l) (by have := hO.by_; rw [hlen] at this; exact this) Tryd.underlying22 Tryd.underlying5 Tryd.underlying9
      clear hO hM hlen hkn'
      go_wp2_with fail
      go_ret
      exact ⟨rfl, hbel⟩

theorem Contains_chr (l : List UInt8) (c : UInt8) (w : World) : Calls Tryd.prog 31 #[str l, .string ⟨#[c]⟩] w fun e w' => e = .returned (.bool (decide (0 ≤ Lib.indexByte l c))) ∧ w' = w := Go.Proofs.Tryd.strings_Contains_one ⟨l.toArray⟩ c w
theorem has_quote (v : List UInt8) : decide (0 ≤ Lib.indexByte v 34) = false ↔ (34 : UInt8) ∉ v := by
  rw [decide_eq_false_iff_not, ← indexByte_neg v 34]
  omega
theorem upto_str (w : World) (A : Option Addr) (n c : Nat) (ki : IntKind) (k : Int) (h0 : 0 ≤ k) (h1 : k ≤ n) (hc : n ≤ c) :
    (Instr.slice 41 (.slice A n c) none (some (.int ki k)) none).run Tryd.prog w = .ok (.slice (cutA A c 0 1) k.toNat c) w :=
  run_upto w _ _ 1 Tryd.underlying41 (Tryd.sizeOf9 w) A n c ki k h0 h1 hc
attribute [local go_sem high] upto_str
theorem strs_at {w : World} {B n : Nat} {A : Option Addr} {ts : List (List UInt8)} (h : Sl w B 1 A n (ts.map str)) (i : Nat) (hi : i < n) : ∃ b off x, A = some ⟨b, off, none⟩ ∧ b < B ∧ ts[i]? = some x ∧ w.cell? ⟨b, off + i, none⟩ = some (str x) := by
  obtain ⟨b, off, u, hA, hb, hu, hc⟩ := h.at_ hi
  rw [List.getElem?_map] at hu
  cases hx : ts[i]? with
  | none => rw [hx] at hu; cases hu
  | some x => rw [hx] at hu; injection hu with hu; exact ⟨b, off, x, hA, hb, rfl, by rw [hc, ← hu]⟩
def piecesT (ps : List PieceD) : List UInt8 := ps.flatMap PieceD.text
theorem piecesT_snoc (ps : List PieceD) (p : PieceD) : piecesT (ps ++ [p]) = piecesT ps ++ p.text := by simp [piecesT]
def HpRel (main : List UInt8) (n5 : Nat) (w : World) (sv lv iv : Value) (wr : World) : Prop :=
  ∃ (i : Nat) (ps : List PieceD) (S : Option Addr) (m c : Nat), sv = str (main ++ piecesT ps) ∧ lv = .slice S m c ∧ iv = .int .i64 (i : Nat) ∧ i ≤ n5 ∧ m ≤ i ∧ m ≤ c ∧ Hid (ps.length = m ∧ (∀ p ∈ ps, p.good)) ∧ Hid ((piecesT ps).length ≤ 940 * m) ∧
    wr.ownsRow w.heap.size 46 2 (.slice S m c) m (fieldC (ps.map PieceD.field)) ∧ Below w.heap.size w wr
def TrueH (w : World) (e : Ending) (w' : World) : Prop := e = .returned (.bool true) ∧ Below w.heap.size w w'
set_option maxRecDepth 100000 in
set_option maxHeartbeats 4000000 in
theorem HeaderParams_walk (main : List UInt8) (ns vs : List (List UInt8)) (A1 : Option Addr) (n1 c1 : Nat) (A2 : Option Addr) (n2 c2 : Nat) (w : World) (hm : main.length ≤ maxLen)
    (h1 : Sl w w.heap.size 1 A1 n1 (ns.map str)) (hn1 : n1 ≤ c1) (hm1 : c1 ≤ maxLen) (hx1 : ∀ x ∈ ns, x.length ≤ maxLen) (h2 : Sl w w.heap.size 1 A2 n2 (vs.map str)) (hn2 : n2 ≤ c2) (hm2 : c2 ≤ maxLen) (hx2 : ∀ x ∈ vs, x.length ≤ maxLen) :
    Calls Tryd.prog 4 #[str main, .slice A1 n1 c1, .slice A2 n2 c2] w (TrueH w) := by
  obtain ⟨i0, hi0, hz0, hz1, hz2⟩ := info_parts infoField
  have htm := fun W => Token_any main W hm
  cases htk : tokB main
  case false =>
    rw [htk] at htm
    have Htm := Lib.hid htm
    clear htm htk h1 h2 hx1 hx2
    go_enter Tryd.func4, Tryd.ntmps4
    go_wp2_with fail
    refine (headed_any _).mono ?_
    rintro e w1 ⟨rfl, hb1⟩
    go_wp2_with fail
    refine (Htm.out _).mono ?_
    rintro e w2 ⟨rfl, hb2⟩
    have hb2 := hb1.trans (hb2.mono hb1.size)
    go_wp2_with fail
    refine (headed_any _).mono ?_
    rintro e w3 ⟨rfl, hb3⟩
    go_wp2_with fail
    go_ret
    exact ⟨rfl, hb2.trans (hb3.mono hb2.size)⟩
  case true =>
    rw [htk] at htm
    have hm30 : main.length ≤ 30 := (tok_mem htk).2.1
    have Htk := Lib.hid htk
    have Htm := Lib.hid htm
    obtain ⟨n5, hn5⟩ : ∃ n5, n5 = min n1 5 := ⟨_, rfl⟩
    have hmi : min (n1 : Int) 5 = (n5 : Int) := by omega
    have hn51 : n5 ≤ n1 := by omega
    have hn55 : n5 ≤ 5 := by omega
    have h1u : Sl w w.heap.size 1 (cutA A1 c1 0 1) n5 ((ns.take n5).map str) := by
      have h0 := h1.cut (k := 0) (c := c1) (by omega) hn1
      have := h0.upto (k := n5) (by omega)
      simpa [List.map_take] using this
    have H1 := Lib.hid h1u
    have H2 := Lib.hid h2
    have HX1 := Lib.hid (show ∀ x ∈ ns.take n5, x.length ≤ maxLen from fun x hx => hx1 x (List.mem_of_mem_take hx))
    have HX2 := Lib.hid hx2
    unfold maxLen at hm1 hm2
    generalize hX1 : cutA A1 c1 0 1 = X1 at H1
    generalize ns.take n5 = ts at H1 HX1
    have Hmn := Lib.hid hn5
    clear htm htk h1 h2 hx1 hx2 h1u hn5
    go_enter Tryd.func4, Tryd.ntmps4
    go_wp2_with fail
    refine (headed_any _).mono ?_
    rintro e w1 ⟨rfl, hb1⟩
    go_wp2_with fail
    refine (Htm.out _).mono ?_
    rintro e w2 ⟨rfl, hb2⟩
    have hb2 := hb1.trans (hb2.mono hb1.size)
    clear hb1
    go_wp2_with fail
    try rw [hX1]
    clear hX1
    go_loopw [7, 8, 30] (HpRel main n5 w) (fun _ _ iv _ => n5 - (intOf iv).toNat)
    case atStart => exact ⟨0, [], none, 0, 0, by simp [piecesT], rfl, rfl, Nat.zero_le _, Nat.le_refl _, Nat.le_refl _, ⟨rfl, fun p h => (by cases h)⟩, by show _ ≤ _; simp [piecesT], World.ownsRow_nil _ _ _ _, hb2⟩
    case round =>
      clear hb2
      obtain ⟨i, ps, S, m, c, rfl, rfl, rfl, hi, hmi5, hmc, hps, hpl, hown, hbel⟩ := hrel
      by_cases hin : i < n5
      · obtain ⟨b, off, x, rfl, hbb, hx, x0⟩ := strs_at (H1.out.below hbel) i hin
        have hxl := HX1.out x (List.mem_of_getElem? hx)
        have htx := fun W => Token_any x W hxl
        have hi5 : i < 5 := by omega
        have hpl9 : main.length + (piecesT ps).length ≤ 5000 := by have := hpl.out; omega
        have hcont : ∀ wr', Below w.heap.size w wr' → wr'.ownsRow w.heap.size 46 2 (.slice S m c) m (fieldC (ps.map PieceD.field)) → HpRel main n5 w (str (main ++ piecesT ps)) (.slice S m c) (.int .i64 ((i + 1 : Nat) : Int)) wr' := fun wr' hb' ho' => ⟨i + 1, ps, S, m, c, rfl, rfl, rfl, by omega, by omega, hmc, hps, hpl, ho', hb'⟩
        have HC := Lib.hid hcont
        have hlp : (piecesT ps).length ≤ 4700 := by have := hpl.out; omega
        generalize hpsT : piecesT ps = T at hlp
        have HpsT := Lib.hid hpsT
        clear hcont hpsT hpl9
        cases htxk : tokB x
        case false =>
          rw [htxk] at htx
          have Htx := Lib.hid htx
          clear htx htxk hx
          go_wp2_with fail
          refine (Htx.out _).mono ?_
          rintro e w3 ⟨rfl, hb3⟩
          have hbw := hbel.trans (hb3.mono hbel.size)
          have how := own_below hown hb3
          clear x0
          go_wp2_with fail
          exact ⟨by have := HC.out _ hbw how; rw [HpsT.out] at this; simpa using this, by simp [intOf]; omega⟩
        case true =>
          rw [htxk] at htx
          have Htx := Lib.hid htx
          have hx30 : x.length ≤ 30 := (tok_mem htxk).2.1
          have HTK := Lib.hid htxk
          clear htx htxk
          by_cases hi2 : n2 ≤ i
          · have d2 : decide ((n2 : Int) ≤ (i : Int)) = true := by simp; omega
            clear hx
            go_wp2_with fail
            refine (Htx.out _).mono ?_
            rintro e w3 ⟨rfl, hb3⟩
            have hbw := hbel.trans (hb3.mono hbel.size)
            have how := own_below hown hb3
            clear x0
            go_wp2_with fail
            exact ⟨by have := HC.out _ hbw how; rw [HpsT.out] at this; simpa using this, by simp [intOf]; omega⟩
          · have d2 : decide ((n2 : Int) ≤ (i : Int)) = false := by simp; omega
            have hin2 : i < n2 := by omega
            obtain ⟨b2, off2, y, rfl, hbb2, hy, y0⟩ := strs_at (H2.out.below hbel) i hin2
            have hyl := HX2.out y (List.mem_of_getElem? hy)
            have hty := fun W => Token_any y W hyl
            have hvy := fun W => Value_any y W hyl
            have hcy := fun W => Contains_chr y 34 W
            have Hvy0 := Lib.hid hvy
            have Hcy0 := Lib.hid hcy
            have hsm := fun W => small1L_any x W (by unfold maxLen; omega)
            have Hsm := Lib.hid hsm
            clear hx hy hvy hcy hsm
            go_wp2_with fail
            refine (Htx.out _).mono ?_
            rintro e w3 ⟨rfl, hb3⟩
            have y0' := (hb3.cell (p := ⟨b2, off2 + i, none⟩) (Nat.lt_of_lt_of_le hbb2 hbel.size)).trans y0
            have hbw := hb3
            clear x0 y0 hb3
            cases htyk : tokB y
            case true =>
              rw [htyk] at hty
              have Hty := Lib.hid hty
              have hy30 : y.length ≤ 30 := (tok_mem htyk).2.1
              have HG : Hid (PieceD.good ⟨false, x, y⟩) := ⟨HTK.out, htyk⟩
              clear hty htyk Hvy0 Hcy0
              go_wp2_with fail
              refine (Hty.out _).mono ?_
              rintro e w4 ⟨rfl, hb4⟩
              have hbw := hbw.trans (hb4.mono hbw.size)
              clear y0' hb4
              have hownw := own_below hown hbw
              have hbelw := hbel.trans (hbw.mono hbel.size)
              have hszw := hbelw.size
              have Hown := Lib.hid hownw
              have h63 : m + 1 ≤ maxLen := by unfold maxLen; omega
              have h47 : (m + 1) * 32 ≤ 140737488355328 := by omega
              have hone : ∀ u ∈ [str (lowL x), str y], u.oneCell' = true := by intro u hu; simp at hu; rcases hu with rfl | rfl <;> rfl
              have Hone := Lib.hid hone
              clear hown hownw hone
              go_wp2_with fail
              refine (Hsm.out _).mono ?_
              rintro e w8 ⟨rfl, hb8⟩
              have hbel8 := hbelw.trans (hb8.mono hszw)
              have hown8 := own_below Hown.out hb8
              have hsz8 := hbel8.size
              clear hb8
              go_wp2_with (at_builtin; refine wpList_app rfl _ _ 42 rfl w.heap.size 46 i0 (.agg #[.string ⟨#[]⟩, .string ⟨#[]⟩]) 2 32 Tryd.underlying42 hi0 hz0 hz1 hz2 rfl (by decide) S m c (fieldC (ps.map PieceD.field)) rfl (hown8.alloc _) _ _ 1 1 [str (lowL x), str y] rfl (Sl.row _ _ 2 1 _ rfl) Hone.out h63 h47 ?c2 ?_)
              case c2 => simp; omega
              intro S' c' w9 hown9 hb9 _
              have hc' := own_cap hown9
              have hbel9 := (hbel8.alloc hsz8 (.cells #[str (lowL x), str y] 46)).trans hb9
              rw [show fieldC (ps.map PieceD.field) ++ [str (lowL x), str y] = fieldC ((ps ++ [(⟨false, x, y⟩ : PieceD)]).map PieceD.field) from by rw [List.map_append, fieldC_app]; rfl] at hown9
              have Hown9 := Lib.hid hown9
              clear hown8 hown9 hb9
              go_wp2_with fail
              refine ⟨⟨i + 1, ps ++ [(⟨false, x, y⟩ : PieceD)], S', m + 1, c', ?_, rfl, by go_num, by omega, by omega, hc', ⟨by simp [hps.out.1], ?_⟩, ?_, Hown9.out, hbel9⟩, by simp [intOf]; omega⟩
              · rw [← HpsT.out]; simp [piecesT_snoc, PieceD.text]
              · intro p hp
                rcases List.mem_append.1 hp with h | h
                · exact hps.out.2 p h
                · simp only [List.mem_cons, List.not_mem_nil, or_false] at h
                  subst h
                  exact HG.out
              · show _ ≤ _
                rw [piecesT_snoc, List.length_append]
                have := hpl.out
                simp [PieceD.text]
                omega
            case false =>
              rw [htyk] at hty
              have Hty := Lib.hid hty
              clear hty htyk
              go_wp2_with fail
              refine (Hty.out _).mono ?_
              rintro e w4 ⟨rfl, hb4⟩
              have hbw := hbw.trans (hb4.mono hbw.size)
              clear y0' hb4
              have hvy := Hvy0.out
              cases hvk : valB y
              case false =>
                rw [hvk] at hvy
                have Hvy := Lib.hid hvy
                clear hvy hvk Hvy0 Hcy0
                go_wp2_with fail
                refine (Hvy.out _).mono ?_
                rintro e w5 ⟨rfl, hb5⟩
                have hbw := hbw.trans (hb5.mono hbw.size)
                have how := own_below hown hbw
                have hbw2 := hbel.trans (hbw.mono hbel.size)
                go_wp2_with fail
                exact ⟨by have := HC.out _ hbw2 how; rw [HpsT.out] at this; simpa using this, by simp [intOf]; omega⟩
              case true =>
                rw [hvk] at hvy
                have Hvy := Lib.hid hvy
                have hcy := Hcy0.out
                have hq := has_quote y
                have hy9 : y.length ≤ 900 := (val_mem hvk).1
                generalize decide (0 ≤ Lib.indexByte y 34) = cq at hcy hq
                have Hcy := Lib.hid hcy
                have HVK := Lib.hid hvk
                clear hvy hvk hcy Hvy0 Hcy0
                go_wp2_with fail
                refine (Hvy.out _).mono ?_
                rintro e w5 ⟨rfl, hb5⟩
                have hbw := hbw.trans (hb5.mono hbw.size)
                clear hb5
                go_wp2_with fail
                refine (Hcy.out _).mono ?_
                rintro e w6 ⟨rfl, rfl⟩
                cases cq
                case true =>
                  have how := own_below hown hbw
                  have hbw2 := hbel.trans (hbw.mono hbel.size)
                  clear hq
                  go_wp2_with fail
                  exact ⟨by have := HC.out _ hbw2 how; rw [HpsT.out] at this; simpa using this, by simp [intOf]; omega⟩
                case false =>
                  have HG : Hid (PieceD.good ⟨true, x, y⟩) := ⟨HTK.out, HVK.out, hq.1 rfl⟩
                  clear hq
                  have hownw := own_below hown hbw
                  have hbelw := hbel.trans (hbw.mono hbel.size)
                  have hszw := hbelw.size
                  have Hown := Lib.hid hownw
                  have h63 : m + 1 ≤ maxLen := by unfold maxLen; omega
                  have h47 : (m + 1) * 32 ≤ 140737488355328 := by omega
                  have hone : ∀ u ∈ [str (lowL x), str y], u.oneCell' = true := by intro u hu; simp at hu; rcases hu with rfl | rfl <;> rfl
                  have Hone := Lib.hid hone
                  clear hown hownw hone
                  go_wp2_with fail
                  refine (Hsm.out _).mono ?_
                  rintro e w8 ⟨rfl, hb8⟩
                  have hbel8 := hbelw.trans (hb8.mono hszw)
                  have hown8 := own_below Hown.out hb8
                  have hsz8 := hbel8.size
                  clear hb8
                  go_wp2_with (at_builtin; refine wpList_app rfl _ _ 42 rfl w.heap.size 46 i0 (.agg #[.string ⟨#[]⟩, .string ⟨#[]⟩]) 2 32 Tryd.underlying42 hi0 hz0 hz1 hz2 rfl (by decide) S m c (fieldC (ps.map PieceD.field)) rfl (hown8.alloc _) _ _ 1 1 [str (lowL x), str y] rfl (Sl.row _ _ 2 1 _ rfl) Hone.out h63 h47 ?c2 ?_)
                  case c2 => simp; omega
                  intro S' c' w9 hown9 hb9 _
                  have hc' := own_cap hown9
                  have hbel9 := (hbel8.alloc hsz8 (.cells #[str (lowL x), str y] 46)).trans hb9
                  rw [show fieldC (ps.map PieceD.field) ++ [str (lowL x), str y] = fieldC ((ps ++ [(⟨true, x, y⟩ : PieceD)]).map PieceD.field) from by rw [List.map_append, fieldC_app]; rfl] at hown9
                  have Hown9 := Lib.hid hown9
                  clear hown8 hown9 hb9
                  go_wp2_with fail
                  refine ⟨⟨i + 1, ps ++ [(⟨true, x, y⟩ : PieceD)], S', m + 1, c', ?_, rfl, by go_num, by omega, by omega, hc', ⟨by simp [hps.out.1], ?_⟩, ?_, Hown9.out, hbel9⟩, by simp [intOf]; omega⟩
                  · rw [← HpsT.out]; simp [piecesT_snoc, PieceD.text]
                  · intro p hp
                    rcases List.mem_append.1 hp with h | h
                    · exact hps.out.2 p h
                    · simp only [List.mem_cons, List.not_mem_nil, or_false] at h
                      subst h
                      exact HG.out
                  · show _ ≤ _
                    rw [piecesT_snoc, List.length_append]
                    have := hpl.out
                    simp [PieceD.text]
                    omega
      · have hR : Hid (i = n5) := by show _ = _; omega
        have htr := fun W => TrimRight_any (main ++ piecesT ps) [32] W (by unfold maxLen; rw [List.length_append]; have := hpl.out; omega) (by decide) (by decide)
        have htrl := trimR_len (main ++ piecesT ps) [32]
        have hpl2 := hpl.out
        have hplaw := @params_law main ps Htk.out hps.out.2 (by rw [hps.out.1]; omega)
        rw [show main ++ ps.flatMap PieceD.text = main ++ piecesT ps from rfl] at hplaw
        generalize hTd : main ++ piecesT ps = T at htr htrl hplaw
        generalize Lib.trimRightS T [32] = T2 at htr htrl hplaw
        have hTl : T.length ≤ 5000 := by rw [← hTd, List.length_append]; omega
        have hvl := fun W => Value_any T2 W (by unfold maxLen; omega)
        have hsl := Sl.of_own hown
        have Htr := Lib.hid htr
        have Hsl := Lib.hid hsl
        clear htr hpl2 hpl hTd hsl hown
        cases hvk : valB T2
        case false =>
          rw [hvk] at hvl
          have Hvl := Lib.hid hvl
          clear hvl hvk hplaw
          go_wp2_with fail
          refine (Htr.out _).mono ?_
          rintro e w3 ⟨rfl, hb3⟩
          have hbw := hbel.trans (hb3.mono hbel.size)
          go_wp2_with fail
          refine (Hvl.out _).mono ?_
          rintro e w4 ⟨rfl, hb4⟩
          go_wp2_with fail
          go_ret
          exact ⟨rfl, hbw.trans (hb4.mono hbw.size)⟩
        case true =>
          rw [hvk] at hvl
          have Hvl := Lib.hid hvl
          have hpm := fun W => Params_any T2 W (by unfold maxLen; omega)
          rw [hplaw hvk] at hpm
          unfold ParamsRes at hpm
          have hml : (ps.map PieceD.field).length = m := by rw [List.length_map]; exact hps.out.1
          simp only [hml] at hpm
          have hsm := fun W => small1L_any main W (by unfold maxLen; omega)
          generalize ps.map PieceD.field = F at hpm Hsl
          have hFF : (F == F) = true := by simp
          have hMM : (lowL main == lowL main) = true := by simp
          generalize lowL main = lm at hpm hsm hMM
          have Hpm := Lib.hid hpm
          have Hsm := Lib.hid hsm
          clear hvl hvk hplaw hpm hsm hml
          go_wp2_with fail
          refine (Htr.out _).mono ?_
          rintro e w3 ⟨rfl, hb3⟩
          have hbw := hb3
          go_wp2_with fail
          refine (Hvl.out _).mono ?_
          rintro e w4 ⟨rfl, hb4⟩
          have hbw := hbw.trans (hb4.mono hbw.size)
          go_wp2_with fail
          refine (Hpm.out _).mono ?_
          rintro e w5 ⟨S5, c5, rfl, hs5, _, hc5, _, hb5⟩
          have hbw := hbw.trans (hb5.mono hbw.size)
          have Hs5 := Lib.hid hs5
          clear hs5 hb3 hb4 hb5
          go_wp2_with fail
          refine (Hsm.out _).mono ?_
          rintro e w6 ⟨rfl, hb6⟩
          have hbw := hbw.trans (hb6.mono hbw.size)
          have heq := Equal_fields S5 S m c5 m c _ _ F F w6 ((Hs5.out.below hb6).more hb6.size) ((Hsl.out.below hbw).more hbw.size) (by omega) (by omega)
          rw [hFF] at heq
          have Heq := Lib.hid heq
          have hbelw := hbel.trans (hbw.mono hbel.size)
          clear heq
          go_wp2_with fail
          refine Heq.out.mono ?_
          rintro e w7 ⟨rfl, q7, rfl⟩
          go_wp2_with fail
          go_ret
          exact ⟨rfl, belN hbelw q7⟩
end Go.Proofs.YtdhmmepcnladcaaDoor

import Derived.Test.YtoolfhjlhhcbgaaDoorBase
import Derived.Test.YtoolfhjlhhcbgaaDoorReadM
namespace Go.Proofs.YtoolfhjlhhcbgaaDoor
open Go.RowKit

theorem upto_bytes (w : World) (A : Option Addr) (n c : Nat) (ki : IntKind) (k : Int) (h0 : 0 ≤ k) (h1 : k ≤ n) (hc : n ≤ c) :
    (Instr.slice 22 (.slice A n c) none (some (.int ki k)) none).run Tryd.prog w = .ok (.slice (cutA A c 0 1) k.toNat c) w :=
  run_upto w _ _ 1 Tryd.underlying22 (Tryd.sizeOf5 w) A n c ki k h0 h1 hc
attribute [local go_sem high] cut_bytes upto_bytes

theorem infoInt : (Tryd.prog.info? 3).map (fun i => (i.zero, i.size, i.bytes)) = some (some (.int .i64 0), 1, 8) := by kernel_rfl

theorem IndexByte_any (l : List UInt8) (x : Nat) (hx : x < 256) (w : World) :
    Calls Tryd.prog 45 #[str l, .int .u8 (x : Int)] w fun e w' => e = .returned (.int .i64 (idxI l x)) ∧ w = w' := by
  refine (Go.Proofs.Tryd.strings_IndexByte ⟨l.toArray⟩ (x : Int) w).mono ?_
  rintro e w' ⟨rfl, rfl⟩
  refine ⟨?_, rfl⟩
  show Ending.returned (.int .i64 (Lib.indexByte l (((x : Int).toNat).toUInt8))) = _
  rfl

/-- What base.Read leaves. -/
def BytesRes (w : World) (r : List UInt8 × Nat) (e : Ending) (w' : World) : Prop :=
  ∃ A c, e = .returned (.tuple #[.slice A r.1.length c, .int .i64 r.2]) ∧ By w' w'.heap.size A r.1.length r.1 ∧ r.1.length ≤ c ∧ Below w.heap.size w w'
theorem BytesRes.fail {w w' : World} (k : Nat) (h : Below w.heap.size w w') : BytesRes w ([], k) (.returned (.tuple #[.slice none 0 0, .int .i64 (k : Int)])) w' :=
  ⟨none, 0, rfl, By.nil_ _ _ _, Nat.le_refl _, h⟩

def ReadRel1 (n : Nat) (s : List UInt8) (R : Option (List Nat × Nat)) (w1 : World) (vv pv iv : Value) (wr : World) : Prop :=
  ∃ i pad m c vals V, vv = .slice V m c ∧ pv = .int .i64 (pad : Nat) ∧ iv = .int .i64 (i : Nat) ∧ i ≤ n ∧ pad ≤ m ∧ m ≤ i ∧ Hid (vals.length = m ∧ (∀ x ∈ vals, x < 64) ∧ scanB vals pad (s.drop i) = R) ∧
    wr.ownsRow w1.heap.size 3 1 (.slice V m c) m (intCells vals) ∧ Below w1.heap.size w1 wr

def ReadRel2 (m : Nat) (vals : List Nat) (w2 : World) (ov iv : Value) (wr : World) : Prop :=
  ∃ p ol oc out O, ov = .slice O ol oc ∧ iv = .int .i64 (p : Nat) ∧ p ≤ m ∧ p % 4 = 0 ∧ ol * 4 = 3 * p ∧ ol ≤ oc ∧ Hid (out.length = ol ∧ out ++ bytes3 (vals.drop p) = bytes3 vals) ∧
    wr.ownsRow w2.heap.size 5 1 (.slice O ol oc) ol (Lib.byteCells out) ∧ Below w2.heap.size w2 wr

set_option maxRecDepth 100000 in
set_option maxHeartbeats 1000000 in
theorem Read_any (s : List UInt8) (w : World) (hs : s.length ≤ 9223372036854775807) :
    Calls Tryd.prog 9 #[str s] w (BytesRes w (readB s)) := by
  obtain ⟨i0, hi0, hz0, hz1, hz2⟩ := info_parts infoInt
  obtain ⟨j0, hj0, hjz0, hjz1, hjz2⟩ := info_parts infoByte
  by_cases h8 : 8000 < s.length
  · have hr : readB s = ([], 2) := by unfold readB; rw [if_pos h8]
    rw [hr]
    go_enter Tryd.func9, Tryd.ntmps9
    go_wp2_with fail
    go_ret2
    exact BytesRes.fail 2 (Below.refl _ _)
  · obtain ⟨R, hR⟩ : ∃ R, R = scanB [] 0 s := ⟨_, rfl⟩
    obtain ⟨r, hr⟩ : ∃ r, r = readB s := ⟨_, rfl⟩
    have hr2 : Hid (r = readFin R) := by
      show r = _
      rw [hr, hR]; unfold readB; rw [if_neg h8]
    rw [← hr]
    have HR := Lib.hid hR; clear hR hr
    obtain ⟨n, hn⟩ : ∃ n, n = s.length := ⟨_, rfl⟩
    have h8n : n ≤ 8000 := by omega
    obtain ⟨A, c, w1, hconv, hby, hnc, hb1, hlt1⟩ := run_toBytes (P := Tryd.prog) w 9 22 5 s Tryd.underlying9 Tryd.underlying22 Tryd.underlying5
    rw [← hn] at hconv hby hnc
    have Hn := Lib.hid hn
    have hlen : s.length ≤ 8000 := by omega
    clear hn h8 hs
    go_enter Tryd.func9, Tryd.ntmps9
    go_wp2_with fail
    go_loopw [4, 5, 20] (ReadRel1 n s R w1) (fun _ _ iv _ => n - (intOf iv).toNat)
    case atStart => exact ⟨0, 0, 0, 0, [], none, rfl, rfl, rfl, by omega, by omega, by omega, ⟨rfl, by simp, by rw [HR.out]; rfl⟩, World.ownsRow_nil _ _ _ _, Below.refl _ _⟩
    case round =>
      obtain ⟨i, pad, m, c4, vals, V, rfl, rfl, rfl, hi, hpm, hmi, hE, hown, hb2⟩ := hrel
      by_cases hin : i < n
      · obtain ⟨b, off, rfl, hbl, hcell1⟩ := hby.at_ hin
        have hcell : wr.cell? ⟨b, off + i, none⟩ = some (.int .u8 (nth s i)) := (hb2.cell (p := ⟨b, _, none⟩) hbl).trans hcell1
        have hx8 := nth_lt s i
        have his : Hid (i < s.length) := by rw [Hn.out] at hin; exact hin
        clear hcell1
        rcases blank_cases (nth s i) with ⟨hbk, h1⟩ | ⟨hbk, h1, h2⟩ | ⟨hbk, h1, h2, h3⟩ | ⟨hbk, h1, h2, h3, h4⟩ | ⟨hbk, h1, h2, h3, h4⟩
        case inr.inr.inr.inr =>
          have Hbk := Lib.hid hbk; clear hbk
          go_wp2_with fail
          refine (IndexByte_any letters _ hx8 _).mono ?_
          rintro e w2 ⟨rfl, rfl⟩
          have hbd := idxI_bd letters (nth s i)
          rw [letters_len] at hbd
          obtain ⟨hbd1, hbd2⟩ := hbd
          have h63 : m + 1 ≤ maxLen := by unfold maxLen; omega
          have h47 : (m + 1) * 8 ≤ 140737488355328 := by omega
          by_cases he : nth s i = 61
          · have he1 : ((nth s i : Int) == 61) = true := by simp [he]
            have HE := Lib.hid he; clear he
            go_wp2_with (at_builtin; refine wpList_app rfl _ _ 38 rfl w1.heap.size 3 i0 (.int .i64 0) 1 8 Tryd.underlying38 hi0 hz0 hz1 hz2 rfl (by decide) V m c4 (intCells vals) rfl (hown.alloc _) _ _ 1 1 [.int .i64 0] rfl (Sl.one _ _ _) ?c1 h63 h47 ?c2 ?_)
            case c1 => intro u hu; simp at hu; subst hu; rfl
            case c2 => have := hb2.size; simp; omega
            intro S' c' w3 hown3 hb3 _
            go_wp2_with fail
            exact ⟨⟨i + 1, pad + 1, m + 1, c', vals ++ [0], S', rfl, by go_num, by go_num, by omega, by omega, by omega,
              ⟨by simp [hE.out.1], by intro x hx; simp at hx; rcases hx with hx | hx; exact hE.out.2.1 x hx; omega, by rw [← scan_eq his.out Hbk.out HE.out]; exact hE.out.2.2⟩, by rw [intCells_append]; exact hown3, (hb2.alloc hb2.size _).trans hb3⟩, by simp [intOf]; omega⟩
          · have he1 : ((nth s i : Int) == 61) = false := by simp; omega
            by_cases hk0 : idxI letters (nth s i) < 0
            · have hR0 : R = none := by rw [← hE.out.2.2]; exact scan_bad his.out Hbk.out he (.inl hk0)
              have hr0 : Hid (r = ([], 1)) := by show r = _; rw [hr2.out, hR0]; rfl
              clear hR0 he
              go_wp2_with fail
              go_ret2
              rw [hr0.out]
              exact BytesRes.fail 1 (hb1.trans (hb2.mono (by omega)))
            · by_cases hp0 : 0 < pad
              · have hR0 : R = none := by rw [← hE.out.2.2]; exact scan_bad his.out Hbk.out he (.inr hp0)
                have hr0 : Hid (r = ([], 1)) := by show r = _; rw [hr2.out, hR0]; rfl
                clear hR0 he
                go_wp2_with fail
                go_ret2
                rw [hr0.out]
                exact BytesRes.fail 1 (hb1.trans (hb2.mono (by omega)))
              · have HE := Lib.hid he; clear he
                go_wp2_with (at_builtin; refine wpList_app rfl _ _ 38 rfl w1.heap.size 3 i0 (.int .i64 0) 1 8 Tryd.underlying38 hi0 hz0 hz1 hz2 rfl (by decide) V m c4 (intCells vals) rfl (hown.alloc _) _ _ 1 1 [.int .i64 (idxI letters (nth s i))] rfl (Sl.one _ _ _) ?c3 h63 h47 ?c4 ?_)
                case c3 => intro u hu; simp at hu; subst hu; rfl
                case c4 => have := hb2.size; simp; omega
                intro S' c' w3 hown3 hb3 _
                go_wp2_with fail
                have hkk : ((idxI letters (nth s i)).toNat : Int) = idxI letters (nth s i) := by omega
                refine ⟨⟨i + 1, pad, m + 1, c', vals ++ [(idxI letters (nth s i)).toNat], S', rfl, rfl, by go_num, by omega, by omega, by omega,
                  ⟨by simp [hE.out.1], ?_, by rw [← scan_val his.out Hbk.out HE.out (by omega) (by omega)]; exact hE.out.2.2⟩, ?_, (hb2.alloc hb2.size _).trans hb3⟩, by simp [intOf]; omega⟩
                · intro x hx
                  simp at hx
                  rcases hx with hx | hx
                  · exact hE.out.2.1 x hx
                  · omega
                · rw [intCells_append]; show World.ownsRow _ _ _ _ _ _ (_ ++ [Value.int .i64 ((idxI letters (nth s i)).toNat : Int)]); rw [hkk]; exact hown3
        all_goals
          have Hbk := Lib.hid hbk; clear hbk
          go_wp2_with fail
          exact ⟨⟨i + 1, pad, m, c4, vals, V, rfl, rfl, by go_num, by omega, by omega, by omega, ⟨hE.out.1, hE.out.2.1, by rw [← scan_blank his.out Hbk.out]; exact hE.out.2.2⟩, hown, hb2⟩, by simp [intOf]; omega⟩
      · obtain rfl : i = n := by omega
        have hRv : R = some (vals, pad) := by rw [← hE.out.2.2, List.drop_of_length_le (by rw [Hn.out]; exact Nat.le_refl _)]; rfl
        have hr3 : r = if m % 4 != 0 || decide (2 < pad) then ([], 1) else cutPad (bytes3 vals) pad := by rw [hr2.out, hRv, ← hE.out.1]; rfl
        have hbel := hb1.trans (hb2.mono (Nat.le_of_lt hlt1))
        clear HR hRv hr2
        by_cases h4 : m % 4 = 0
        · have h4b : ((m : Int) % 4 != 0) = false := by simp; omega
          by_cases hp2 : 2 < pad
          · have hr4 : Hid (r = ([], 1)) := by show r = _; rw [hr3]; simp [hp2]
            clear hr3
            go_wp2_with fail
            go_ret2
            rw [hr4.out]
            exact BytesRes.fail 1 hbel
          · have hr4 : Hid (r = cutPad (bytes3 vals) pad) := by show r = _; rw [hr3]; simp [h4]; omega
            clear hr3
            have hE2 := hE.out
            have HV := Lib.hid hE2.1
            have hv64 := Lib.hid hE2.2.1
            clear hE hE2
            go_wp2_with fail
            obtain ⟨w2, rfl⟩ : ∃ w2 : World, w2 = wr := ⟨_, rfl⟩
            have hSv := Sl.of_own hown
            clear hby hconv hnc
            go_loopw [9, 10] (ReadRel2 m vals w2) (fun _ iv _ => m - (intOf iv).toNat)
            case atStart => exact ⟨0, 0, 0, [], none, rfl, rfl, by omega, rfl, rfl, by omega, ⟨rfl, rfl⟩, World.ownsRow_nil _ _ _ _, Below.refl _ _⟩
            case round =>
              obtain ⟨p, ol, oc, out, O, rfl, rfl, hp, hp4, hol, hoc, hE, hown3, hb3⟩ := hrel
              by_cases hpm : p < m
              · obtain ⟨g, off, rfl, hg, hcells⟩ := ints_opn hSv (by omega)
                have hx : ∀ k, k < m → wr.cell? ⟨g, off + k, none⟩ = some (.int .i64 (nthN vals k : Nat)) := fun k hk => (hb3.cell (p := ⟨g, _, none⟩) hg).trans (hcells k hk)
                have x0 := hx p (by omega)
                have x1 := hx (p + 1) (by omega)
                have x2 := hx (p + 2) (by omega)
                have x3 := hx (p + 3) (by omega)
                clear hx hcells
                obtain ⟨a, ha⟩ : ∃ a, a = nthN vals p := ⟨_, rfl⟩
                obtain ⟨b, hb⟩ : ∃ a, a = nthN vals (p + 1) := ⟨_, rfl⟩
                obtain ⟨d, hd⟩ : ∃ a, a = nthN vals (p + 2) := ⟨_, rfl⟩
                obtain ⟨f, hf⟩ : ∃ a, a = nthN vals (p + 3) := ⟨_, rfl⟩
                rw [← ha] at x0; rw [← hb] at x1; rw [← hd] at x2; rw [← hf] at x3
                have a64 : a < 64 := by rw [ha]; exact nthN_lt vals _ 64 (by omega) hv64.out
                have b64 : b < 64 := by rw [hb]; exact nthN_lt vals _ 64 (by omega) hv64.out
                have d64 : d < 64 := by rw [hd]; exact nthN_lt vals _ 64 (by omega) hv64.out
                have f64 : f < 64 := by rw [hf]; exact nthN_lt vals _ 64 (by omega) hv64.out
                have Hnum : Hid (num4 a b d f = num4 (nthN vals p) (nthN vals (p + 1)) (nthN vals (p + 2)) (nthN vals (p + 3))) := by rw [← ha, ← hb, ← hd, ← hf]; rfl
                clear ha hb hd hf
                go_wp2_with fail
                have i1 : IntKind.i64.wrap ((p : Int) + 1) = (p : Int) + 1 := IntWalk.i64_in _ (by omega)
                have i2 : IntKind.i64.wrap ((p : Int) + 2) = (p : Int) + 2 := IntWalk.i64_in _ (by omega)
                have i3 : IntKind.i64.wrap ((p : Int) + 3) = (p : Int) + 3 := IntWalk.i64_in _ (by omega)
                have j1 : ((p : Int) + 1).toNat = p + 1 := by omega
                have j2 : ((p : Int) + 2).toNat = p + 2 := by omega
                have j3 : ((p : Int) + 3).toNat = p + 3 := by omega
                have l0 : (p : Int) < m := by omega
                have l1 : (p : Int) + 1 < m := by omega
                have l2 : (p : Int) + 2 < m := by omega
                have l3 : (p : Int) + 3 < m := by omega
                have k1 : 0 ≤ (p : Int) + 1 := by omega
                have k2 : 0 ≤ (p : Int) + 2 := by omega
                have k3 : 0 ≤ (p : Int) + 3 := by omega
                obtain ⟨v1, hv1⟩ : ∃ v, v = a * 262144 + b * 4096 := ⟨_, rfl⟩
                obtain ⟨v2, hv2⟩ : ∃ v, v = v1 + d * 64 := ⟨_, rfl⟩
                obtain ⟨v, hv⟩ : ∃ v, v = num4 a b d f := ⟨_, rfl⟩
                have hvv : v = v2 + f := by rw [hv, hv2, hv1]; rfl
                have v24 : v < 16777216 := by omega
                have o1 : bits .or .i64 ((a : Int) * 262144) ((b : Int) * 4096) = (v1 : Int) := by
                  have h := i64_or (a * 262144) (b * 4096) (by omega) (by omega)
                  rw [show a * 262144 ||| b * 4096 = v1 from by rw [hv1]; exact or_low a (b * 4096) 18 (by omega)] at h
                  simpa using h
                have o2 : bits .or .i64 (v1 : Int) ((d : Int) * 64) = (v2 : Int) := by
                  have h := i64_or v1 (d * 64) (by omega) (by omega)
                  rw [show v1 ||| d * 64 = v2 from by
                    rw [hv2, show v1 = (a * 64 + b) * 2 ^ 12 from by omega]; exact or_low _ (d * 64) 12 (by omega)] at h
                  simpa using h
                have o3 : bits .or .i64 (v2 : Int) (f : Int) = (v : Int) := by
                  have h := i64_or v2 f (by omega) (by omega)
                  rw [show v2 ||| f = v from by
                    rw [hvv, show v2 = (a * 4096 + b * 64 + d) * 2 ^ 6 from by omega]; exact or_low _ f 6 (by omega)] at h
                  exact h
                rw [← hv] at Hnum
                clear hv1 hv2 hvv hv
                go_quiet (fail)
                clear i1 i2 i3 j1 j2 j3 l0 l1 l2 l3 k1 k2 k3 o1 o2 o3 x0 x1 x2 x3
                have h63 : ol + 3 ≤ maxLen := by unfold maxLen; omega
                have h47 : (ol + 3) * 1 ≤ 140737488355328 := by omega
                go_wp2_with (at_builtin; refine wpList_app rfl _ _ 22 rfl w2.heap.size 5 j0 (.int .u8 0) 1 1 Tryd.underlying22 hj0 hjz0 hjz1 hjz2 rfl (by decide) O ol oc (Lib.byteCells out) rfl (World.ownsRow.alloc (w := wr.drewN nq) hown3 _) _ _ 3 3 [.int .u8 ((v : Int) / 65536), .int .u8 ((v : Int) / 256 % 256), .int .u8 ((v : Int) % 256)] rfl (Sl.row (wr.drewN nq) _ 1 3 _ rfl) ?c5 h63 h47 ?c6 ?_)
                case c5 => intro u hu; simp at hu; rcases hu with rfl | rfl | rfl <;> rfl
                case c6 => have := hb3.size; simp; omega
                intro S' c' w4 hown4 hb4 _
                have hc' : ol + 3 ≤ c' := by
                  rcases hown4.2 with ⟨_, h0⟩ | ⟨g', cap', cur', hv', _, _, hnc', _⟩
                  · omega
                  · injection hv' with _ _ hcc; omega
                go_wp2_with fail
                refine ⟨⟨p + 4, ol + 3, c', out ++ three v, S', rfl, by go_num, by omega, by omega, by omega, hc', ?_, ?_, ?_⟩, by simp [intOf]; omega⟩
                · have h1 := hE.out.1
                  have h2 := hE.out.2
                  have h3 := bytes3_step vals (p / 4) (by have := HV.out; omega)
                  rw [show 4 * (p / 4) = p from by omega, show 4 * (p / 4 + 1) = p + 4 from by omega, ← Hnum.out] at h3
                  refine ⟨by simp [three, h1], ?_⟩
                  rw [← h2, h3]; simp
                · rw [byteCells_append, three_cells v v24]; exact hown4
                · exact ((belN hb3 nq).alloc hb3.size _).trans hb4
              · obtain rfl : p = m := by omega
                have hE2 := hE.out.2
                rw [List.drop_of_length_le (by rw [HV.out]; exact Nat.le_refl _)] at hE2
                have hout : out = bytes3 vals := by rw [← hE2]; simp [bytes3]
                subst hout
                have hE1 := hE.out.1
                have hr5 : Hid (r = cutPad (bytes3 vals) pad) := hr4
                clear hE hE2 hr4
                have HE1 := Lib.hid hE1; clear hE1
                have hbel2 := hbel.trans (hb3.mono (Nat.le_trans (Nat.le_of_lt hlt1) hb2.size))
                have hByO := By.of_own hown3
                have hpol : pad ≤ ol := by omega
                obtain ⟨q, hq, hqo⟩ : ∃ q : Nat, (ol : Int) - (pad : Int) = (q : Int) ∧ Hid (q + pad = ol) := ⟨ol - pad, by omega, by show _ = _; omega⟩
                have hqle : q ≤ ol := by have := hqo.out; omega
                have hol8 : ol ≤ 6000 := by omega
                clear hb2 hb3 hbel hown hown3 hSv hpol
                go_wp2_with fail
                have hT := hByO.cut hqle hoc
                generalize cutA O oc q 1 = A5 at hT ⊢
                generalize hd : ol - q = d at hT ⊢
                have hdp : Hid (d = pad) := by have := hqo.out; show _ = _; omega
                have hd2 : d ≤ 2 := by have := hdp.out; omega
                clear hd
                go_loop [114] (fun iv => ∃ k : Nat, k ≤ d ∧ iv = .int .i64 k ∧ Hid (∀ j, j < k → nth ((bytes3 vals).drop q) j = 0)) (fun iv => d - (intOf iv).toNat)
                case atStart => exact ⟨0, by omega, rfl, fun j hj => absurd hj (by omega)⟩
                case round =>
                  obtain ⟨k, hk, rfl, hz⟩ := hrel
                  by_cases hkd : k < d
                  · obtain ⟨b, off, rfl, _, hc⟩ := hT.at_ hkd
                    by_cases hx0 : nth ((bytes3 vals).drop q) k = 0
                    · have hxb : ((nth ((bytes3 vals).drop q) k : Int) != 0) = false := by simp [hx0]
                      have HX := Lib.hid hx0; clear hx0
                      go_wp2_with fail
                      refine ⟨⟨k + 1, by omega, by go_num, fun j hj => ?_⟩, by simp [intOf]; omega⟩
                      rcases Nat.lt_or_ge j k with h | h
                      · exact hz.out j h
                      · rw [show j = k from by omega]; exact HX.out
                    · have hxb : ((nth ((bytes3 vals).drop q) k : Int) != 0) = true := by simp; omega
                      have hr6 : Hid (r = ([], 1)) := by
                        show r = _
                        rw [hr5.out]
                        exact cutPad_bad _ pad q k (by rw [HE1.out]; exact hqo.out) (by have := hdp.out; omega) hx0
                      clear hx0
                      go_wp2_with fail
                      go_ret2
                      rw [hr6.out]
                      exact BytesRes.fail 1 hbel2
                  · obtain rfl : k = d := by omega
                    have hr6 := cutPad_ok (bytes3 vals) pad q (by rw [HE1.out]; exact hqo.out) (fun j hj => hz.out j (by have := hdp.out; omega))
                    rw [← hr5.out] at hr6
                    by_cases hq4 : 4000 < q
                    · have hr7 : Hid (r = ([], 2)) := by show r = _; rw [hr6, if_pos hq4]
                      clear hr6
                      go_wp2_with fail
                      go_ret2
                      rw [hr7.out]
                      exact BytesRes.fail 2 hbel2
                    · have hr7 : Hid (r = ((bytes3 vals).take q, 0)) := by show r = _; rw [hr6, if_neg hq4]
                      clear hr6
                      go_wp2_with fail
                      go_ret2
                      rw [hr7.out]
                      have hlq : ((bytes3 vals).take q).length = q := by rw [List.length_take, HE1.out]; omega
                      refine ⟨cutA O oc 0 1, oc, ?_, ?_, ?_, hbel2⟩
                      · show _ = Ending.returned (.tuple #[.slice _ ((bytes3 vals).take q).length _, .int .i64 ((0 : Nat) : Int)])
                        rw [hlq]; rfl
                      · show By _ _ _ ((bytes3 vals).take q).length ((bytes3 vals).take q)
                        rw [hlq]
                        have h := (hByO.cut (k := 0) (c := oc) (by omega) hoc).upto (k := q) (by omega)
                        simpa using h
                      · show ((bytes3 vals).take q).length ≤ oc
                        rw [hlq]; omega
        · have h4b : ((m : Int) % 4 != 0) = true := by simp; omega
          have hr4 : Hid (r = ([], 1)) := by show r = _; rw [hr3]; simp [h4]
          clear hr3
          go_wp2_with fail
          go_ret2
          rw [hr4.out]
          exact BytesRes.fail 1 hbel
end Go.Proofs.YtoolfhjlhhcbgaaDoor

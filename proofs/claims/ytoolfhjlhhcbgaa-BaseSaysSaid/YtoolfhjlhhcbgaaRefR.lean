import Derived.Test.YtoolfhjlhhcbgaaRead
import Derived.Test.YtoolfhjlhhcbgaaRefRM
namespace Go.Proofs.Ytoolfhjlhhcbgaa
open Go.RowKit
theorem mid_ints (w : World) (A : Option Addr) (n c : Nat) (ki kj : IntKind) (i j : Int) (h0 : 0 ≤ i) (h1 : i ≤ j) (h2 : j ≤ n) (hc : n ≤ c) :
    (Instr.slice 24 (.slice A n c) (some (.int ki i)) (some (.int kj j)) none).run Try.prog w = .ok (.slice (cutA A c i.toNat 1) (j.toNat - i.toNat) (c - i.toNat)) w :=
  run_mid w _ _ 1 Try.underlying24 (Try.sizeOf3 w) A n c ki kj i j h0 h1 h2 hc
attribute [local go_sem high] cut_bytes upto_bytes mid_ints

def RRel1 (n : Nat) (s : List UInt8) (R : Option (List Nat × Nat)) (w : World) (bv ev lv iv : Value) (wr : World) : Prop :=
  ∃ i pad m mb c vals V, bv = .slice V mb c ∧ ev = .int .i64 (pad : Nat) ∧ lv = .int .i64 (m : Nat) ∧ iv = .int .i64 (i : Nat) ∧ i ≤ n ∧ pad ≤ m ∧ m ≤ i ∧ mb = 6 * m ∧ Hid (vals.length = m ∧ (∀ x ∈ vals, x < 64) ∧ scanB vals pad (s.drop i) = R) ∧
    wr.ownsRow w.heap.size 3 1 (.slice V mb c) mb (intCells (bits6 vals)) ∧ Below w.heap.size w wr
def RRelB (mb v : Nat) (bs : List Nat) (w : World) (bv kv : Value) (wr : World) : Prop :=
  ∃ (e mc c : Nat) (V : Option Addr), bv = .slice V mc c ∧ kv = .int .i64 ((e : Int) - 1) ∧ e ≤ 6 ∧ mc + e = mb + 6 ∧ wr.ownsRow w.heap.size 3 1 (.slice V mc c) mc (intCells (bs ++ (six v).take (6 - e))) ∧ Below w.heap.size w wr

def RRel3 (mb : Nat) (bs : List Nat) (w2 : World) (ov iv : Value) (wr : World) : Prop :=
  ∃ (p ol oc : Nat) (out : List UInt8) (O : Option Addr), ov = .slice O ol oc ∧ iv = .int .i64 (p : Nat) ∧ p ≤ mb ∧ p = 8 * ol ∧ ol ≤ oc ∧ Hid (out.length = ol ∧ out ++ bytes8 ((mb - p) / 8) (bs.drop p) = bytes8 (mb / 8) bs) ∧
    wr.ownsRow w2.heap.size 5 1 (.slice O ol oc) ol (Lib.byteCells out) ∧ Below w2.heap.size w2 wr

set_option maxRecDepth 100000 in
set_option maxHeartbeats 2000000 in
theorem BaseRead_any (s : List UInt8) (w : World) (hs : s.length ≤ 9223372036854775807) :
    Calls Try.prog 13 #[str s] w (BytesRes w (readB s)) := by
  obtain ⟨i0, hi0, hz0, hz1, hz2⟩ := info_parts infoInt
  obtain ⟨j0, hj0, hjz0, hjz1, hjz2⟩ := info_parts infoByte
  by_cases h8 : 8000 < s.length
  · have hr : readB s = ([], 2) := by unfold readB; rw [if_pos h8]
    rw [hr]
    go_enter Try.func13, Try.ntmps13
    go_wp2_with fail
    go_ret2
    exact BytesRes.fail 2 (Below.refl _ _)
  · obtain ⟨R, hR⟩ : ∃ R, R = scanB [] 0 s := ⟨_, rfl⟩
    obtain ⟨r, hr⟩ : ∃ r, r = readB s := ⟨_, rfl⟩
    have hr2 : Hid (r = readFin R) := by
      show r = _
      rw [hr, hR]; unfold readB; rw [if_neg h8]
    rw [← hr]
    have HR := Lib.hid hR; clear hR hr
    have hlen : s.length ≤ 8000 := by omega
    clear h8 hs
    go_enter Try.func13, Try.ntmps13
    go_wp2_with fail
    go_loopw [4, 5, 6, 21] (RRel1 s.length s R w) (fun _ _ _ iv _ => s.length - (intOf iv).toNat)
    case atStart =>
      refine ⟨0, 0, 0, 0, 0, [], _, rfl, rfl, rfl, rfl, by omega, by omega, by omega, rfl, ⟨rfl, by simp, by rw [HR.out]; rfl⟩, ?_, (Below.refl _ _).alloc (Nat.le_refl _) _⟩
      exact ⟨rfl, .inr ⟨w.heap.size, 0, #[], rfl, Nat.le_refl _, heap_alloc_new w _, Nat.le_refl _, Nat.zero_le _, rfl, rfl⟩⟩
    case round =>
      obtain ⟨i, pad, m, mb, c4, vals, V, rfl, rfl, rfl, rfl, hi, hpm, hmi, hmb, hE, hown, hb2⟩ := hrel
      by_cases hin : i < s.length
      · have hx8 := nth_lt s i
        have HMB := Lib.hid hmb
        have hmb2 : mb ≤ 48000 := by omega
        clear hmb
        go_wp2_with fail
        refine (IndexByte_any [32, 9, 13, 10] _ hx8 _).mono ?_
        rintro e w2 ⟨rfl, rfl⟩
        have hib := idx_blank (nth s i) hx8
        by_cases hbk : blankN (nth s i) = true
        · have h0 := hib.2 hbk
          have Hbk := Lib.hid hbk
          clear hib hbk
          go_wp2_with fail
          exact ⟨⟨i + 1, pad, m, mb, c4, vals, V, rfl, rfl, rfl, by go_num, by omega, by omega, by omega, HMB.out, ⟨hE.out.1, hE.out.2.1, by rw [← scan_blank hin Hbk.out]; exact hE.out.2.2⟩, hown, hb2⟩, by simp [intOf]; omega⟩
        · have h0 : ¬ 0 ≤ idxI [32, 9, 13, 10] (nth s i) := fun h => hbk (hib.1 h)
          have hbk2 : blankN (nth s i) = false := by simpa using hbk
          have Hbk := Lib.hid hbk2
          clear hib hbk hbk2
          by_cases he : nth s i = 61
          · have he1 : ((nth s i : Int) == 61) = true := by simp [he]
            have HE := Lib.hid he; clear he
            go_wp2_with fail
            go_loopw [4, 9] (RRelB mb 0 (bits6 vals) w) (fun _ kv _ => (intOf kv + 1).toNat)
            case atStart => exact ⟨6, mb, c4, V, rfl, rfl, by omega, rfl, by simpa using hown, hb2⟩
            case round =>
              obtain ⟨e, mc, c5, V5, rfl, rfl, he6, hmc, hown5, hb5⟩ := hrel
              by_cases he1 : 1 ≤ e
              · have h63 : mc + 1 ≤ maxLen := by unfold maxLen; omega
                have h47 : (mc + 1) * 8 ≤ 140737488355328 := by omega
                have htn : ((e : Int) - 1).toNat = e - 1 := by omega
                obtain ⟨q, hq⟩ : ∃ q, q = 0 / 2 ^ (e - 1) % 2 := ⟨_, rfl⟩
                have hand : bits .and .i64 0 1 = (q : Int) := by rw [hq]; simp; decide
                have Hq := Lib.hid hq; clear hq
                have HMC := Lib.hid hmc
                have hmc2 : mc ≤ mb + 6 := by omega
                clear hmc
                go_wp2_with (at_builtin; refine wpList_app rfl _ _ 24 rfl w.heap.size 3 i0 (.int .i64 0) 1 8 Try.underlying24 hi0 hz0 hz1 hz2 rfl (by decide) V5 mc c5 _ rfl (hown5.alloc _) _ _ 1 1 [.int .i64 (q : Int)] rfl (Sl.one _ _ _) ?_ h63 h47 ?_ ?_)
                · intro u hu; simp at hu; subst hu; rfl
                · have := hb5.size; simp; omega
                intro S' c' w3 hown3 hb3 _
                go_wp2_with fail
                refine ⟨⟨e - 1, mc + 1, c', S', rfl, by first | go_num | (congr 1; omega), by omega, by have := HMC.out; omega, ?_, (hb5.alloc hb5.size _).trans hb3⟩, by simp [intOf]; omega⟩
                rw [← six_take 0 e he1 he6, ← Hq.out, ← List.append_assoc, intCells_append]
                exact hown3
              · obtain rfl : e = 0 := by omega
                have hmc0 : mc = mb + 6 := by omega
                subst hmc0
                have hown6 : wr.ownsRow w.heap.size 3 1 (.slice V5 (mb + 6) c5) (mb + 6) (intCells (bits6 (vals ++ [0]))) := by
                  rw [bits6_snoc]; simpa [six] using hown5
                go_wp2_with fail
                refine ⟨⟨i + 1, pad + 1, m + 1, mb + 6, c5, vals ++ [0], V5, rfl, by go_num, by go_num, by go_num, by omega, by omega, by omega, by have := HMB.out; omega,
                  ⟨by simp [hE.out.1], ?_, by rw [← scan_eq hin Hbk.out HE.out]; exact hE.out.2.2⟩, hown6, hb5⟩, by simp [intOf]; omega⟩
                intro x hx
                simp at hx
                rcases hx with hx | hx
                · exact hE.out.2.1 x hx
                · omega
          · have he1 : ((nth s i : Int) == 61) = false := by simp; omega
            have HE := Lib.hid he; clear he
            go_wp2_with fail
            refine (IndexByte_any letters _ hx8 _).mono ?_
            rintro e w2 ⟨rfl, rfl⟩
            have hbd := idxI_bd letters (nth s i)
            rw [letters_len] at hbd
            obtain ⟨hbd1, hbd2⟩ := hbd
            by_cases hk0 : idxI letters (nth s i) < 0
            · have hR0 : R = none := by rw [← hE.out.2.2]; exact scan_bad hin Hbk.out HE.out (.inl hk0)
              have hr0 : Hid (r = ([], 1)) := by show r = _; rw [hr2.out, hR0]; rfl
              clear hR0
              go_wp2_with fail
              go_ret2
              rw [hr0.out]
              exact BytesRes.fail 1 hb2
            · by_cases hp0 : 0 < pad
              · have hR0 : R = none := by rw [← hE.out.2.2]; exact scan_bad hin Hbk.out HE.out (.inr hp0)
                have hr0 : Hid (r = ([], 1)) := by show r = _; rw [hr2.out, hR0]; rfl
                clear hR0
                go_wp2_with fail
                go_ret2
                rw [hr0.out]
                exact BytesRes.fail 1 hb2
              · obtain ⟨v, hv⟩ : ∃ v : Nat, idxI letters (nth s i) = (v : Int) := ⟨(idxI letters (nth s i)).toNat, by omega⟩
                have hv64 : v < 64 := by omega
                rw [hv]
                have HV := Lib.hid hv
                clear hv hk0 hbd1 hbd2
                go_wp2_with fail
                go_loopw [4, 9] (RRelB mb v (bits6 vals) w) (fun _ kv _ => (intOf kv + 1).toNat)
                case atStart => exact ⟨6, mb, c4, V, rfl, rfl, by omega, rfl, by simpa using hown, hb2⟩
                case round =>
                  obtain ⟨e, mc, c5, V5, rfl, rfl, he6, hmc, hown5, hb5⟩ := hrel
                  by_cases he1 : 1 ≤ e
                  · have h63 : mc + 1 ≤ maxLen := by unfold maxLen; omega
                    have h47 : (mc + 1) * 8 ≤ 140737488355328 := by omega
                    have htn : ((e : Int) - 1).toNat = e - 1 := by omega
                    obtain ⟨q, hq⟩ : ∃ q, q = v / 2 ^ (e - 1) % 2 := ⟨_, rfl⟩
                    have hand : bits .and .i64 ((v : Int) / 2 ^ (e - 1)) 1 = (q : Int) := by
                      have h := i64_and (v / 2 ^ (e - 1)) 1 (Nat.lt_of_le_of_lt (Nat.div_le_self _ _) (by omega)) (by omega)
                      rw [Nat.and_one_is_mod, ← hq] at h
                      simpa using h
                    have Hq := Lib.hid hq; clear hq
                    have HMC := Lib.hid hmc
                    have hmc2 : mc ≤ mb + 6 := by omega
                    clear hmc
                    go_wp2_with (at_builtin; refine wpList_app rfl _ _ 24 rfl w.heap.size 3 i0 (.int .i64 0) 1 8 Try.underlying24 hi0 hz0 hz1 hz2 rfl (by decide) V5 mc c5 _ rfl (hown5.alloc _) _ _ 1 1 [.int .i64 (q : Int)] rfl (Sl.one _ _ _) ?_ h63 h47 ?_ ?_)
                    · intro u hu; simp at hu; subst hu; rfl
                    · have := hb5.size; simp; omega
                    intro S' c' w3 hown3 hb3 _
                    go_wp2_with fail
                    refine ⟨⟨e - 1, mc + 1, c', S', rfl, by first | go_num | (congr 1; omega), by omega, by have := HMC.out; omega, ?_, (hb5.alloc hb5.size _).trans hb3⟩, by simp [intOf]; omega⟩
                    rw [← six_take v e he1 he6, ← Hq.out, ← List.append_assoc, intCells_append]
                    exact hown3
                  · obtain rfl : e = 0 := by omega
                    have hmc0 : mc = mb + 6 := by omega
                    subst hmc0
                    have hown6 : wr.ownsRow w.heap.size 3 1 (.slice V5 (mb + 6) c5) (mb + 6) (intCells (bits6 (vals ++ [v]))) := by
                      rw [bits6_snoc]; simpa [six] using hown5
                    go_wp2_with fail
                    refine ⟨⟨i + 1, pad, m + 1, mb + 6, c5, vals ++ [v], V5, rfl, rfl, by go_num, by go_num, by omega, by omega, by omega, by have := HMB.out; omega,
                      ⟨by simp [hE.out.1], ?_, by rw [show v = (idxI letters (nth s i)).toNat from by rw [HV.out]; rfl, ← scan_val hin Hbk.out HE.out (by rw [HV.out]; omega) (by omega)]; exact hE.out.2.2⟩, hown6, hb5⟩, by simp [intOf]; omega⟩
                    intro x hx
                    simp at hx
                    rcases hx with hx | hx
                    · exact hE.out.2.1 x hx
                    · omega
      · have hRv : R = some (vals, pad) := by rw [← hE.out.2.2, List.drop_of_length_le (by omega)]; rfl
        have hr3 : r = if m % 4 != 0 || decide (2 < pad) then ([], 1) else cutPad (bytes3 vals) pad := by rw [hr2.out, hRv, ← hE.out.1]; rfl
        clear HR hRv hr2
        by_cases h4 : m % 4 = 0
        · have h4b : ((m : Int) % 4 != 0) = false := by simp; omega
          by_cases hp2 : 2 < pad
          · have hr4 : Hid (r = ([], 1)) := by show r = _; rw [hr3]; simp [hp2]
            clear hr3
            go_wp2_with fail
            go_ret2
            rw [hr4.out]
            exact BytesRes.fail 1 hb2
          · have hr4 : Hid (r = cutPad (bytes8 (3 * (m / 4)) (bits6 vals)) pad) := by
              show r = _
              rw [hr3, bytes8_bytes3 (m / 4) vals (by have := hE.out.1; omega) hE.out.2.1]
              simp [h4]; omega
            have hbl : Hid ((bits6 vals).length = mb) := by show _ = _; rw [bits6_len, hE.out.1, hmb]
            have H4 := Lib.hid h4
            have HMB := Lib.hid hmb
            have hmb2 : mb ≤ 48000 := by omega
            have hmb8 : mb % 24 = 0 := by omega
            clear hr3 h4 hmb hE
            go_wp2_with fail
            obtain ⟨w2, rfl⟩ : ∃ w2 : World, w2 = wr := ⟨_, rfl⟩
            have hSv := Sl.of_own hown
            go_loopw [10, 11] (RRel3 mb (bits6 vals) w2) (fun _ iv _ => mb - (intOf iv).toNat)
            case atStart => exact ⟨0, 0, 0, [], none, rfl, rfl, by omega, rfl, by omega, ⟨rfl, rfl⟩, World.ownsRow_nil _ _ _ _, Below.refl _ _⟩
            case round =>
              obtain ⟨p, ol, oc, out, O, rfl, rfl, hp, hol, hoc, hE, hown3, hb3⟩ := hrel
              by_cases hpm : p < mb
              · obtain ⟨g, off, rfl, hg, hcells⟩ := ints_opn hSv (by omega)
                have hx : ∀ k, k < mb → wr.cell? ⟨g, off + k, none⟩ = some (.int .i64 (nthN (bits6 vals) k : Nat)) := fun k hk => (hb3.cell (p := ⟨g, _, none⟩) hg).trans (hcells k hk)
                clear hcells
                have hmbc : mb ≤ c4 := by
                  rcases hown.2 with ⟨hv, _⟩ | ⟨g', cap', cur', hv', _, _, hnc', _⟩
                  · injection hv with hv1; cases hv1
                  · injection hv' with _ _ hcc; omega
                have q1 : (p : Int) + 8 ≤ mb := by omega
                have q2 : (p : Int) ≤ p + 8 := by omega
                have hcut : cutA (some (⟨g, off, none⟩ : Addr)) c4 p 1 = some ⟨g, off + p, none⟩ := by
                  unfold cutA; rw [if_neg (by omega), Option.map_some, Addr.add_lit, Nat.mul_one]
                have HOL := Lib.hid hol
                have hol2 : ol ≤ 6000 := by omega
                clear hol
                go_wp2_with fail
                go_loop [12, 78] (fun cv kv => ∃ k : Nat, k ≤ 8 ∧ kv = .int .i64 k ∧ cv = .int .i64 (binTo ((bits6 vals).drop p) k : Nat)) (fun _ kv => 8 - (intOf kv).toNat)
                case atStart => exact ⟨0, by omega, rfl, rfl⟩
                case round =>
                  obtain ⟨k, hk8, rfl, rfl⟩ := hrel
                  by_cases hk : k < 8
                  · have hck : wr.cell? ⟨g, off + p + k, none⟩ = some (.int .i64 (nthN (bits6 vals) (p + k) : Nat)) := by
                      rw [Nat.add_assoc]; exact hx (p + k) (by omega)
                    have hbv : binTo ((bits6 vals).drop p) k < 256 := by
                      have h1 := binTo_lt ((bits6 vals).drop p) (fun x hx => bits6_lt vals x (List.mem_of_mem_drop hx)) k
                      have h2 : 2 ^ k ≤ 2 ^ 8 := Nat.pow_le_pow_right (by omega) (by omega)
                      omega
                    have hnv : nthN (bits6 vals) (p + k) < 2 := nthN_lt _ _ 2 (by omega) (bits6_lt vals)
                    have hst : Hid (binTo ((bits6 vals).drop p) (k + 1) = 2 * binTo ((bits6 vals).drop p) k + nthN (bits6 vals) (p + k)) := by
                      show 2 * binTo ((bits6 vals).drop p) k + nthN ((bits6 vals).drop p) k = _
                      rw [nthN_drop]
                    clear hx
                    go_wp2_with fail
                    exact ⟨⟨k + 1, by omega, by go_num, by rw [hst.out]; go_num⟩, by simp [intOf]; omega⟩
                  · have hk88 : k = 8 := by omega
                    have hbv : binTo ((bits6 vals).drop p) k < 256 := by
                      have h1 := binTo_lt ((bits6 vals).drop p) (fun x hx => bits6_lt vals x (List.mem_of_mem_drop hx)) k
                      rw [hk88] at h1 ⊢; exact h1
                    have HK := Lib.hid hk88; clear hk88 hx
                    have h63 : ol + 1 ≤ maxLen := by unfold maxLen; omega
                    have h47 : (ol + 1) * 1 ≤ 140737488355328 := by omega
                    generalize hV : binTo ((bits6 vals).drop p) k = V at hbv ⊢
                    have HV := Lib.hid hV; clear hV
                    go_wp2_with (at_builtin; refine wpList_app rfl _ _ 27 rfl w2.heap.size 5 j0 (.int .u8 0) 1 1 Try.underlying27 hj0 hjz0 hjz1 hjz2 rfl (by decide) O ol oc (Lib.byteCells out) rfl (hown3.alloc _) _ _ 1 1 [.int .u8 (V : Int)] rfl (Sl.one _ _ _) ?c5 h63 h47 ?c6 ?_)
                    case c5 => first | rfl | (intro u hu; simp at hu; subst hu; rfl)
                    case c6 => have := hb3.size; simp; omega
                    intro S' c' w4 hown4 hb4 _
                    have hc' : ol + 1 ≤ c' := by
                      rcases hown4.2 with ⟨_, h0⟩ | ⟨g', cap', cur', hv', _, _, hnc', _⟩
                      · omega
                      · injection hv' with _ _ hcc; omega
                    go_wp2_with fail
                    refine ⟨⟨p + 8, ol + 1, c', out ++ [UInt8.ofNat V], S', rfl, by go_num, by omega, by have := HOL.out; omega, hc', ?_, ?_, (hb3.alloc hb3.size _).trans hb4⟩, by simp [intOf]; omega⟩
                    · refine ⟨by simp [hE.out.1], ?_⟩
                      have h2 := hE.out.2
                      have hol' := HOL.out
                      rw [show (mb - p) / 8 = (mb - (p + 8)) / 8 + 1 by omega, bytes8_step, List.drop_drop, ← HK.out, HV.out, HK.out] at h2
                      rw [← h2]; simp
                    · rw [byteCells_append]
                      have e : ((UInt8.ofNat V).toNat : Int) = (V : Int) := by rw [UInt8.toNat_ofNat']; omega
                      show World.ownsRow _ _ _ _ _ _ (_ ++ [Value.int .u8 ((UInt8.ofNat V).toNat : Int)])
                      rw [e]; exact hown4
              · have hpe : p = mb := by omega
                have hE2 := hE.out.2
                rw [hpe, Nat.sub_self] at hE2
                have hout : out = bytes8 (mb / 8) (bits6 vals) := by rw [← hE2]; simp [bytes8]
                have hmm : mb / 8 = 3 * (m / 4) := by have := HMB.out; have := H4.out; omega
                have hr5 : Hid (r = cutPad out pad) := by show r = _; rw [hr4.out, hout, hmm]
                have hol3 : Hid (out.length = ol) := hE.out.1
                have hpol : pad ≤ ol := by have := HMB.out; omega
                have hbel2 := hb2.trans (hb3.mono hb2.size)
                have hByO := By.of_own hown3
                have hol8 : ol ≤ 6000 := by omega
                obtain ⟨q, hq⟩ : ∃ q, Hid (q + pad = ol) := ⟨ol - pad, by show _ = _; omega⟩
                clear hr4 hE2 hout hmm hE hpe hol hown hown3 hb2 hb3 hSv hbl H4 HMB hmb8
                go_wp2_with fail
                go_loop [5, 10] (fun ev ov => ∃ (e k : Nat) (A' : Option Addr), ev = .int .i64 (e : Nat) ∧ ov = .slice A' k oc ∧ By wr wr.heap.size A' k (out.take k) ∧ e ≤ pad ∧ k ≤ ol ∧ Hid (q + e = k ∧ ∀ j, k ≤ j → j < ol → nth out j = 0)) (fun ev _ => (intOf ev).toNat)
                case atStart => exact ⟨pad, ol, O, rfl, rfl, by rw [take_len _ _ hol3.out]; exact hByO, Nat.le_refl _, Nat.le_refl _, ⟨hq.out, fun j h1 h2 => absurd h1 (by omega)⟩⟩
                case round =>
                  obtain ⟨e, k, A', rfl, rfl, hbA, hep, hkl, hz⟩ := hrel
                  have hqe := hz.out.1
                  by_cases he1 : 0 < e
                  · have hk1 : 1 ≤ k := by omega
                    have HQE := Lib.hid hqe; clear hqe
                    obtain ⟨b, off, rfl, _, hc⟩ := hbA.at_ (k := k - 1) (by omega)
                    rw [nth_take _ _ _ (by omega)] at hc
                    have i1 : ((k : Int) - 1).toNat = k - 1 := by omega
                    have i2 : 0 ≤ (k : Int) - 1 := by omega
                    have i3 : (k : Int) - 1 ≤ k := by omega
                    have i4 : k ≤ oc := by omega
                    by_cases hx0 : nth out (k - 1) = 0
                    · have hxb : ((nth out (k - 1) : Int) != 0) = false := by simp [hx0]
                      have HX := Lib.hid hx0; clear hx0
                      go_wp2_with fail
                      refine ⟨⟨e - 1, k - 1, _, by first | go_num | (congr 1; omega), rfl, ?_, by omega, by omega, by have := HQE.out; omega, fun j h1 h2 => ?_⟩, by simp [intOf]; omega⟩
                      · have h := hbA.upto (k := k - 1) (by omega)
                        rw [List.take_take, Nat.min_eq_left (by omega)] at h
                        exact h
                      · rcases Nat.lt_or_ge j k with h | h
                        · rw [show j = k - 1 by omega]; exact HX.out
                        · exact hz.out.2 j h h2
                    · have hxb : ((nth out (k - 1) : Int) != 0) = true := by simp; omega
                      have hr6 : Hid (r = ([], 1)) := by
                        show r = _
                        rw [hr5.out]
                        exact cutPad_bad2 _ pad q e (by rw [hol3.out]; exact hq.out) (by omega) hep (by rw [HQE.out]; exact hx0)
                      clear hx0
                      go_wp2_with fail
                      go_ret2
                      rw [hr6.out]
                      exact BytesRes.fail 1 hbel2
                  · obtain rfl : e = 0 := by omega
                    have hkq : k = q := by omega
                    subst hkq
                    have hr6 := cutPad_ok2 out pad k (by rw [hol3.out]; exact hq.out) (fun j h1 h2 => hz.out.2 j h1 (by rw [hol3.out] at h2; exact h2))
                    rw [← hr5.out] at hr6
                    clear hqe
                    have hlk : (out.take k).length = k := hbA.len
                    have HLK := Lib.hid hlk; clear hlk
                    by_cases hq4 : 4000 < k
                    · have hr7 : Hid (r = ([], 2)) := by show r = _; rw [hr6, if_pos hq4]
                      clear hr6
                      go_wp2_with fail
                      go_ret2
                      rw [hr7.out]
                      exact BytesRes.fail 2 hbel2
                    · have hr7 : Hid (r = (out.take k, 0)) := by show r = _; rw [hr6, if_neg hq4]
                      clear hr6
                      go_wp2_with fail
                      go_ret2
                      rw [hr7.out]
                      refine ⟨A', oc, ?_, ?_, ?_, hbel2⟩
                      · show _ = Ending.returned (.tuple #[.slice _ (out.take k).length _, .int .i64 ((0 : Nat) : Int)])
                        rw [HLK.out]; rfl
                      · show By _ _ _ (out.take k).length (out.take k)
                        rw [HLK.out]; exact hbA
                      · show (out.take k).length ≤ oc
                        rw [HLK.out]; omega
        · have h4b : ((m : Int) % 4 != 0) = true := by simp; omega
          have hr4 : Hid (r = ([], 1)) := by show r = _; rw [hr3]; simp [h4]
          clear hr3
          go_wp2_with fail
          go_ret2
          rw [hr4.out]
          exact BytesRes.fail 1 hb2
end Go.Proofs.Ytoolfhjlhhcbgaa

import Derived.Test.YtdhmmepcnladcaaDoorHd4
import Derived.Test.YtdhmmepcnladcaaDoorHdP
namespace Go.Proofs.YtdhmmepcnladcaaDoor
open Go.RowKit

/-! ### header.Params: the plain steps -/
theorem TrimLeft_any (l cs : List UInt8) (w : World) (hc : cs.length < 4294967281) (ha : cs.all (fun b => decide (b.toNat < 128)) = true) :
    Calls Tryd.prog 101 #[str l, .string ⟨cs.toArray⟩] w fun e w' => e = .returned (str (Lib.trimLeftS l cs)) ∧ Below w.heap.size w w' :=
  Any.strings_TrimLeft_laid Go.Proofs.Tryd.lays161 (by kernel_rfl) ⟨l.toArray⟩ ⟨cs.toArray⟩ w (by simpa [ByteArray.size] using hc) (ascii_of_all ha)
theorem trimL_len (l cs : List UInt8) : (Lib.trimLeftS l cs).length ≤ l.length := (List.dropWhile_suffix _).length_le
theorem trimR_len (l cs : List UInt8) : (Lib.trimRightS l cs).length ≤ l.length := by
  unfold Lib.trimRightS
  have := (List.dropWhile_suffix (cs.contains ·) (l := l.reverse)).length_le
  rw [List.length_reverse] at this ⊢
  exact this
theorem cut_lenF (l : List UInt8) (c : UInt8) : (Lib.cut l [c]).1.length ≤ l.length ∧ (Lib.cut l [c]).2.1.length ≤ l.length := by
  unfold Lib.cut
  split
  · simp; omega
  · simp
theorem loopP_end (k : Nat) (rest : List UInt8) (l : List FieldD) : loopP (k + 1) rest false l = (l, 0) := by rw [loopP, if_pos rfl]
section
variable {k : Nat} {rest : List UInt8} {l : List FieldD} {a name b v : List UInt8} {ok : Bool}
theorem loopP_bad (hc : Lib.cut (Lib.trimLeftS rest [32]) [61] = (a, b, ok)) (hn : Lib.trimS a [32] = name) (h : (!ok || !tokB name) = true) : loopP (k + 1) rest true l = ([], 1) := by
  rw [loopP, if_neg (by simp), hc]
  simp only
  rw [hn, if_pos h]
theorem loopP_quo {p t gap r2 : List UInt8} {ok2 more2 : Bool} (hc : Lib.cut (Lib.trimLeftS rest [32]) [61] = (a, b, true)) (hn : Lib.trimS a [32] = name) (ht : tokB name = true) (hv : Lib.trimLeftS b [32] = v) (hq : Lib.hasPrefix v [34] = true)
    (hd : Lib.cut (v.drop 1) [34] = (p, t, ok2)) (hg : Lib.cut t [59] = (gap, r2, more2)) :
    loopP (k + 1) rest true l = if ok2 = false then ([], 1) else if Lib.trimS gap [32] ≠ [] then ([], 1) else if 20 < (l ++ [FieldD.mk (lowL name) p]).length then ([], 2) else loopP k r2 more2 (l ++ [FieldD.mk (lowL name) p]) := by
  rw [loopP, if_neg (by simp), hc]
  simp only
  rw [hn, ht, if_neg (by simp), hv, if_pos hq, hd]
  simp only
  rw [hg]
theorem loopP_tok {p0 p r2 : List UInt8} {more2 : Bool} (hc : Lib.cut (Lib.trimLeftS rest [32]) [61] = (a, b, true)) (hn : Lib.trimS a [32] = name) (ht : tokB name = true) (hv : Lib.trimLeftS b [32] = v) (hq : Lib.hasPrefix v [34] = false)
    (hd : Lib.cut v [59] = (p0, r2, more2)) (hp : Lib.trimRightS p0 [32] = p) :
    loopP (k + 1) rest true l = if tokB p = false then ([], 1) else if 20 < (l ++ [FieldD.mk (lowL name) p]).length then ([], 2) else loopP k r2 more2 (l ++ [FieldD.mk (lowL name) p]) := by
  rw [loopP, if_neg (by simp), hc]
  simp only
  rw [hn, ht, if_neg (by simp), hv, if_neg (by rw [hq]; simp), hd]
  simp only
  rw [hp]
end
/-- What header.Params leaves. -/
def ParamsRes (r : List UInt8 × List FieldD × Nat) (w : World) (e : Ending) (w' : World) : Prop :=
  ∃ S c, e = .returned (.tuple #[str r.1, .slice S r.2.1.length c, .int .i64 (r.2.2 : Nat)]) ∧ Sl w' w'.heap.size 2 S r.2.1.length (fieldC r.2.1) ∧ smallF r.2.1 ∧ r.2.1.length ≤ c ∧ c ≤ maxLen ∧ Below w.heap.size w w'
theorem ParamsRes.fail (e : Nat) {w w' : World} (hb : Below w.heap.size w w') : ParamsRes ([], [], e) w (.returned (.tuple #[.string ⟨#[]⟩, .slice none 0 0, .int .i64 (e : Nat)])) w' :=
  ⟨none, 0, rfl, Sl.nil_ _ _ _ _, fun f h => (by cases h), Nat.le_refl _, Nat.zero_le _, hb⟩
def PmRel (main : List UInt8) (R : List FieldD × Nat) (w : World) (xv lv rv mv : Value) (wr : World) : Prop :=
  ∃ (k : Nat) (rest : List UInt8) (more : Bool) (out : List FieldD) (S : Option Addr) (m c : Nat), xv = str main ∧ lv = .slice S m c ∧ rv = str rest ∧ mv = .bool more ∧ Hid (loopP k rest more out = R ∧ rest.length + 2 ≤ k ∧ out.length = m ∧ (∀ f ∈ out, f.name.length ≤ 900 ∧ f.value.length ≤ 900)) ∧ rest.length ≤ 900 ∧ m ≤ 20 ∧ m ≤ c ∧
    wr.ownsRow w.heap.size 46 2 (.slice S m c) m (fieldC out) ∧ Below w.heap.size w wr
set_option maxRecDepth 100000 in
set_option maxHeartbeats 4000000 in
theorem Params_any (s : List UInt8) (w : World) (hs : s.length ≤ maxLen) :
    Calls Tryd.prog 34 #[str s] w (ParamsRes (paramsF s) w) := by
  obtain ⟨i0, hi0, hz0, hz1, hz2⟩ := info_parts infoField
  have hval := Value_any s w hs
  have hv9 : valB s = true → s.length ≤ 900 := fun h => (val_mem h).1
  unfold paramsF
  generalize valB s = vb at hval hv9
  cases vb
  case false =>
    simp only [if_true]
    have Hval := Lib.hid hval
    clear hval hv9
    go_enter Tryd.func34, Tryd.ntmps34
    go_wp2_with fail
    refine Hval.out.mono ?_
    rintro e w1 ⟨rfl, hb1⟩
    go_wp2_with fail
    go_ret3
    exact ParamsRes.fail 1 hb1
  case true =>
    have hs9 := hv9 rfl
    rw [if_neg (by simp)]
    have hcut := fun W => Cut_one s 59 W hs
    have hcl := cut_lenF s 59
    generalize Lib.cut s [59] = x at hcut hcl
    obtain ⟨head, rest0, more0⟩ := x
    simp only at hcut hcl ⊢
    have htr := fun W => Trim_any head [32] W (by unfold maxLen; omega) (by decide) (by decide)
    have htl := trim_len head [32]
    generalize Lib.trimS head [32] = hd at htr htl
    have hlow := fun W => lowerH_any hd W (by unfold maxLen; omega)
    generalize lowL hd = main at hlow
    obtain ⟨R, hR⟩ : ∃ R, loopP (s.length + 2) rest0 more0 [] = R := ⟨_, rfl⟩
    rw [hR]
    obtain ⟨r, hr⟩ : ∃ r, r = (if R.2 = 0 then (main, R.1, 0) else ([], [], R.2)) := ⟨_, rfl⟩
    rw [← hr]
    have hrest0 : rest0.length ≤ 900 := by omega
    have Hr0 := Lib.hid (show rest0.length + 2 ≤ s.length + 2 by omega)
    have HR := Lib.hid hR
    have Hr := Lib.hid hr
    have Hval := Lib.hid hval
    have Hcut := Lib.hid hcut
    have Htr := Lib.hid htr
    have Hlow := Lib.hid hlow
    clear hval hcut hcl htr htl hlow hR hr hv9
    go_enter Tryd.func34, Tryd.ntmps34
    go_wp2_with fail
    refine Hval.out.mono ?_
    rintro e w1 ⟨rfl, hb1⟩
    go_wp2_with fail
    refine (Hcut.out _).mono ?_
    rintro e w2 ⟨rfl, q, rfl⟩
    have hb2 := belN hb1 q
    go_wp2_with fail
    refine (Htr.out _).mono ?_
    rintro e w3 ⟨rfl, hb3⟩
    have hb4 := hb2.trans (hb3.mono hb2.size)
    clear hb2 hb3 hb1
    go_wp2_with fail
    refine (Hlow.out _).mono ?_
    rintro e w5 ⟨rfl, hb5⟩
    have hb6 := hb4.trans (hb5.mono hb4.size)
    clear hb4 hb5 Hval Hcut Htr Hlow
    go_wp2_with fail
    go_loopw [2, 3, 6, 7] (PmRel main R w) (fun _ _ rv _ _ => strLn rv)
    case atStart => exact ⟨s.length + 2, rest0, more0, [], none, 0, 0, rfl, rfl, rfl, rfl, ⟨HR.out, Hr0.out, rfl, fun f h => (by cases h)⟩, hrest0, Nat.zero_le _, Nat.le_refl _, World.ownsRow_nil _ _ _ _, hb6⟩
    case round =>
      clear HR Hr0 hb6
      obtain ⟨k, rest, more, out, S, m, cS, rfl, rfl, rfl, rfl, hE, hrl, hm20, hmc, hown, hbel⟩ := hrel
      obtain ⟨k, rfl⟩ : ∃ k', k = k' + 1 := ⟨k - 1, by have := hE.out.2.1; omega⟩
      cases more
      case false =>
        have hRv : R = (out, 0) := by rw [← hE.out.1, loopP_end]
        have hr1 : Hid (r = (main, out, 0)) := by show r = _; rw [Hr.out, hRv]; rfl
        have hsl := Sl.of_own hown
        have hcm := own_capF hown
        have Hol := Lib.hid hE.out.2.2.1
        have hsm : smallF out := fun f hf => by have := hE.out.2.2.2 f hf; unfold maxLen; omega
        have Hsl := Lib.hid hsl
        have Hsm := Lib.hid hsm
        clear hE hRv hsl hsm hown
        go_wp2_with fail
        go_ret3
        rw [hr1.out]
        exact ⟨S, cS, by rw [← Hol.out]; rfl, by rw [show (main, out, 0).2.1.length = m from Hol.out]; exact Hsl.out, Hsm.out, by show out.length ≤ cS; rw [Hol.out]; exact hmc, hcm, hbel⟩
      case true =>
        have hTL := fun W => TrimLeft_any rest [32] W (by decide) (by decide)
        have htl := trimL_len rest [32]
        generalize hT0 : Lib.trimLeftS rest [32] = t0 at hTL htl
        have hcut := fun W => Cut_one t0 61 W (by unfold maxLen; omega)
        have hcl := cut_lenF t0 61
        have hcs := @cut_sum t0 61
        generalize hcutd : Lib.cut t0 [61] = x at hcut hcl hcs
        obtain ⟨a, b, ok⟩ := x
        simp only at hcut hcl hcs
        have hTn := fun W => Trim_any a [32] W (by unfold maxLen; omega) (by decide) (by decide)
        have hnl := trim_len a [32]
        generalize hnd : Lib.trimS a [32] = name at hTn hnl
        have hTk := fun W => Token_any name W (by unfold maxLen; omega)
        have hc0 : Lib.cut (Lib.trimLeftS rest [32]) [61] = (a, b, ok) := by rw [hT0]; exact hcutd
        have HTL := Lib.hid hTL
        have Hcut := Lib.hid hcut
        have HTn := Lib.hid hTn
        clear hTL hcut hTn hT0 hcutd
        have hb3 : ∀ (w1 : World) (q : Nat) (w3 : World), Below wr.heap.size wr w1 → Below (w1.drewN q).heap.size (w1.drewN q) w3 → Below wr.heap.size wr w3 := fun w1 q w3 h1 h3 => (belN h1 q).trans (h3.mono h1.size)
        by_cases hok : ok = true ∧ tokB name = true
        · obtain ⟨rfl, htk⟩ := hok
          rw [htk] at hTk
          have HTk := Lib.hid hTk
          have hbs : b.length + 1 ≤ t0.length := by have := hcs rfl; omega
          have hTv := fun W => TrimLeft_any b [32] W (by decide) (by decide)
          have hvl := trimL_len b [32]
          generalize hvd : Lib.trimLeftS b [32] = v at hTv hvl
          have hpf := fun W => HasPrefix_any v [34] W
          have hlow := fun W => lowerH_any name W (by unfold maxLen; omega)
          have HTv := Lib.hid hTv
          have Hlow := Lib.hid hlow
          have lq := fun p t gap r2 ok2 more2 (hq : Lib.hasPrefix v [34] = true) => @loopP_quo k rest out a name b v p t gap r2 ok2 more2 hc0 hnd htk hvd hq
          have lt := fun p0 p r2 more2 (hq : Lib.hasPrefix v [34] = false) => @loopP_tok k rest out a name b v p0 p r2 more2 hc0 hnd htk hvd hq
          have hv1 : Lib.hasPrefix v [34] = true → 1 ≤ v.length := by
            intro h
            have := (List.isPrefixOf_iff_prefix.1 h).length_le
            simpa using this
          generalize Lib.hasPrefix v [34] = pf at hpf lq lt hv1
          have Hpf := Lib.hid hpf
          have hln : (lowL name).length ≤ 900 := by rw [show (lowL name).length = name.length from by simp [lowL]]; omega
          generalize lowL name = ln at Hlow lq lt hln
          clear hTk hcs hnd hc0 hTv hvd hpf hlow htk hcl
          go_wp2_with fail
          refine (HTL.out _).mono ?_
          rintro e w1 ⟨rfl, hb1⟩
          go_wp2_with fail
          refine (Hcut.out _).mono ?_
          rintro e w2 ⟨rfl, q, rfl⟩
          go_wp2_with fail
          refine (HTn.out _).mono ?_
          rintro e w3 ⟨rfl, hbx⟩
          have hbw := hb3 w1 q w3 hb1 hbx
          clear hb1 hbx hb3
          go_wp2_with fail
          refine (HTk.out _).mono ?_
          rintro e w4 ⟨rfl, hb4⟩
          have hbw := hbw.trans (hb4.mono hbw.size)
          clear hb4
          go_wp2_with fail
          refine (HTv.out _).mono ?_
          rintro e w5 ⟨rfl, hb5⟩
          have hbw := hbw.trans (hb5.mono hbw.size)
          clear hb5
          go_wp2_with fail
          refine (Hpf.out _).mono ?_
          rintro e w6 ⟨rfl, rfl⟩
          clear HTL Hcut HTn HTk HTv Hpf
          cases pf
          case true =>
            have hv1 := hv1 rfl
            have hvi : (1 : Int) ≤ v.length := by omega
            have hcd := fun W => Cut_one v.tail 34 W (by unfold maxLen; simp; omega)
            have hcdl := cut_lenF v.tail 34
            rw [List.length_tail] at hcdl
            generalize hcde : Lib.cut v.tail [34] = y at hcd hcdl
            obtain ⟨p, t, ok2⟩ := y
            simp only at hcd hcdl
            have Hcd := Lib.hid hcd
            have hcg := fun W => Cut_one t 59 W (by unfold maxLen; omega)
            have hcgl := cut_lenF t 59
            generalize hcge : Lib.cut t [59] = y at hcg hcgl
            obtain ⟨gap, r2, more2⟩ := y
            simp only at hcg hcgl
            have Hcg := Lib.hid hcg
            have hlaw := lq p t gap r2 ok2 more2 rfl (by rw [List.drop_one]; exact hcde) hcge
            have htg := fun W => Trim_any gap [32] W (by unfold maxLen; omega) (by decide) (by decide)
            generalize Lib.trimS gap [32] = tg at htg hlaw
            have Htg := Lib.hid htg
            have hpl : p.length ≤ 900 := by omega
            clear hcd hcg htg hcde hcge lq lt
            cases ok2
            case false =>
              have hr1 : Hid (r = ([], [], 1)) := by show r = _; rw [Hr.out, ← hE.out.1, hlaw, if_pos rfl]; rfl
              clear hE hlaw hown
              go_wp2_with fail
              refine (Hcd.out _).mono ?_
              rintro e w7 ⟨rfl, q7, rfl⟩
              go_wp2_with fail
              go_ret3
              rw [hr1.out]
              exact ParamsRes.fail 1 (belN (hbel.trans (hbw.mono hbel.size)) q7)
            case true =>
              rw [if_neg (by simp)] at hlaw
              by_cases htg0 : tg = []
              · subst htg0
                rw [if_neg (by simp)] at hlaw
                have hR2 : Hid (R = if 20 < m + 1 then ([], 2) else loopP k r2 more2 (out ++ [⟨ln, p⟩])) := by
                  show R = _
                  rw [← hE.out.1, hlaw]
                  simp only [List.length_append, List.length_cons, List.length_nil, hE.out.2.2.1, Nat.zero_add]
                clear hlaw
                have hml : Hid ((out ++ [FieldD.mk ln p]).length = m + 1) := by show _ = _; simp [hE.out.2.2.1]
                have hk2 : Hid (r2.length + 2 ≤ k) := by show _ ≤ _; have := hE.out.2.1; omega
                have hall : Hid (∀ f ∈ out ++ [FieldD.mk ln p], f.name.length ≤ 900 ∧ f.value.length ≤ 900) := by
                  intro f hf
                  rcases List.mem_append.1 hf with h | h
                  · exact hE.out.2.2.2 f h
                  · simp only [List.mem_cons, List.not_mem_nil, or_false] at h
                    subst h
                    exact ⟨hln, hpl⟩
                have Hown := Lib.hid hown
                have h63 : m + 1 ≤ maxLen := by unfold maxLen; omega
                have h47 : (m + 1) * 32 ≤ 140737488355328 := by omega
                have hone : ∀ u ∈ [str ln, str p], u.oneCell' = true := by intro u hu; simp at hu; rcases hu with rfl | rfl <;> rfl
                have Hone := Lib.hid hone
                have hr2l : r2.length ≤ 900 ∧ r2.length < rest.length := by omega
                obtain ⟨hr2a, hr2b⟩ := hr2l
                have d20 : decide ((20 : Int) < (m : Int) + 1) = decide (20 < m + 1) := by rw [Bool.eq_iff_iff, decide_eq_true_eq, decide_eq_true_eq]; omega
                clear hE hown hone
                go_wp2_with fail
                refine (Hcd.out _).mono ?_
                rintro e w7 ⟨rfl, q7, rfl⟩
                go_wp2_with fail
                refine (Hcg.out _).mono ?_
                rintro e w7 ⟨rfl, q8, rfl⟩
                have hbw := belN hbw (q7 + q8)
                go_wp2_with fail
                refine (Htg.out _).mono ?_
                rintro e w7 ⟨rfl, hb7⟩
                have hbw := hbw.trans (hb7.mono hbw.size)
                clear hb7
                go_wp2_with fail
                refine (Hlow.out _).mono ?_
                rintro e w8 ⟨rfl, hb8⟩
                have hbw := hbw.trans (hb8.mono hbw.size)
                have hbel8 := hbel.trans (hbw.mono hbel.size)
                have hown8 := own_below Hown.out hbw
                have hsz8 := hbel8.size
                clear hb8
                go_wp2_with (at_builtin; refine wpList_app rfl _ _ 42 rfl w.heap.size 46 i0 (.agg #[.string ⟨#[]⟩, .string ⟨#[]⟩]) 2 32 Tryd.underlying42 hi0 hz0 hz1 hz2 rfl (by decide) S m cS (fieldC out) rfl (hown8.alloc _) _ _ 1 1 [str ln, str p] rfl (Sl.row _ _ 2 1 _ rfl) Hone.out h63 h47 ?c2 ?_)
                case c2 => simp; omega
                intro S' c' w9 hown9 hb9 _
                have hc' := own_cap hown9
                have hbel9 := (hbel8.alloc hsz8 (.cells #[str ln, str p] 46)).trans hb9
                rw [show fieldC out ++ [str ln, str p] = fieldC (out ++ [⟨ln, p⟩]) from by rw [fieldC_app]; rfl] at hown9
                have Hown9 := Lib.hid hown9
                clear hown8 hown9 hb9
                by_cases h20 : 20 < m + 1
                · have d21 : decide (20 < m + 1) = true := by simpa using h20
                  have hr1 : Hid (r = ([], [], 2)) := by show r = _; rw [Hr.out, hR2.out, if_pos h20]; rfl
                  go_wp2_with fail
                  go_ret3
                  rw [hr1.out]
                  exact ParamsRes.fail 2 hbel9
                · have d21 : decide (20 < m + 1) = false := by simpa using h20
                  have hR3 : Hid (loopP k r2 more2 (out ++ [⟨ln, p⟩]) = R) := by show _ = R; rw [hR2.out, if_neg h20]
                  go_wp2_with fail
                  exact ⟨⟨k, r2, more2, _, S', m + 1, c', rfl, rfl, rfl, rfl, ⟨hR3.out, hk2.out, hml.out, hall.out⟩, hr2a, by omega, hc', Hown9.out, hbel9⟩, by rw [strLn_str, strLn_str]; exact hr2b⟩
              · have hr1 : Hid (r = ([], [], 1)) := by show r = _; rw [Hr.out, ← hE.out.1, hlaw, if_pos htg0]; rfl
                have htb : (tg == []) = false := by simpa using htg0
                clear hE hlaw hown
                go_wp2_with fail
                refine (Hcd.out _).mono ?_
                rintro e w7 ⟨rfl, q7, rfl⟩
                go_wp2_with fail
                refine (Hcg.out _).mono ?_
                rintro e w7 ⟨rfl, q8, rfl⟩
                have hbw := belN hbw (q7 + q8)
                go_wp2_with fail
                refine (Htg.out _).mono ?_
                rintro e w8 ⟨rfl, hb8⟩
                have hbw := hbw.trans (hb8.mono hbw.size)
                go_wp2_with fail
                go_ret3
                rw [hr1.out]
                exact ParamsRes.fail 1 (hbel.trans (hbw.mono hbel.size))
          case false =>
            have hcd := fun W => Cut_one v 59 W (by unfold maxLen; omega)
            have hcdl := cut_lenF v 59
            generalize hcde : Lib.cut v [59] = y at hcd hcdl
            obtain ⟨p0, r2, more2⟩ := y
            simp only at hcd hcdl
            have Hcd := Lib.hid hcd
            have htr := fun W => TrimRight_any p0 [32] W (by unfold maxLen; omega) (by decide) (by decide)
            have htrl := trimR_len p0 [32]
            generalize htre : Lib.trimRightS p0 [32] = p at htr htrl
            have Htr2 := Lib.hid htr
            have hlaw := lt p0 p r2 more2 rfl hcde htre
            have htk2 := fun W => Token_any p W (by unfold maxLen; omega)
            have hpl : p.length ≤ 900 := by omega
            clear hcd htr hcde htre lq lt
            cases htp : tokB p
            case false =>
              rw [htp] at htk2
              have Htk2 := Lib.hid htk2
              have hr1 : Hid (r = ([], [], 1)) := by show r = _; rw [Hr.out, ← hE.out.1, hlaw, if_pos htp]; rfl
              clear hE hlaw hown htk2 htp
              go_wp2_with fail
              refine (Hcd.out _).mono ?_
              rintro e w7 ⟨rfl, q7, rfl⟩
              have hbw := belN hbw q7
              go_wp2_with fail
              refine (Htr2.out _).mono ?_
              rintro e w8 ⟨rfl, hb8⟩
              have hbw := hbw.trans (hb8.mono hbw.size)
              go_wp2_with fail
              refine (Htk2.out _).mono ?_
              rintro e w9 ⟨rfl, hb9⟩
              have hbw := hbw.trans (hb9.mono hbw.size)
              go_wp2_with fail
              go_ret3
              rw [hr1.out]
              exact ParamsRes.fail 1 (hbel.trans (hbw.mono hbel.size))
            case true =>
              rw [htp] at htk2
              have Htk2 := Lib.hid htk2
              rw [if_neg (by rw [htp]; simp)] at hlaw
              have hR2 : Hid (R = if 20 < m + 1 then ([], 2) else loopP k r2 more2 (out ++ [⟨ln, p⟩])) := by
                show R = _
                rw [← hE.out.1, hlaw]
                simp only [List.length_append, List.length_cons, List.length_nil, hE.out.2.2.1, Nat.zero_add]
              clear hlaw htk2 htp
              have hml : Hid ((out ++ [FieldD.mk ln p]).length = m + 1) := by show _ = _; simp [hE.out.2.2.1]
              have hk2 : Hid (r2.length + 2 ≤ k) := by show _ ≤ _; have := hE.out.2.1; omega
              have hall : Hid (∀ f ∈ out ++ [FieldD.mk ln p], f.name.length ≤ 900 ∧ f.value.length ≤ 900) := by
                intro f hf
                rcases List.mem_append.1 hf with h | h
                · exact hE.out.2.2.2 f h
                · simp only [List.mem_cons, List.not_mem_nil, or_false] at h
                  subst h
                  exact ⟨hln, hpl⟩
              have Hown := Lib.hid hown
              have h63 : m + 1 ≤ maxLen := by unfold maxLen; omega
              have h47 : (m + 1) * 32 ≤ 140737488355328 := by omega
              have hone : ∀ u ∈ [str ln, str p], u.oneCell' = true := by intro u hu; simp at hu; rcases hu with rfl | rfl <;> rfl
              have Hone := Lib.hid hone
              have hr2l : r2.length ≤ 900 ∧ r2.length < rest.length := by omega
              obtain ⟨hr2a, hr2b⟩ := hr2l
              have d20 : decide ((20 : Int) < (m : Int) + 1) = decide (20 < m + 1) := by rw [Bool.eq_iff_iff, decide_eq_true_eq, decide_eq_true_eq]; omega
              clear hE hown hone
              go_wp2_with fail
              refine (Hcd.out _).mono ?_
              rintro e w7 ⟨rfl, q7, rfl⟩
              have hbw := belN hbw q7
              go_wp2_with fail
              refine (Htr2.out _).mono ?_
              rintro e w7 ⟨rfl, hb7⟩
              have hbw := hbw.trans (hb7.mono hbw.size)
              clear hb7
              go_wp2_with fail
              refine (Htk2.out _).mono ?_
              rintro e w7 ⟨rfl, hb7⟩
              have hbw := hbw.trans (hb7.mono hbw.size)
              clear hb7
              go_wp2_with fail
              refine (Hlow.out _).mono ?_
              rintro e w8 ⟨rfl, hb8⟩
              have hbw := hbw.trans (hb8.mono hbw.size)
              have hbel8 := hbel.trans (hbw.mono hbel.size)
              have hown8 := own_below Hown.out hbw
              have hsz8 := hbel8.size
              clear hb8
              go_wp2_with (at_builtin; refine wpList_app rfl _ _ 42 rfl w.heap.size 46 i0 (.agg #[.string ⟨#[]⟩, .string ⟨#[]⟩]) 2 32 Tryd.underlying42 hi0 hz0 hz1 hz2 rfl (by decide) S m cS (fieldC out) rfl (hown8.alloc _) _ _ 1 1 [str ln, str p] rfl (Sl.row _ _ 2 1 _ rfl) Hone.out h63 h47 ?c2 ?_)
              case c2 => simp; omega
              intro S' c' w9 hown9 hb9 _
              have hc' := own_cap hown9
              have hbel9 := (hbel8.alloc hsz8 (.cells #[str ln, str p] 46)).trans hb9
              rw [show fieldC out ++ [str ln, str p] = fieldC (out ++ [⟨ln, p⟩]) from by rw [fieldC_app]; rfl] at hown9
              have Hown9 := Lib.hid hown9
              clear hown8 hown9 hb9
              by_cases h20 : 20 < m + 1
              · have d21 : decide (20 < m + 1) = true := by simpa using h20
                have hr1 : Hid (r = ([], [], 2)) := by show r = _; rw [Hr.out, hR2.out, if_pos h20]; rfl
                go_wp2_with fail
                go_ret3
                rw [hr1.out]
                exact ParamsRes.fail 2 hbel9
              · have d21 : decide (20 < m + 1) = false := by simpa using h20
                have hR3 : Hid (loopP k r2 more2 (out ++ [⟨ln, p⟩]) = R) := by show _ = R; rw [hR2.out, if_neg h20]
                go_wp2_with fail
                exact ⟨⟨k, r2, more2, _, S', m + 1, c', rfl, rfl, rfl, rfl, ⟨hR3.out, hk2.out, hml.out, hall.out⟩, hr2a, by omega, hc', Hown9.out, hbel9⟩, by rw [strLn_str, strLn_str]; exact hr2b⟩
        · have hRv : R = ([], 1) := by
            rw [← hE.out.1]
            exact loopP_bad hc0 hnd (by
              cases ok
              · simp
              · have : tokB name = false := by
                  cases h : tokB name
                  · rfl
                  · exact absurd ⟨rfl, h⟩ hok
                simp [this])
          have hr1 : Hid (r = ([], [], 1)) := by show r = _; rw [Hr.out, hRv]; rfl
          clear hE hRv hcs hnd hc0 hown
          cases ok
          case false =>
            clear hTk hok
            go_wp2_with fail
            refine (HTL.out _).mono ?_
            rintro e w1 ⟨rfl, hb1⟩
            go_wp2_with fail
            refine (Hcut.out _).mono ?_
            rintro e w2 ⟨rfl, q, rfl⟩
            go_wp2_with fail
            refine (HTn.out _).mono ?_
            rintro e w3 ⟨rfl, hbx⟩
            have hbw := hb3 w1 q w3 hb1 hbx
            go_wp2_with fail
            go_ret3
            rw [hr1.out]
            exact ParamsRes.fail 1 (hbel.trans (hbw.mono hbel.size))
          case true =>
            have htk : tokB name = false := by
              cases h : tokB name
              · rfl
              · exact absurd ⟨rfl, h⟩ hok
            rw [htk] at hTk
            have HTk := Lib.hid hTk
            clear hTk hok htk
            go_wp2_with fail
            refine (HTL.out _).mono ?_
            rintro e w1 ⟨rfl, hb1⟩
            go_wp2_with fail
            refine (Hcut.out _).mono ?_
            rintro e w2 ⟨rfl, q, rfl⟩
            go_wp2_with fail
            refine (HTn.out _).mono ?_
            rintro e w3 ⟨rfl, hbx⟩
            have hbw := hb3 w1 q w3 hb1 hbx
            go_wp2_with fail
            refine (HTk.out _).mono ?_
            rintro e w4 ⟨rfl, hb4⟩
            have hbw := hbw.trans (hb4.mono hbw.size)
            go_wp2_with fail
            go_ret3
            rw [hr1.out]
            exact ParamsRes.fail 1 (hbel.trans (hbw.mono hbel.size))
end Go.Proofs.YtdhmmepcnladcaaDoor

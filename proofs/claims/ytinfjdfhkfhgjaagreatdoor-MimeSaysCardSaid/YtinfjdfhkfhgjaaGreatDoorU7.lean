import Derived.Test.YtinfjdfhkfhgjaaGreatDoorU6
import Derived.Test.YtinfjdfhkfhgjaaGreatDoorU2
import Derived.Test.YtinfjdfhkfhgjaaGreatDoorU3
import Derived.Test.YtinfjdfhkfhgjaaGreatDoorU4
set_option maxRecDepth 100000
set_option maxHeartbeats 40000000
namespace Go.Proofs.YtinfjdfhkfhgjaaGreatDoor
open Go.RowKit
theorem TrimLeft_any (l cs : List UInt8) (w : World) (hc : cs.length < 4294967281) (ha : cs.all (fun b => decide (b.toNat < 128)) = true) :
 Calls Tryz.prog 109 #[str l, .string ⟨cs.toArray⟩] w fun e w' => e = .returned (str (Lib.trimLeftS l cs)) ∧ Below w.heap.size w w' :=
 Any.strings_TrimLeft_laid Go.Proofs.Tryz.lays161 (by kernel_rfl) ⟨l.toArray⟩ ⟨cs.toArray⟩ w (by simpa [ByteArray.size] using hc) (ascii_of_all ha)
theorem trimL_len (l cs : List UInt8) : (Lib.trimLeftS l cs).length ≤ l.length := (List.dropWhile_suffix _).length_le
theorem trimR_len (l cs : List UInt8) : (Lib.trimRightS l cs).length ≤ l.length := by
 unfold Lib.trimRightS
 have := (List.dropWhile_suffix (cs.contains ·) (l := l.reverse)).length_le
 rw [List.length_reverse] at this ⊢
 exact this
theorem cut_lenF (l : List UInt8) (c : UInt8) : (Lib.cut l [c]).1.length ≤ l.length ∧ (Lib.cut l [c]).2.1.length ≤ l.length := by
 unfold Lib.cut
 split
 · simp; omega
 · simp
theorem loopP_end (k : Nat) (rest : List UInt8) (l : List FieldD) : loopP (k + 1) rest false l = (l, 0) := by rw [loopP, if_pos rfl]
section
variable {k : Nat} {rest : List UInt8} {l : List FieldD} {a name b v : List UInt8} {ok : Bool}
theorem loopP_bad (hc : Lib.cut (Lib.trimLeftS rest [32]) [61] = (a, b, ok)) (hn : Lib.trimS a [32] = name) (h : (!ok || !tokB name) = true) : loopP (k + 1) rest true l = ([], 1) := by
 rw [loopP, if_neg (by simp), hc]
 simp only
 rw [hn, if_pos h]
theorem loopP_quo {p t gap r2 : List UInt8} {ok2 more2 : Bool} (hc : Lib.cut (Lib.trimLeftS rest [32]) [61] = (a, b, true)) (hn : Lib.trimS a [32] = name) (ht : tokB name = true) (hv : Lib.trimLeftS b [32] = v) (hq : Lib.hasPrefix v [34] = true)
 (hd : Lib.cut (v.drop 1) [34] = (p, t, ok2)) (hg : Lib.cut t [59] = (gap, r2, more2)) :
 loopP (k + 1) rest true l = if ok2 = false then ([], 1) else if Lib.trimS gap [32] ≠ [] then ([], 1) else if 20 < (l ++ [FieldD.mk (lowL name) p]).length then ([], 2) else loopP k r2 more2 (l ++ [FieldD.mk (lowL name) p]) := by
 rw [loopP, if_neg (by simp), hc]
 simp only
 rw [hn, ht, if_neg (by simp), hv, if_pos hq, hd]
 simp only
 rw [hg]
theorem loopP_tok {p0 p r2 : List UInt8} {more2 : Bool} (hc : Lib.cut (Lib.trimLeftS rest [32]) [61] = (a, b, true)) (hn : Lib.trimS a [32] = name) (ht : tokB name = true) (hv : Lib.trimLeftS b [32] = v) (hq : Lib.hasPrefix v [34] = false)
 (hd : Lib.cut v [59] = (p0, r2, more2)) (hp : Lib.trimRightS p0 [32] = p) :
 loopP (k + 1) rest true l = if tokB p = false then ([], 1) else if 20 < (l ++ [FieldD.mk (lowL name) p]).length then ([], 2) else loopP k r2 more2 (l ++ [FieldD.mk (lowL name) p]) := by
 rw [loopP, if_neg (by simp), hc]
 simp only
 rw [hn, ht, if_neg (by simp), hv, if_neg (by rw [hq]; simp), hd]
 simp only
 rw [hp]
end
/-- What header.Params leaves. -/
def ParamsRes (r : List UInt8 × List FieldD × Nat) (w : World) (e : Ending) (w' : World) : Prop :=
 ∃ S c, e = .returned (.tuple #[str r.1, .slice S r.2.1.length c, .int .i64 (r.2.2 : Nat)]) ∧ Sl w' w'.heap.size 2 S r.2.1.length (fieldC r.2.1) ∧ smallF r.2.1 ∧ r.2.1.length ≤ c ∧ c ≤ maxLen ∧ Below w.heap.size w w'
theorem ParamsRes.fail (e : Nat) {w w' : World} (hb : Below w.heap.size w w') : ParamsRes ([], [], e) w (.returned (.tuple #[.string ⟨#[]⟩, .slice none 0 0, .int .i64 (e : Nat)])) w' :=
 ⟨none, 0, rfl, Sl.nil_ _ _ _ _, fun f h => (by cases h), Nat.le_refl _, Nat.zero_le _, hb⟩
def PmRel (main : List UInt8) (R : List FieldD × Nat) (w : World) (xv lv rv mv : Value) (wr : World) : Prop :=
 ∃ (k : Nat) (rest : List UInt8) (more : Bool) (out : List FieldD) (S : Option Addr) (m c : Nat), xv = str main ∧ lv = .slice S m c ∧ rv = str rest ∧ mv = .bool more ∧ Hid (loopP k rest more out = R ∧ rest.length + 2 ≤ k ∧ out.length = m ∧ (∀ f ∈ out, f.name.length ≤ 900 ∧ f.value.length ≤ 900)) ∧ rest.length ≤ 900 ∧ m ≤ 20 ∧ m ≤ c ∧
  wr.ownsRow w.heap.size 100 2 (.slice S m c) m (fieldC out) ∧ Below w.heap.size w wr
theorem Params_any (s : List UInt8) (w : World) (hs : s.length ≤ maxLen) :
 Calls Tryz.prog 63 #[str s] w (ParamsRes (paramsF s) w) := by
 obtain ⟨i0, hi0, hz0, hz1, hz2⟩ := info_parts infoField
 have hval := Value_any s w hs
 have hv9 : valB s = true → s.length ≤ 900 := fun h => (val_mem h).1
 unfold paramsF
 generalize valB s = vb at hval hv9
 cases vb
 case false =>
  simp only [if_true]
  have Hval := Lib.hid hval
  clear hval hv9
  go_enter Tryz.func63, Tryz.ntmps63
  go_wp2_with fail
  refine Hval.out.mono ?_
  rintro e w1 ⟨rfl, hb1⟩
  go_wp2_with fail
  go_ret3
  exact ParamsRes.fail 1 hb1
 case true =>
  have hs9 := hv9 rfl
  rw [if_neg (by simp)]
  have hcut := fun W => Cut_one s 59 W hs
  have hcl := cut_lenF s 59
  generalize Lib.cut s [59] = x at hcut hcl
  obtain ⟨head, rest0, more0⟩ := x
  simp only at hcut hcl ⊢
  have htr := fun W => Trim_any head [32] W (by unfold maxLen; omega) (by decide) (by decide)
  have htl := trim_len head [32]
  generalize Lib.trimS head [32] = hd at htr htl
  have hlow := fun W => lowerH_any hd W (by unfold maxLen; omega)
  generalize lowL hd = main at hlow
  obtain ⟨R, hR⟩ : ∃ R, loopP (s.length + 2) rest0 more0 [] = R := ⟨_, rfl⟩
  rw [hR]
  obtain ⟨r, hr⟩ : ∃ r, r = (if R.2 = 0 then (main, R.1, 0) else ([], [], R.2)) := ⟨_, rfl⟩
  rw [← hr]
  have hrest0 : rest0.length ≤ 900 := by omega
  have Hr0 := Lib.hid (show rest0.length + 2 ≤ s.length + 2 by omega)
  have HR := Lib.hid hR
  have Hr := Lib.hid hr
  have Hval := Lib.hid hval
  have Hcut := Lib.hid hcut
  have Htr := Lib.hid htr
  have Hlow := Lib.hid hlow
  clear hval hcut hcl htr htl hlow hR hr hv9
  go_enter Tryz.func63, Tryz.ntmps63
  go_wp2_with fail
  refine Hval.out.mono ?_
  rintro e w1 ⟨rfl, hb1⟩
  go_wp2_with fail
  refine (Hcut.out _).mono ?_
  rintro e w2 ⟨rfl, q, rfl⟩
  have hb2 := belN hb1 q
  go_wp2_with fail
  refine (Htr.out _).mono ?_
  rintro e w3 ⟨rfl, hb3⟩
  have hb4 := hb2.trans (hb3.mono hb2.size)
  clear hb2 hb3 hb1
  go_wp2_with fail
  refine (Hlow.out _).mono ?_
  rintro e w5 ⟨rfl, hb5⟩
  have hb6 := hb4.trans (hb5.mono hb4.size)
  clear hb4 hb5 Hval Hcut Htr Hlow
  go_wp2_with fail
  go_loopw [2, 3, 6, 7] (PmRel main R w) (fun _ _ rv _ _ => strLn rv)
  case atStart => exact ⟨s.length + 2, rest0, more0, [], none, 0, 0, rfl, rfl, rfl, rfl, ⟨HR.out, Hr0.out, rfl, fun f h => (by cases h)⟩, hrest0, Nat.zero_le _, Nat.le_refl _, World.ownsRow_nil _ _ _ _, hb6⟩
  case round =>
   clear HR Hr0 hb6
   obtain ⟨k, rest, more, out, S, m, cS, rfl, rfl, rfl, rfl, hE, hrl, hm20, hmc, hown, hbel⟩ := hrel
   obtain ⟨k, rfl⟩ : ∃ k', k = k' + 1 := ⟨k - 1, by have := hE.out.2.1; omega⟩
   cases more
   case false =>
    have hRv : R = (out, 0) := by rw [← hE.out.1, loopP_end]
    have hr1 : Hid (r = (main, out, 0)) := by show r = _; rw [Hr.out, hRv]; rfl
    have hsl := Sl.of_own hown
    have hcm := own_capF hown
    have Hol := Lib.hid hE.out.2.2.1
    have hsm : smallF out := fun f hf => by have := hE.out.2.2.2 f hf; unfold maxLen; omega
    have Hsl := Lib.hid hsl
    have Hsm := Lib.hid hsm
    clear hE hRv hsl hsm hown
    go_wp2_with fail
    go_ret3
    rw [hr1.out]
    exact ⟨S, cS, by rw [← Hol.out]; rfl, by rw [show (main, out, 0).2.1.length = m from Hol.out]; exact Hsl.out, Hsm.out, by show out.length ≤ cS; rw [Hol.out]; exact hmc, hcm, hbel⟩
   case true =>
    have hTL := fun W => TrimLeft_any rest [32] W (by decide) (by decide)
    have htl := trimL_len rest [32]
    generalize hT0 : Lib.trimLeftS rest [32] = t0 at hTL htl
    have hcut := fun W => Cut_one t0 61 W (by unfold maxLen; omega)
    have hcl := cut_lenF t0 61
    have hcs := @cut_sum t0 61
    generalize hcutd : Lib.cut t0 [61] = x at hcut hcl hcs
    obtain ⟨a, b, ok⟩ := x
    simp only at hcut hcl hcs
    have hTn := fun W => Trim_any a [32] W (by unfold maxLen; omega) (by decide) (by decide)
    have hnl := trim_len a [32]
    generalize hnd : Lib.trimS a [32] = name at hTn hnl
    have hTk := fun W => Token_any name W (by unfold maxLen; omega)
    have hc0 : Lib.cut (Lib.trimLeftS rest [32]) [61] = (a, b, ok) := by rw [hT0]; exact hcutd
    have HTL := Lib.hid hTL
    have Hcut := Lib.hid hcut
    have HTn := Lib.hid hTn
    clear hTL hcut hTn hT0 hcutd
    have hb3 : ∀ (w1 : World) (q : Nat) (w3 : World), Below wr.heap.size wr w1 → Below (w1.drewN q).heap.size (w1.drewN q) w3 → Below wr.heap.size wr w3 := fun w1 q w3 h1 h3 => (belN h1 q).trans (h3.mono h1.size)
    by_cases hok : ok = true ∧ tokB name = true
    · obtain ⟨rfl, htk⟩ := hok
      rw [htk] at hTk
      have HTk := Lib.hid hTk
      have hbs : b.length + 1 ≤ t0.length := by have := hcs rfl; omega
      have hTv := fun W => TrimLeft_any b [32] W (by decide) (by decide)
      have hvl := trimL_len b [32]
      generalize hvd : Lib.trimLeftS b [32] = v at hTv hvl
      have hpf := fun W => HasPrefix_any v [34] W
      have hlow := fun W => lowerH_any name W (by unfold maxLen; omega)
      have HTv := Lib.hid hTv
      have Hlow := Lib.hid hlow
      have lq := fun p t gap r2 ok2 more2 (hq : Lib.hasPrefix v [34] = true) => @loopP_quo k rest out a name b v p t gap r2 ok2 more2 hc0 hnd htk hvd hq
      have lt := fun p0 p r2 more2 (hq : Lib.hasPrefix v [34] = false) => @loopP_tok k rest out a name b v p0 p r2 more2 hc0 hnd htk hvd hq
      have hv1 : Lib.hasPrefix v [34] = true → 1 ≤ v.length := by
       intro h
       have := (List.isPrefixOf_iff_prefix.1 h).length_le
       simpa using this
      generalize Lib.hasPrefix v [34] = pf at hpf lq lt hv1
      have Hpf := Lib.hid hpf
      have hln : (lowL name).length ≤ 900 := by rw [show (lowL name).length = name.length from by simp [lowL]]; omega
      generalize lowL name = ln at Hlow lq lt hln
      clear hTk hcs hnd hc0 hTv hvd hpf hlow htk hcl
      go_wp2_with fail
      refine (HTL.out _).mono ?_
      rintro e w1 ⟨rfl, hb1⟩
      go_wp2_with fail
      refine (Hcut.out _).mono ?_
      rintro e w2 ⟨rfl, q, rfl⟩
      go_wp2_with fail
      refine (HTn.out _).mono ?_
      rintro e w3 ⟨rfl, hbx⟩
      have hbw := hb3 w1 q w3 hb1 hbx
      clear hb1 hbx hb3
      go_wp2_with fail
      refine (HTk.out _).mono ?_
      rintro e w4 ⟨rfl, hb4⟩
      have hbw := hbw.trans (hb4.mono hbw.size)
      clear hb4
      go_wp2_with fail
      refine (HTv.out _).mono ?_
      rintro e w5 ⟨rfl, hb5⟩
      have hbw := hbw.trans (hb5.mono hbw.size)
      clear hb5
      go_wp2_with fail
      refine (Hpf.out _).mono ?_
      rintro e w6 ⟨rfl, rfl⟩
      clear HTL Hcut HTn HTk HTv Hpf
      cases pf
      case true =>
       have hv1 := hv1 rfl
       have hvi : (1 : Int) ≤ v.length := by omega
       have hcd := fun W => Cut_one v.tail 34 W (by unfold maxLen; simp; omega)
       have hcdl := cut_lenF v.tail 34
       rw [List.length_tail] at hcdl
       generalize hcde : Lib.cut v.tail [34] = y at hcd hcdl
       obtain ⟨p, t, ok2⟩ := y
       simp only at hcd hcdl
       have Hcd := Lib.hid hcd
       have hcg := fun W => Cut_one t 59 W (by unfold maxLen; omega)
       have hcgl := cut_lenF t 59
       generalize hcge : Lib.cut t [59] = y at hcg hcgl
       obtain ⟨gap, r2, more2⟩ := y
       simp only at hcg hcgl
       have Hcg := Lib.hid hcg
       have hlaw := lq p t gap r2 ok2 more2 rfl (by rw [List.drop_one]; exact hcde) hcge
       have htg := fun W => Trim_any gap [32] W (by unfold maxLen; omega) (by decide) (by decide)
       generalize Lib.trimS gap [32] = tg at htg hlaw
       have Htg := Lib.hid htg
       have hpl : p.length ≤ 900 := by omega
       clear hcd hcg htg hcde hcge lq lt
       cases ok2
       case false =>
        have hr1 : Hid (r = ([], [], 1)) := by show r = _; rw [Hr.out, ← hE.out.1, hlaw, if_pos rfl]; rfl
        clear hE hlaw hown
        go_wp2_with fail
        refine (Hcd.out _).mono ?_
        rintro e w7 ⟨rfl, q7, rfl⟩
        go_wp2_with fail
        go_ret3
        rw [hr1.out]
        exact ParamsRes.fail 1 (belN (hbel.trans (hbw.mono hbel.size)) q7)
       case true =>
        rw [if_neg (by simp)] at hlaw
        by_cases htg0 : tg = []
        · subst htg0
          rw [if_neg (by simp)] at hlaw
          have hR2 : Hid (R = if 20 < m + 1 then ([], 2) else loopP k r2 more2 (out ++ [⟨ln, p⟩])) := by
           show R = _
           rw [← hE.out.1, hlaw]
           simp only [List.length_append, List.length_cons, List.length_nil, hE.out.2.2.1, Nat.zero_add]
          clear hlaw
          have hml : Hid ((out ++ [FieldD.mk ln p]).length = m + 1) := by show _ = _; simp [hE.out.2.2.1]
          have hk2 : Hid (r2.length + 2 ≤ k) := by show _ ≤ _; have := hE.out.2.1; omega
          have hall : Hid (∀ f ∈ out ++ [FieldD.mk ln p], f.name.length ≤ 900 ∧ f.value.length ≤ 900) := by
           intro f hf
           rcases List.mem_append.1 hf with h | h
           · exact hE.out.2.2.2 f h
           · simp only [List.mem_cons, List.not_mem_nil, or_false] at h
             subst h
             exact ⟨hln, hpl⟩
          have Hown := Lib.hid hown
          have h63 : m + 1 ≤ maxLen := by unfold maxLen; omega
          have h47 : (m + 1) * 32 ≤ 140737488355328 := by omega
          have hone : ∀ u ∈ [str ln, str p], u.oneCell' = true := by intro u hu; simp at hu; rcases hu with rfl | rfl <;> rfl
          have Hone := Lib.hid hone
          have hr2l : r2.length ≤ 900 ∧ r2.length < rest.length := by omega
          obtain ⟨hr2a, hr2b⟩ := hr2l
          have d20 : decide ((20 : Int) < (m : Int) + 1) = decide (20 < m + 1) := by rw [Bool.eq_iff_iff, decide_eq_true_eq, decide_eq_true_eq]; omega
          clear hE hown hone
          go_wp2_with fail
          refine (Hcd.out _).mono ?_
          rintro e w7 ⟨rfl, q7, rfl⟩
          go_wp2_with fail
          refine (Hcg.out _).mono ?_
          rintro e w7 ⟨rfl, q8, rfl⟩
          have hbw := belN hbw (q7 + q8)
          go_wp2_with fail
          refine (Htg.out _).mono ?_
          rintro e w7 ⟨rfl, hb7⟩
          have hbw := hbw.trans (hb7.mono hbw.size)
          clear hb7
          go_wp2_with fail
          refine (Hlow.out _).mono ?_
          rintro e w8 ⟨rfl, hb8⟩
          have hbw := hbw.trans (hb8.mono hbw.size)
          have hbel8 := hbel.trans (hbw.mono hbel.size)
          have hown8 := own_below Hown.out hbw
          have hsz8 := hbel8.size
          clear hb8
          go_wp2_with (at_builtin; refine wpList_app rfl _ _ 59 rfl w.heap.size 100 i0 (.agg #[.string ⟨#[]⟩, .string ⟨#[]⟩]) 2 32 Tryz.underlying59 hi0 hz0 hz1 hz2 rfl (by decide) S m cS (fieldC out) rfl (hown8.alloc _) _ _ 1 1 [str ln, str p] rfl (Sl.row _ _ 2 1 _ rfl) Hone.out h63 h47 ?c2 ?_)
          case c2 => simp; omega
          intro S' c' w9 hown9 hb9 _
          have hc' := own_cap hown9
          have hbel9 := (hbel8.alloc hsz8 (.cells #[str ln, str p] 100)).trans hb9
          rw [show fieldC out ++ [str ln, str p] = fieldC (out ++ [⟨ln, p⟩]) from by rw [fieldC_app]; rfl] at hown9
          have Hown9 := Lib.hid hown9
          clear hown8 hown9 hb9
          by_cases h20 : 20 < m + 1
          · have d21 : decide (20 < m + 1) = true := by simpa using h20
            have hr1 : Hid (r = ([], [], 2)) := by show r = _; rw [Hr.out, hR2.out, if_pos h20]; rfl
            go_wp2_with fail
            go_ret3
            rw [hr1.out]
            exact ParamsRes.fail 2 hbel9
          · have d21 : decide (20 < m + 1) = false := by simpa using h20
            have hR3 : Hid (loopP k r2 more2 (out ++ [⟨ln, p⟩]) = R) := by show _ = R; rw [hR2.out, if_neg h20]
            go_wp2_with fail
            exact ⟨⟨k, r2, more2, _, S', m + 1, c', rfl, rfl, rfl, rfl, ⟨hR3.out, hk2.out, hml.out, hall.out⟩, hr2a, by omega, hc', Hown9.out, hbel9⟩, by rw [strLn_str, strLn_str]; exact hr2b⟩
        · have hr1 : Hid (r = ([], [], 1)) := by show r = _; rw [Hr.out, ← hE.out.1, hlaw, if_pos htg0]; rfl
          have htb : (tg == []) = false := by simpa using htg0
          clear hE hlaw hown
          go_wp2_with fail
          refine (Hcd.out _).mono ?_
          rintro e w7 ⟨rfl, q7, rfl⟩
          go_wp2_with fail
          refine (Hcg.out _).mono ?_
          rintro e w7 ⟨rfl, q8, rfl⟩
          have hbw := belN hbw (q7 + q8)
          go_wp2_with fail
          refine (Htg.out _).mono ?_
          rintro e w8 ⟨rfl, hb8⟩
          have hbw := hbw.trans (hb8.mono hbw.size)
          go_wp2_with fail
          go_ret3
          rw [hr1.out]
          exact ParamsRes.fail 1 (hbel.trans (hbw.mono hbel.size))
      case false =>
       have hcd := fun W => Cut_one v 59 W (by unfold maxLen; omega)
       have hcdl := cut_lenF v 59
       generalize hcde : Lib.cut v [59] = y at hcd hcdl
       obtain ⟨p0, r2, more2⟩ := y
       simp only at hcd hcdl
       have Hcd := Lib.hid hcd
       have htr := fun W => TrimRight_any p0 [32] W (by unfold maxLen; omega) (by decide) (by decide)
       have htrl := trimR_len p0 [32]
       generalize htre : Lib.trimRightS p0 [32] = p at htr htrl
       have Htr2 := Lib.hid htr
       have hlaw := lt p0 p r2 more2 rfl hcde htre
       have htk2 := fun W => Token_any p W (by unfold maxLen; omega)
       have hpl : p.length ≤ 900 := by omega
       clear hcd htr hcde htre lq lt
       cases htp : tokB p
       case false =>
        rw [htp] at htk2
        have Htk2 := Lib.hid htk2
        have hr1 : Hid (r = ([], [], 1)) := by show r = _; rw [Hr.out, ← hE.out.1, hlaw, if_pos htp]; rfl
        clear hE hlaw hown htk2 htp
        go_wp2_with fail
        refine (Hcd.out _).mono ?_
        rintro e w7 ⟨rfl, q7, rfl⟩
        have hbw := belN hbw q7
        go_wp2_with fail
        refine (Htr2.out _).mono ?_
        rintro e w8 ⟨rfl, hb8⟩
        have hbw := hbw.trans (hb8.mono hbw.size)
        go_wp2_with fail
        refine (Htk2.out _).mono ?_
        rintro e w9 ⟨rfl, hb9⟩
        have hbw := hbw.trans (hb9.mono hbw.size)
        go_wp2_with fail
        go_ret3
        rw [hr1.out]
        exact ParamsRes.fail 1 (hbel.trans (hbw.mono hbel.size))
       case true =>
        rw [htp] at htk2
        have Htk2 := Lib.hid htk2
        rw [if_neg (by rw [htp]; simp)] at hlaw
        have hR2 : Hid (R = if 20 < m + 1 then ([], 2) else loopP k r2 more2 (out ++ [⟨ln, p⟩])) := by
         show R = _
         rw [← hE.out.1, hlaw]
         simp only [List.length_append, List.length_cons, List.length_nil, hE.out.2.2.1, Nat.zero_add]
        clear hlaw htk2 htp
        have hml : Hid ((out ++ [FieldD.mk ln p]).length = m + 1) := by show _ = _; simp [hE.out.2.2.1]
        have hk2 : Hid (r2.length + 2 ≤ k) := by show _ ≤ _; have := hE.out.2.1; omega
        have hall : Hid (∀ f ∈ out ++ [FieldD.mk ln p], f.name.length ≤ 900 ∧ f.value.length ≤ 900) := by
         intro f hf
         rcases List.mem_append.1 hf with h | h
         · exact hE.out.2.2.2 f h
         · simp only [List.mem_cons, List.not_mem_nil, or_false] at h
           subst h
           exact ⟨hln, hpl⟩
        have Hown := Lib.hid hown
        have h63 : m + 1 ≤ maxLen := by unfold maxLen; omega
        have h47 : (m + 1) * 32 ≤ 140737488355328 := by omega
        have hone : ∀ u ∈ [str ln, str p], u.oneCell' = true := by intro u hu; simp at hu; rcases hu with rfl | rfl <;> rfl
        have Hone := Lib.hid hone
        have hr2l : r2.length ≤ 900 ∧ r2.length < rest.length := by omega
        obtain ⟨hr2a, hr2b⟩ := hr2l
        have d20 : decide ((20 : Int) < (m : Int) + 1) = decide (20 < m + 1) := by rw [Bool.eq_iff_iff, decide_eq_true_eq, decide_eq_true_eq]; omega
        clear hE hown hone
        go_wp2_with fail
        refine (Hcd.out _).mono ?_
        rintro e w7 ⟨rfl, q7, rfl⟩
        have hbw := belN hbw q7
        go_wp2_with fail
        refine (Htr2.out _).mono ?_
        rintro e w7 ⟨rfl, hb7⟩
        have hbw := hbw.trans (hb7.mono hbw.size)
        clear hb7
        go_wp2_with fail
        refine (Htk2.out _).mono ?_
        rintro e w7 ⟨rfl, hb7⟩
        have hbw := hbw.trans (hb7.mono hbw.size)
        clear hb7
        go_wp2_with fail
        refine (Hlow.out _).mono ?_
        rintro e w8 ⟨rfl, hb8⟩
        have hbw := hbw.trans (hb8.mono hbw.size)
        have hbel8 := hbel.trans (hbw.mono hbel.size)
        have hown8 := own_below Hown.out hbw
        have hsz8 := hbel8.size
        clear hb8
        go_wp2_with (at_builtin; refine wpList_app rfl _ _ 59 rfl w.heap.size 100 i0 (.agg #[.string ⟨#[]⟩, .string ⟨#[]⟩]) 2 32 Tryz.underlying59 hi0 hz0 hz1 hz2 rfl (by decide) S m cS (fieldC out) rfl (hown8.alloc _) _ _ 1 1 [str ln, str p] rfl (Sl.row _ _ 2 1 _ rfl) Hone.out h63 h47 ?c2 ?_)
        case c2 => simp; omega
        intro S' c' w9 hown9 hb9 _
        have hc' := own_cap hown9
        have hbel9 := (hbel8.alloc hsz8 (.cells #[str ln, str p] 100)).trans hb9
        rw [show fieldC out ++ [str ln, str p] = fieldC (out ++ [⟨ln, p⟩]) from by rw [fieldC_app]; rfl] at hown9
        have Hown9 := Lib.hid hown9
        clear hown8 hown9 hb9
        by_cases h20 : 20 < m + 1
        · have d21 : decide (20 < m + 1) = true := by simpa using h20
          have hr1 : Hid (r = ([], [], 2)) := by show r = _; rw [Hr.out, hR2.out, if_pos h20]; rfl
          go_wp2_with fail
          go_ret3
          rw [hr1.out]
          exact ParamsRes.fail 2 hbel9
        · have d21 : decide (20 < m + 1) = false := by simpa using h20
          have hR3 : Hid (loopP k r2 more2 (out ++ [⟨ln, p⟩]) = R) := by show _ = R; rw [hR2.out, if_neg h20]
          go_wp2_with fail
          exact ⟨⟨k, r2, more2, _, S', m + 1, c', rfl, rfl, rfl, rfl, ⟨hR3.out, hk2.out, hml.out, hall.out⟩, hr2a, by omega, hc', Hown9.out, hbel9⟩, by rw [strLn_str, strLn_str]; exact hr2b⟩
    · have hRv : R = ([], 1) := by
       rw [← hE.out.1]
       exact loopP_bad hc0 hnd (by
        cases ok
        · simp
        · have : tokB name = false := by
           cases h : tokB name
           · rfl
           · exact absurd ⟨rfl, h⟩ hok
          simp [this])
      have hr1 : Hid (r = ([], [], 1)) := by show r = _; rw [Hr.out, hRv]; rfl
      clear hE hRv hcs hnd hc0 hown
      cases ok
      case false =>
       clear hTk hok
       go_wp2_with fail
       refine (HTL.out _).mono ?_
       rintro e w1 ⟨rfl, hb1⟩
       go_wp2_with fail
       refine (Hcut.out _).mono ?_
       rintro e w2 ⟨rfl, q, rfl⟩
       go_wp2_with fail
       refine (HTn.out _).mono ?_
       rintro e w3 ⟨rfl, hbx⟩
       have hbw := hb3 w1 q w3 hb1 hbx
       go_wp2_with fail
       go_ret3
       rw [hr1.out]
       exact ParamsRes.fail 1 (hbel.trans (hbw.mono hbel.size))
      case true =>
       have htk : tokB name = false := by
        cases h : tokB name
        · rfl
        · exact absurd ⟨rfl, h⟩ hok
       rw [htk] at hTk
       have HTk := Lib.hid hTk
       clear hTk hok htk
       go_wp2_with fail
       refine (HTL.out _).mono ?_
       rintro e w1 ⟨rfl, hb1⟩
       go_wp2_with fail
       refine (Hcut.out _).mono ?_
       rintro e w2 ⟨rfl, q, rfl⟩
       go_wp2_with fail
       refine (HTn.out _).mono ?_
       rintro e w3 ⟨rfl, hbx⟩
       have hbw := hb3 w1 q w3 hb1 hbx
       go_wp2_with fail
       refine (HTk.out _).mono ?_
       rintro e w4 ⟨rfl, hb4⟩
       have hbw := hbw.trans (hb4.mono hbw.size)
       go_wp2_with fail
       go_ret3
       rw [hr1.out]
       exact ParamsRes.fail 1 (hbel.trans (hbw.mono hbel.size))
def asciiL (l : List UInt8) : Prop := l.length ≤ 1000 ∧ ∀ b ∈ l, b.toNat < 128
theorem EqualFold_ascii (a b : List UInt8) (w : World) (ha : asciiL a) (hb : asciiL b) :
 Calls Tryz.prog 83 #[str a, str b] w fun e w' => e = .returned (.bool (Lib.equalFold a b)) ∧ w' = w :=
 Go.Proofs.Tryz.strings_EqualFold ⟨a.toArray⟩ ⟨b.toArray⟩ w (by have := ha.1; simp [ByteArray.size]; omega) (fun j x hx => ha.2 x (List.mem_of_getElem? hx)) (fun j x hx => hb.2 x (List.mem_of_getElem? hx))
theorem tok_asciiL {l : List UInt8} (h : tokB l = true) : asciiL l := ⟨by have := (tok_mem h).2.1; omega, tok_ascii l h⟩
def GetRel (l : List FieldD) (name R : List UInt8) (n : Nat) (w : World) (iv : Value) (wr : World) : Prop :=
 ∃ i : Nat, iv = .int .i64 (i : Nat) ∧ i ≤ n ∧ Hid (getF (l.drop i) name = R) ∧ Below w.heap.size w wr
theorem getF_cons (f : FieldD) (l : List FieldD) (name : List UInt8) : getF (f :: l) name = if Lib.equalFold f.name name then f.value else getF l name := rfl
theorem Get_ascii (l : List FieldD) (name : List UInt8) (A : Option Addr) (n c B : Nat) (w : World) (h : Sl w B 2 A n (fieldC l)) (hB : B ≤ w.heap.size) (hn : n ≤ maxLen) (ha : ∀ f ∈ l, asciiL f.name) (hna : asciiL name) :
 Calls Tryz.prog 62 #[.slice A n c, str name] w fun e w' => e = .returned (str (getF l name)) ∧ Below w.heap.size w w' := by
 have hl : l.length = n := by have := h.1; rw [fieldC_len] at this; omega
 obtain ⟨R, hR⟩ : ∃ R, getF l name = R := ⟨_, rfl⟩
 rw [hR]
 unfold maxLen at hn
 have HR := Lib.hid hR
 have Hl := Lib.hid hl
 have Ha := Lib.hid ha
 have Hna := Lib.hid hna
 have HS := Lib.hid h
 clear hR hl ha hna h
 go_enter Tryz.func62, Tryz.ntmps62
 go_wp2_with fail
 go_loopw [9] (GetRel l name R n w) (fun iv _ => n - (intOf iv).toNat)
 case atStart => exact ⟨0, rfl, Nat.zero_le _, HR.out, Below.refl _ _⟩
 case round =>
  clear HR
  obtain ⟨i, rfl, hi, hE, hbel⟩ := hrel
  by_cases hin : i < n
  · obtain ⟨b, off, x, rfl, hbB, hx, x0, x1⟩ := (HS.out.below (hbel.mono hB)).field i hin
    have hxa := Ha.out x (List.mem_of_mem_drop (i := i) (by rw [hx]; simp))
    have hef := fun W => EqualFold_ascii x.name name W hxa Hna.out
    have hE2 : Hid (R = if Lib.equalFold x.name name then x.value else getF (l.drop (i + 1)) name) := by show R = _; rw [← hE.out, hx, getF_cons]
    generalize Lib.equalFold x.name name = r at hef hE2
    have Hef := Lib.hid hef
    have hbA := hbel.alloc hbel.size (.cells #[str x.name, str x.value] 100)
    have y1 := (box2_new wr 100 (str x.name) (str x.value)).2
    clear hx hE hef hxa
    go_wp2_with fail
    refine (Hef.out _).mono ?_
    rintro e w1 ⟨rfl, rfl⟩
    clear x0 x1
    cases r
    · have hE3 : Hid (getF (l.drop (i + 1)) name = R) := by show _ = R; rw [hE2.out]; simp
      clear hE2
      go_wp2_with fail
      exact ⟨⟨i + 1, by go_num, by omega, hE3, hbA⟩, by simp [intOf]; omega⟩
    · have hE3 : Hid (x.value = R) := by show _ = R; rw [hE2.out]; simp
      clear hE2
      go_wp2_with fail
      go_ret
      exact ⟨by rw [← hE3.out]; rfl, hbA⟩
  · have hE3 : Hid ([] = R) := by show [] = R; rw [← hE.out, List.drop_of_length_le (by rw [Hl.out]; omega)]; rfl
    clear hE
    go_wp2_with fail
    go_ret
    exact ⟨by rw [← hE3.out]; rfl, hbel⟩
theorem low_eq : ∀ x : Fin 256, Lib.lowerB (UInt8.ofNat x.val) = lowB (UInt8.ofNat x.val) := by decide +kernel
theorem lowerA_lowL (l : List UInt8) : Lib.toLowerA l = lowL l := by
 unfold Lib.toLowerA lowL
 refine List.map_congr_left fun b _ => ?_
 have := low_eq ⟨b.toNat, b.toNat_lt⟩
 rw [ofNat_toNat8] at this
 exact this
theorem ToLower_any (l : List UInt8) (w : World) (hl : l.length ≤ 1000000) (ha : ∀ b ∈ l, b.toNat < 128) : Calls Tryz.prog 41 #[str l] w fun e w' => e = .returned (str (lowL l)) ∧ Below w.heap.size w w' := by
 refine (Go.Proofs.Tryz.strings_ToLower_ascii ⟨l.toArray⟩ w (by simp [ByteArray.size]; omega) (fun j b hb => ha b (List.mem_of_getElem? hb))).mono ?_
 rintro e w' ⟨rfl, hb⟩
 refine ⟨?_, hb⟩
 rw [lowerA_lowL]
 rfl
/-- What body leaves. -/
def BodyResM (r : Int × List UInt8 × Nat) (w : World) (e : Ending) (w' : World) : Prop :=
 ∃ A c, e = .returned (.tuple #[.int .i64 r.1, .slice A r.2.1.length c, .int .i64 (r.2.2 : Nat)]) ∧ SlS (fun b => w.heap.size ≤ b ∧ b < w'.heap.size) w' 1 A r.2.1.length (Lib.byteCells r.2.1) ∧ r.2.1.length ≤ c ∧ c ≤ maxLen ∧ Below w.heap.size w w'
theorem BodyResM.fail {w w' : World} (k : Nat) (h : Below w.heap.size w w') : BodyResM (0, [], k) w (.returned (.tuple #[.int .i64 0, .slice none 0 0, .int .i64 (k : Int)])) w' :=
 ⟨none, 0, rfl, ⟨rfl, fun h => absurd h (by simp)⟩, Nat.le_refl _, Nat.zero_le _, h⟩
theorem bodyM_plain {how b : List UInt8} (h : lowL how = [] ∨ lowL how = [55, 98, 105, 116] ∨ lowL how = [56, 98, 105, 116] ∨ lowL how = [98, 105, 110, 97, 114, 121]) : bodyM how b = if 4000 < b.length then (0, [], 2) else (0, b, 0) := by
 unfold bodyM
 rw [if_pos h]
theorem body_any (how b : List UInt8) (A : Option Addr) (n c : Nat) (w : World) (hb : By w w.heap.size A n b) (_hn : n ≤ c) (hm : n ≤ 40000) (hh : how.length ≤ 1000) (ha : ∀ x ∈ how, x.toNat < 128) :
 Calls Tryz.prog 65 #[str how, .slice A n c] w (BodyResM (bodyM how b) w) := by
 have hl := hb.len
 have htl := fun W => ToLower_any how W (by omega) ha
 have hpl := @bodyM_plain how b
 have hbm : bodyM how b = if lowL how = [] ∨ lowL how = [55, 98, 105, 116] ∨ lowL how = [56, 98, 105, 116] ∨ lowL how = [98, 105, 110, 97, 114, 121] then (if 4000 < b.length then (0, [], 2) else (0, b, 0))
  else if lowL how = [98, 97, 115, 101, 54, 52] then (1, readB b) else if lowL how = [113, 117, 111, 116, 101, 100, 45, 112, 114, 105, 110, 116, 97, 98, 108, 101] then (2, readQ b) else (0, [], 4) := rfl
 obtain ⟨R, hR⟩ : ∃ R, R = bodyM how b := ⟨_, rfl⟩
 rw [← hR] at hpl hbm ⊢
 generalize lowL how = L at htl hpl hbm
 have Htl := Lib.hid htl
 have HB := Lib.hid hb
 have Hl := Lib.hid hl
 have Hpl := Lib.hid hpl
 have Hbm := Lib.hid hbm
 clear hR htl hb hl hpl hbm
 by_cases k0 : L = []
 · have d0 : (L == []) = true := by rw [k0]; rfl
   have dz : L.isEmpty = true := by rw [k0]; rfl
   have hR := Hpl.out (.inl k0)
   rw [Hl.out] at hR
   have Hk := Lib.hid k0
   clear k0 
   by_cases h4 : 4000 < n
   · have d9 : decide ((4000 : Int) < n) = true := by simp; omega
     rw [if_pos h4] at hR
     have HR := Lib.hid hR
     clear hR
     go_enter Tryz.func65, Tryz.ntmps65
     go_wp2_with fail
     refine (Htl.out _).mono ?_
     rintro e w1 ⟨rfl, hb1⟩
     go_wp2_with fail
     go_ret3
     rw [HR.out]
     exact BodyResM.fail 2 hb1
   · have d9 : decide ((4000 : Int) < n) = false := by simp; omega
     rw [if_neg h4] at hR
     have HR := Lib.hid hR
     clear hR
     go_enter Tryz.func65, Tryz.ntmps65
     go_wp2_with fail
     refine (Htl.out _).mono ?_
     rintro e w1 ⟨rfl, hb1⟩
     have hcl := Clone_bytes b A n c w.heap.size w1 (HB.out.below hb1) (by omega)
     have Hcl := Lib.hid hcl
     clear hcl
     go_wp2_with fail
     refine Hcl.out.mono ?_
     rintro e w2 ⟨A5, c5, rfl, hs5, hc5, hm5, hb5⟩
     go_wp2_with fail
     go_ret3
     rw [HR.out]
     exact ⟨A5, c5, rfl, SlS.change hs5 (fun x hx => ⟨Nat.le_trans hb1.size hx.1, hx.2⟩) (fun _ _ => rfl), hc5, hm5, hb1.trans (hb5.mono hb1.size)⟩
 · have d0 : (L == []) = false := beq_eq_false_iff_ne.2 k0
   have dz : L.isEmpty = false := by cases L with | nil => exact absurd rfl k0 | cons _ _ => rfl
   by_cases k1 : L = [55, 98, 105, 116]
   · have d1 : (L == [55, 98, 105, 116]) = true := by rw [k1]; rfl
     have hR := Hpl.out (.inr (.inl k1))
     rw [Hl.out] at hR
     have Hk := Lib.hid k1
     clear k1 k0
     by_cases h4 : 4000 < n
     · have d9 : decide ((4000 : Int) < n) = true := by simp; omega
       rw [if_pos h4] at hR
       have HR := Lib.hid hR
       clear hR
       go_enter Tryz.func65, Tryz.ntmps65
       go_wp2_with fail
       refine (Htl.out _).mono ?_
       rintro e w1 ⟨rfl, hb1⟩
       go_wp2_with fail
       go_ret3
       rw [HR.out]
       exact BodyResM.fail 2 hb1
     · have d9 : decide ((4000 : Int) < n) = false := by simp; omega
       rw [if_neg h4] at hR
       have HR := Lib.hid hR
       clear hR
       go_enter Tryz.func65, Tryz.ntmps65
       go_wp2_with fail
       refine (Htl.out _).mono ?_
       rintro e w1 ⟨rfl, hb1⟩
       have hcl := Clone_bytes b A n c w.heap.size w1 (HB.out.below hb1) (by omega)
       have Hcl := Lib.hid hcl
       clear hcl
       go_wp2_with fail
       refine Hcl.out.mono ?_
       rintro e w2 ⟨A5, c5, rfl, hs5, hc5, hm5, hb5⟩
       go_wp2_with fail
       go_ret3
       rw [HR.out]
       exact ⟨A5, c5, rfl, SlS.change hs5 (fun x hx => ⟨Nat.le_trans hb1.size hx.1, hx.2⟩) (fun _ _ => rfl), hc5, hm5, hb1.trans (hb5.mono hb1.size)⟩
   · have d1 : (L == [55, 98, 105, 116]) = false := beq_eq_false_iff_ne.2 k1
     by_cases k2 : L = [56, 98, 105, 116]
     · have d2 : (L == [56, 98, 105, 116]) = true := by rw [k2]; rfl
       have hR := Hpl.out (.inr (.inr (.inl k2)))
       rw [Hl.out] at hR
       have Hk := Lib.hid k2
       clear k2 k0 k1
       by_cases h4 : 4000 < n
       · have d9 : decide ((4000 : Int) < n) = true := by simp; omega
         rw [if_pos h4] at hR
         have HR := Lib.hid hR
         clear hR
         go_enter Tryz.func65, Tryz.ntmps65
         go_wp2_with fail
         refine (Htl.out _).mono ?_
         rintro e w1 ⟨rfl, hb1⟩
         go_wp2_with fail
         go_ret3
         rw [HR.out]
         exact BodyResM.fail 2 hb1
       · have d9 : decide ((4000 : Int) < n) = false := by simp; omega
         rw [if_neg h4] at hR
         have HR := Lib.hid hR
         clear hR
         go_enter Tryz.func65, Tryz.ntmps65
         go_wp2_with fail
         refine (Htl.out _).mono ?_
         rintro e w1 ⟨rfl, hb1⟩
         have hcl := Clone_bytes b A n c w.heap.size w1 (HB.out.below hb1) (by omega)
         have Hcl := Lib.hid hcl
         clear hcl
         go_wp2_with fail
         refine Hcl.out.mono ?_
         rintro e w2 ⟨A5, c5, rfl, hs5, hc5, hm5, hb5⟩
         go_wp2_with fail
         go_ret3
         rw [HR.out]
         exact ⟨A5, c5, rfl, SlS.change hs5 (fun x hx => ⟨Nat.le_trans hb1.size hx.1, hx.2⟩) (fun _ _ => rfl), hc5, hm5, hb1.trans (hb5.mono hb1.size)⟩
     · have d2 : (L == [56, 98, 105, 116]) = false := beq_eq_false_iff_ne.2 k2
       by_cases k3 : L = [98, 105, 110, 97, 114, 121]
       · have d3 : (L == [98, 105, 110, 97, 114, 121]) = true := by rw [k3]; rfl
         have hR := Hpl.out (.inr (.inr (.inr k3)))
         rw [Hl.out] at hR
         have Hk := Lib.hid k3
         clear k3 k0 k1 k2
         by_cases h4 : 4000 < n
         · have d9 : decide ((4000 : Int) < n) = true := by simp; omega
           rw [if_pos h4] at hR
           have HR := Lib.hid hR
           clear hR
           go_enter Tryz.func65, Tryz.ntmps65
           go_wp2_with fail
           refine (Htl.out _).mono ?_
           rintro e w1 ⟨rfl, hb1⟩
           go_wp2_with fail
           go_ret3
           rw [HR.out]
           exact BodyResM.fail 2 hb1
         · have d9 : decide ((4000 : Int) < n) = false := by simp; omega
           rw [if_neg h4] at hR
           have HR := Lib.hid hR
           clear hR
           go_enter Tryz.func65, Tryz.ntmps65
           go_wp2_with fail
           refine (Htl.out _).mono ?_
           rintro e w1 ⟨rfl, hb1⟩
           have hcl := Clone_bytes b A n c w.heap.size w1 (HB.out.below hb1) (by omega)
           have Hcl := Lib.hid hcl
           clear hcl
           go_wp2_with fail
           refine Hcl.out.mono ?_
           rintro e w2 ⟨A5, c5, rfl, hs5, hc5, hm5, hb5⟩
           go_wp2_with fail
           go_ret3
           rw [HR.out]
           exact ⟨A5, c5, rfl, SlS.change hs5 (fun x hx => ⟨Nat.le_trans hb1.size hx.1, hx.2⟩) (fun _ _ => rfl), hc5, hm5, hb1.trans (hb5.mono hb1.size)⟩
       · have d3 : (L == [98, 105, 110, 97, 114, 121]) = false := beq_eq_false_iff_ne.2 k3
         by_cases k4 : L = [98, 97, 115, 101, 54, 52]
         · have d4 : (L == [98, 97, 115, 101, 54, 52]) = true := by rw [k4]; rfl
           have hR : R = (1, readB b) := by
            rw [Hbm.out, if_neg (by rintro (h | h | h | h); exact k0 h; exact k1 h; exact k2 h; exact k3 h), if_pos k4]
           have HR := Lib.hid hR
           have Hk := Lib.hid k4
           have hts := fun W (hW : Below w.heap.size w W) => run_toStr (P := Tryz.prog) W 22 9 5 _ A n c b (HB.out.below hW) Tryz.underlying22 Tryz.underlying5 Tryz.underlying9
           have hrd := fun W => Read_anyF b W (by rw [Hl.out]; omega)
           have Hrd := Lib.hid hrd
           have Hts := Lib.hid hts
           clear hR k4 k0 k1 k2 k3 hts hrd
           go_enter Tryz.func65, Tryz.ntmps65
           go_wp2_with fail
           refine (Htl.out _).mono ?_
           rintro e w1 ⟨rfl, hb1⟩
           have hts1 := Hts.out w1 hb1
           go_wp2_with fail
           refine (Hrd.out _).mono ?_
           rintro e w2 ⟨A5, c5, rfl, hs5, hc5, hm5, hb5⟩
           go_wp2_with fail
           go_ret3
           rw [HR.out]
           exact ⟨A5, c5, rfl, SlS.change hs5 (fun x hx => ⟨Nat.le_trans hb1.size hx.1, hx.2⟩) (fun _ _ => rfl), hc5, hm5, hb1.trans (hb5.mono hb1.size)⟩
         · have d4 : (L == [98, 97, 115, 101, 54, 52]) = false := beq_eq_false_iff_ne.2 k4
           by_cases k5 : L = [113, 117, 111, 116, 101, 100, 45, 112, 114, 105, 110, 116, 97, 98, 108, 101]
           · have d5 : (L == [113, 117, 111, 116, 101, 100, 45, 112, 114, 105, 110, 116, 97, 98, 108, 101]) = true := by rw [k5]; rfl
             have hR : R = (2, readQ b) := by
              rw [Hbm.out, if_neg (by rintro (h | h | h | h); exact k0 h; exact k1 h; exact k2 h; exact k3 h), if_neg k4, if_pos k5]
             have HR := Lib.hid hR
             have Hk := Lib.hid k5
             have hts := fun W (hW : Below w.heap.size w W) => run_toStr (P := Tryz.prog) W 22 9 5 _ A n c b (HB.out.below hW) Tryz.underlying22 Tryz.underlying5 Tryz.underlying9
             have hrd := fun W => quoteRead_anyF b W (by rw [Hl.out]; omega)
             have Hrd := Lib.hid hrd
             have Hts := Lib.hid hts
             clear hR k5 k0 k1 k2 k3 k4 hts hrd
             go_enter Tryz.func65, Tryz.ntmps65
             go_wp2_with fail
             refine (Htl.out _).mono ?_
             rintro e w1 ⟨rfl, hb1⟩
             have hts1 := Hts.out w1 hb1
             go_wp2_with fail
             refine (Hrd.out _).mono ?_
             rintro e w2 ⟨A5, c5, rfl, hs5, hc5, hm5, hb5⟩
             go_wp2_with fail
             go_ret3
             rw [HR.out]
             exact ⟨A5, c5, rfl, SlS.change hs5 (fun x hx => ⟨Nat.le_trans hb1.size hx.1, hx.2⟩) (fun _ _ => rfl), hc5, hm5, hb1.trans (hb5.mono hb1.size)⟩
           · have d5 : (L == [113, 117, 111, 116, 101, 100, 45, 112, 114, 105, 110, 116, 97, 98, 108, 101]) = false := beq_eq_false_iff_ne.2 k5
             have hR : R = (0, [], 4) := by
              rw [Hbm.out, if_neg (by rintro (h | h | h | h); exact k0 h; exact k1 h; exact k2 h; exact k3 h), if_neg k4, if_neg k5]
             have HR := Lib.hid hR
             clear hR k0 k1 k2 k3 k4 k5
             go_enter Tryz.func65, Tryz.ntmps65
             go_wp2_with fail
             refine (Htl.out _).mono ?_
             rintro e w1 ⟨rfl, hb1⟩
             go_wp2_with fail
             go_ret3
             rw [HR.out]
             exact BodyResM.fail 4 hb1
end Go.Proofs.YtinfjdfhkfhgjaaGreatDoor
namespace Go.Proofs.YtinfjdfhkfhgjaaGreatDoor
open Go.RowKit
attribute [local go_sem high] cut_bytes
def RdIs (w : World) (g cnt : Nat) : Prop := w.heap[g]? = some (.cells #[.int .i64 (cnt : Nat)] 46 (0, 0))
theorem RdIs.lt {w : World} {g cnt : Nat} (h : RdIs w g cnt) : g < w.heap.size := by
 rcases Nat.lt_or_ge g w.heap.size with h' | h'
 · exact h'
 · unfold RdIs at h; rw [Array.getElem?_eq_none h'] at h; cases h
theorem RdIs.cell {w : World} {g cnt : Nat} (h : RdIs w g cnt) : w.cell? ⟨g, 0, none⟩ = some (.int .i64 (cnt : Nat)) := by unfold RdIs at h; unfold World.cell?; rw [h]; rfl
theorem RdIs.fz {w : World} {g cnt : Nat} (h : RdIs w g cnt) : w.frozen? ⟨g, 0, none⟩ = false := by
 unfold RdIs at h
 unfold World.frozen?
 rw [h]
 simp
theorem RdIs.below {w w' : World} {g cnt : Nat} (h : RdIs w g cnt) (hb : Below w.heap.size w w') : RdIs w' g cnt := (hb.block g h.lt).trans h
theorem RdIs.set {w : World} {g cnt : Nat} (h : RdIs w g cnt) (x : Nat) : RdIs (w.setCell ⟨g, 0, none⟩ (.int .i64 (x : Nat))) g x := by
 unfold RdIs at h ⊢
 simp only [World.setCell, Array.getElem?_modify, if_pos, h, Option.map_some]
 rfl
theorem RdIs.other {w w' : World} {g cnt : Nat} (h : RdIs w g cnt) (hb : w'.heap[g]? = w.heap[g]?) : RdIs w' g cnt := hb.trans h
theorem gM_below {w a b : World} {r : Option Nat} (h : w.grownBy a r) (hb : Below a.heap.size a b) : w.grownBy b r :=
 ⟨hb.os.trans h.os, hb.tape.trans h.tape, hb.output.trans h.output, Nat.le_trans h.size hb.size, fun k hk hne => (hb.block k (Nat.lt_of_lt_of_le hk h.size)).trans (h.block k hk hne)⟩
theorem gM_tr {w a b : World} {r : Option Nat} (h : w.grownBy a r) (k : a.grownBy b r) : w.grownBy b r :=
 ⟨k.os.trans h.os, k.tape.trans h.tape, k.output.trans h.output, Nat.le_trans h.size k.size, fun j hj hne => (k.block j (Nat.lt_of_lt_of_le hj h.size) hne).trans (h.block j hj hne)⟩
theorem gM_of {w a : World} {r : Option Nat} (h : Below w.heap.size w a) : w.grownBy a r := ⟨h.os, h.tape, h.output, h.size, fun k hk _ => h.block k hk⟩
/-- What lies elsewhere may change. -/
theorem gM_new {w a b : World} {r r2 : Option Nat} (h : w.grownBy a r) (k : a.grownBy b r2) (hr : ∀ g, r2 = some g → w.heap.size ≤ g) : w.grownBy b r :=
 ⟨k.os.trans h.os, k.tape.trans h.tape, k.output.trans h.output, Nat.le_trans h.size k.size, fun j hj hne => (k.block j (Nat.lt_of_lt_of_le hj h.size) (fun e => by have := hr j e.symm; omega)).trans (h.block j hj hne)⟩
theorem zero_at (S : Nat → Prop) (w : World) : PartAt S w zeroPD [.string ⟨#[]⟩, .string ⟨#[]⟩, .string ⟨#[]⟩, .string ⟨#[]⟩, .int .i64 0, .slice none 0 0, .slice none 0 0] :=
 ⟨none, 0, 0, none, 0, 0, [], rfl, by refine ⟨?_, ?_, ?_, ?_, ?_, ?_⟩ <;> decide, ⟨rfl, fun h => absurd h (by simp)⟩, Nat.le_refl _, Nat.zero_le _, ⟨rfl, fun h => absurd h (by omega)⟩, Nat.le_refl _, Nat.zero_le _, rfl⟩
theorem rfail_any (e : Nat) (w : World) : Calls Tryz.prog 60 #[.int .i64 (e : Nat)] w fun r w' => r = .returned (.tuple #[.agg #[.string ⟨#[]⟩, .string ⟨#[]⟩, .string ⟨#[]⟩, .string ⟨#[]⟩, .int .i64 0, .slice none 0 0, .slice none 0 0], .int .i64 (e : Nat)]) ∧ Below w.heap.size w w' := by
 go_enter Tryz.func60, Tryz.ntmps60
 go_wp2_with fail
 exact bodyPost_ret (v := .tuple #[.agg #[.string ⟨#[]⟩, .string ⟨#[]⟩, .string ⟨#[]⟩, .string ⟨#[]⟩, .int .i64 0, .slice none 0 0, .slice none 0 0], .int .i64 (e : Nat)]) (by simp [results, Tryz.results60, go_sem]) rfl ⟨rfl, (Below.refl _ w).alloc (Nat.le_refl _) _⟩
theorem low_ascii {l : List UInt8} (h : tokB l = true) : asciiL (lowL l) := by
 obtain ⟨_, h1, h2⟩ := tok_mem h
 refine ⟨by unfold lowL; rw [List.length_map]; omega, fun b hb => ?_⟩
 unfold lowL at hb
 obtain ⟨x, hx, rfl⟩ := List.mem_map.1 hb
 have := (h2 x hx).2.1
 rw [lowB_nat]
 split <;> omega
theorem loopP_names : ∀ (k : Nat) (rest : List UInt8) (more : Bool) (l r : List FieldD), loopP k rest more l = (r, 0) → (∀ f ∈ l, asciiL f.name) → ∀ f ∈ r, asciiL f.name
 | 0, rest, more, l, r, h, _ => by rw [loopP] at h; cases h
 | k + 1, rest, more, l, r, h, hl => by
  rw [loopP] at h
  split at h
  · injection h with h _; rw [← h]; exact hl
  · simp only at h
    split at h
    · cases h
    · rename_i hn
      have hn : tokB (Lib.trimS (Lib.cut (Lib.trimLeftS rest [32]) [61]).1 [32]) = true := by
       cases ht : tokB (Lib.trimS (Lib.cut (Lib.trimLeftS rest [32]) [61]).1 [32]) with
       | true => rfl
       | false => rw [ht] at hn; simp at hn
      have hadd : ∀ v, ∀ f ∈ l ++ [FieldD.mk (lowL (Lib.trimS (Lib.cut (Lib.trimLeftS rest [32]) [61]).1 [32])) v], asciiL f.name := by
       intro v f hf
       rcases List.mem_append.1 hf with hf | hf
       · exact hl f hf
       · simp at hf; subst hf; exact low_ascii hn
      split at h
      · split at h
        · cases h
        · split at h
          · cases h
          · split at h
            · cases h
            · exact loopP_names k _ _ _ _ h (hadd _)
      · split at h
        · cases h
        · split at h
          · cases h
          · exact loopP_names k _ _ _ _ h (hadd _)
theorem params_names {s main : List UInt8} {ps : List FieldD} (h : paramsF s = (main, ps, 0)) : (∀ f ∈ ps, asciiL f.name) ∧ main.length ≤ s.length := by
 unfold paramsF at h
 split at h
 · cases h
 · simp only at h
   split at h
   · rename_i h0
     injection h with h1 h2
     injection h2 with h2 _
     refine ⟨?_, ?_⟩
     · rw [← h2]
       exact loopP_names _ _ _ [] _ (Prod.ext rfl h0) (by simp)
     · rw [← h1]
       unfold lowL
       rw [List.length_map]
       have a := trim_len (Lib.cut s [59]).1 [32]
       have b := congrArg List.length (cut_back s 59)
       rw [List.length_append] at b
       omega
   · rename_i h0; injection h with _ h; injection h with _ h; exact absurd h h0
theorem BoxF.m1 {w : World} {b : Nat} {v0 v1 v2 v3 v4 v5 v6 : Value} (h : BoxF w b v0 v1 v2 v3 v4 v5 v6) (u : Value) : BoxF (w.setCell ⟨b, 1, none⟩ u) b v0 u v2 v3 v4 v5 v6 := by
 obtain ⟨⟨h0, h1, h2, h3, h4, h5, h6⟩, hf⟩ := h
 have far : ∀ k v, k ≠ 1 → w.cell? ⟨b, k, none⟩ = some v → (w.setCell ⟨b, 1, none⟩ u).cell? ⟨b, k, none⟩ = some v := fun k v h5 h => by
  rw [World.cell?_setCell_other _ _ _ _ (by simp <;> omega)]; exact h
 exact ⟨⟨far 0 _ (by omega) h0, World.cell?_setCell_same _ _ _ h1, far 2 _ (by omega) h2, far 3 _ (by omega) h3, far 4 _ (by omega) h4, far 5 _ (by omega) h5, far 6 _ (by omega) h6⟩, fun k => by simpa using hf k⟩
theorem BoxF.m4 {w : World} {b : Nat} {v0 v1 v2 v3 v4 v5 v6 : Value} (h : BoxF w b v0 v1 v2 v3 v4 v5 v6) (u : Value) : BoxF (w.setCell ⟨b, 4, none⟩ u) b v0 v1 v2 v3 u v5 v6 := by
 obtain ⟨⟨h0, h1, h2, h3, h4, h5, h6⟩, hf⟩ := h
 have far : ∀ k v, k ≠ 4 → w.cell? ⟨b, k, none⟩ = some v → (w.setCell ⟨b, 4, none⟩ u).cell? ⟨b, k, none⟩ = some v := fun k v h5 h => by
  rw [World.cell?_setCell_other _ _ _ _ (by simp <;> omega)]; exact h
 exact ⟨⟨far 0 _ (by omega) h0, far 1 _ (by omega) h1, far 2 _ (by omega) h2, far 3 _ (by omega) h3, World.cell?_setCell_same _ _ _ h4, far 5 _ (by omega) h5, far 6 _ (by omega) h6⟩, fun k => by simpa using hf k⟩
theorem BoxF.m5 {w : World} {b : Nat} {v0 v1 v2 v3 v4 v5 v6 : Value} (h : BoxF w b v0 v1 v2 v3 v4 v5 v6) (u : Value) : BoxF (w.setCell ⟨b, 5, none⟩ u) b v0 v1 v2 v3 v4 u v6 := by
 obtain ⟨⟨h0, h1, h2, h3, h4, h5, h6⟩, hf⟩ := h
 have far : ∀ k v, k ≠ 5 → w.cell? ⟨b, k, none⟩ = some v → (w.setCell ⟨b, 5, none⟩ u).cell? ⟨b, k, none⟩ = some v := fun k v h5 h => by
  rw [World.cell?_setCell_other _ _ _ _ (by simp <;> omega)]; exact h
 exact ⟨⟨far 0 _ (by omega) h0, far 1 _ (by omega) h1, far 2 _ (by omega) h2, far 3 _ (by omega) h3, far 4 _ (by omega) h4, World.cell?_setCell_same _ _ _ h5, far 6 _ (by omega) h6⟩, fun k => by simpa using hf k⟩
theorem BoxF.m6 {w : World} {b : Nat} {v0 v1 v2 v3 v4 v5 v6 : Value} (h : BoxF w b v0 v1 v2 v3 v4 v5 v6) (u : Value) : BoxF (w.setCell ⟨b, 6, none⟩ u) b v0 v1 v2 v3 v4 v5 u := by
 obtain ⟨⟨h0, h1, h2, h3, h4, h5, h6⟩, hf⟩ := h
 have far : ∀ k v, k ≠ 6 → w.cell? ⟨b, k, none⟩ = some v → (w.setCell ⟨b, 6, none⟩ u).cell? ⟨b, k, none⟩ = some v := fun k v h5 h => by
  rw [World.cell?_setCell_other _ _ _ _ (by simp <;> omega)]; exact h
 exact ⟨⟨far 0 _ (by omega) h0, far 1 _ (by omega) h1, far 2 _ (by omega) h2, far 3 _ (by omega) h3, far 4 _ (by omega) h4, far 5 _ (by omega) h5, World.cell?_setCell_same _ _ _ h6⟩, fun k => by simpa using hf k⟩
def AnyW (_w : World) : Prop := True
theorem anyW (w : World) : AnyW w := True.intro
theorem splitF_small (border : List UInt8) (N : Nat) : ∀ (f : Nat) (b : List UInt8) (cur : Option (List UInt8)) (out : List (List UInt8)), (cur.getD []).length + b.length ≤ N → out.length + b.length ≤ N → (∀ x ∈ out, x.length ≤ N) →
 (∀ x ∈ (splitF border f b cur out).1, x.length ≤ N) ∧ (splitF border f b cur out).1.length ≤ N
 | 0, _, _, _, _, _, _ => by rw [splitF]; simp
 | f + 1, b, cur, out, h1, h2, h3 => by
  have hch : ∀ (l : List UInt8) (c : UInt8), (chopB l c).length ≤ l.length := by
   intro l c
   unfold chopB
   split
   · simp
   · exact Nat.le_refl _
  have hin : ∀ l : List UInt8, (innerM l).length ≤ l.length := fun l => Nat.le_trans (hch _ _) (hch _ _)
  have ho : (∀ x ∈ openM cur out, x.length ≤ N) ∧ (openM cur out).length ≤ out.length + 1 := by
   cases cur with
   | none => exact ⟨h3, by simp [openM]⟩
   | some c =>
    refine ⟨fun x hx => ?_, by simp [openM]⟩
    simp only [openM, List.mem_append, List.mem_singleton] at hx
    rcases hx with hx | rfl
    · exact h3 x hx
    · have := hin c
      simp only [Option.getD_some] at h1
      omega
  rw [splitF]
  by_cases hb : b = []
  · rw [if_pos hb]; simp
  · rw [if_neg hb]
    obtain ⟨l1, l2⟩ := line_len hb
    have l3 := congrArg List.length l2
    rw [List.length_append] at l3
    split
    · exact splitF_small border N f _ _ _ (by simp; omega) (by omega) ho.1
    · split
      · exact ⟨ho.1, by show (openM cur out).length ≤ N; omega⟩
      · refine splitF_small border N f _ _ _ ?_ (by omega) h3
        cases cur with
        | none => simp only [Option.map_none, Option.getD_none, List.length_nil] at h1 ⊢; omega
        | some c => simp only [Option.map_some, Option.getD_some, List.length_append] at h1 ⊢; omega
theorem split_small (b border : List UInt8) (h : b.length ≤ 40000) : ∀ x ∈ (splitM b border).1, x.length ≤ 40000 := by
 unfold splitM
 split
 · simp
 · split
   · simp
   · exact (splitF_small border 40000 _ b none [] (by simpa using h) (by simpa using h) (by simp)).1
theorem split_many (b border : List UInt8) (h : b.length ≤ 40000) : (splitM b border).1.length ≤ 40000 := by
 unfold splitM
 split
 · simp
 · split
   · simp
   · exact (splitF_small border 40000 _ b none [] (by simpa using h) (by simpa using h) (by simp)).2
/-- What the reader leaves. -/
def ReadRes (r : PartD × Nat × Nat) (g : Nat) (w : World) (e : Ending) (w' : World) : Prop :=
 ∃ v0 v1 v2 v3 v4 v5 v6, e = .returned (.tuple #[.agg #[v0, v1, v2, v3, v4, v5, v6], .int .i64 (r.2.2 : Nat)]) ∧ PartAt (fun b => w.heap.size ≤ b ∧ b < w'.heap.size) w' r.1 [v0, v1, v2, v3, v4, v5, v6] ∧ RdIs w' g r.2.1 ∧ w.grownBy w' (some g)
def tyM (l : List FieldD) : List UInt8 := if getF l ctN = [] then [116, 101, 120, 116, 47, 112, 108, 97, 105, 110] else getF l ctN
def manyM (k cnt : Nat) (l : List FieldD) (rest main : List UInt8) (ps : List FieldD) : PartD × Nat × Nat :=
 if (splitM rest (getF ps boundN)).2 ≠ 0 then (zeroPD, cnt + 1, (splitM rest (getF ps boundN)).2)
 else if (eachM (partM k) (splitM rest (getF ps boundN)).1 (cnt + 1) []).2.2 ≠ 0 then (zeroPD, (eachM (partM k) (splitM rest (getF ps boundN)).1 (cnt + 1) []).2.1, (eachM (partM k) (splitM rest (getF ps boundN)).1 (cnt + 1) []).2.2)
 else (⟨main, [], idM (getF l idN), getF l locN, 0, [], (eachM (partM k) (splitM rest (getF ps boundN)).1 (cnt + 1) []).1⟩, (eachM (partM k) (splitM rest (getF ps boundN)).1 (cnt + 1) []).2.1, 0)
def leafM (cnt : Nat) (l : List FieldD) (rest main : List UInt8) (ps : List FieldD) : PartD × Nat × Nat :=
 if (bodyM (getF l cteN) rest).2.2 ≠ 0 then (zeroPD, cnt + 1, (bodyM (getF l cteN) rest).2.2)
 else (⟨main, getF ps charsetN, idM (getF l idN), getF l locN, (bodyM (getF l cteN) rest).1, (bodyM (getF l cteN) rest).2.1, []⟩, cnt + 1, 0)
theorem partM_step (k cnt : Nat) (b : List UInt8) : partM (k + 1) cnt b =
 if 12 < cnt + 1 then (zeroPD, cnt + 1, 2)
 else if (parseF b).2.2 ≠ 0 then (zeroPD, cnt + 1, (parseF b).2.2)
 else if (paramsF (tyM (parseF b).1)).2.2 ≠ 0 then (zeroPD, cnt + 1, (paramsF (tyM (parseF b).1)).2.2)
 else if manyB (paramsF (tyM (parseF b).1)).1 then manyM k cnt (parseF b).1 (b.drop (parseF b).2.1) (paramsF (tyM (parseF b).1)).1 (paramsF (tyM (parseF b).1)).2.1
 else leafM cnt (parseF b).1 (b.drop (parseF b).2.1) (paramsF (tyM (parseF b).1)).1 (paramsF (tyM (parseF b).1)).2.1 := rfl
/-- What stands once a part's body is read. -/
def LeafSt (w : World) (g cnt pb : Nat) (main cv iv lv : List UInt8) (yh : Int) (bb : List UInt8) (wx : World) : Prop :=
 ∃ A5 c5, BoxF wx pb (str main) (str cv) (str iv) (str lv) (.int .i64 yh) (.slice A5 bb.length c5) (.slice none 0 0) ∧ SlS (fun q => w.heap.size + 1 ≤ q ∧ q < wx.heap.size) wx 1 A5 bb.length (Lib.byteCells bb) ∧ bb.length ≤ c5 ∧ c5 ≤ maxLen ∧
  BoxF wx w.heap.size (.string ⟨#[]⟩) (.string ⟨#[]⟩) (.string ⟨#[]⟩) (.string ⟨#[]⟩) (.int .i64 0) (.slice none 0 0) (.slice none 0 0) ∧ RdIs wx g cnt ∧ w.grownBy wx (some g)
theorem BoxF.same_ {w w' : World} {b : Nat} {v0 v1 v2 v3 v4 v5 v6 : Value} (h : BoxF w b v0 v1 v2 v3 v4 v5 v6) (e : w'.heap[b]? = w.heap[b]?) : BoxF w' b v0 v1 v2 v3 v4 v5 v6 := by
 obtain ⟨⟨h0, h1, h2, h3, h4, h5, h6⟩, hf⟩ := h
 have c : ∀ k, w'.cell? ⟨b, k, none⟩ = w.cell? ⟨b, k, none⟩ := fun k => World.cell?_of_block (a := ⟨b, k, none⟩) e
 exact ⟨⟨(c 0).trans h0, (c 1).trans h1, (c 2).trans h2, (c 3).trans h3, (c 4).trans h4, (c 5).trans h5, (c 6).trans h6⟩, fun k => (World.frozen?_of_block (a := ⟨b, k, none⟩) e).trans (hf k)⟩
theorem BoxF.lt_ {w : World} {b : Nat} {v0 v1 v2 v3 v4 v5 v6 : Value} (h : BoxF w b v0 v1 v2 v3 v4 v5 v6) : b < w.heap.size := World.block_lt_of_cell? _ _ h.1.1
def NewB (L : Nat) (v : Value) (wr : World) (b : Nat) : Prop := L ≤ b ∧ b < wr.heap.size ∧ Value.ownBlock v ≠ some b
/-- Two blocks may have changed. -/
def KeptB (g pb : Nat) (wS wr : World) : Prop := wS.heap.size ≤ wr.heap.size ∧ ∀ j, j < wS.heap.size → j ≠ g → j ≠ pb → wr.heap[j]? = wS.heap[j]?
/-- The loop over what stands between borders. -/
def ReRel (w wS : World) (g pb k : Nat) (main iv lv : List UInt8) (L : List (List UInt8)) (E : List PartD × Nat × Nat) (v7 vi : Value) (wr : World) : Prop :=
 ∃ (i m c : Nat) (S : Option Addr) (rows : List (List Value)) (out : List PartD) (cn : Nat), v7 = .int .i64 0 ∧ vi = .int .i64 (i : Nat) ∧ i ≤ L.length ∧ m ≤ i ∧ m ≤ c ∧ c ≤ maxLen ∧
  BoxF wr pb (str main) (.string ⟨#[]⟩) (str iv) (str lv) (.int .i64 0) (.slice none 0 0) (.slice S m c) ∧
  wr.ownsRow wS.heap.size 25 7 (.slice S m c) m rows.flatten ∧ PartsAt (NewB wS.heap.size (.slice S m c) wr) wr out rows ∧ RdIs wr g cn ∧ cn ≤ 12 ∧
  BoxF wr w.heap.size (.string ⟨#[]⟩) (.string ⟨#[]⟩) (.string ⟨#[]⟩) (.string ⟨#[]⟩) (.int .i64 0) (.slice none 0 0) (.slice none 0 0) ∧ w.grownBy wr (some g) ∧ KeptB g pb wS wr ∧ Hid (eachM (partM k) (L.drop i) cn out = E)
theorem partM_cnt : ∀ (k cnt : Nat) (b : List UInt8), (partM k cnt b).2.2 = 0 → (partM k cnt b).2.1 ≤ 12 := by
 intro k
 induction k with
 | zero => intro cnt b h; rw [partM] at h; cases h
 | succ k ih =>
  intro cnt b h
  rw [partM_step] at h ⊢
  by_cases h1 : 12 < cnt + 1
  · rw [if_pos h1] at h; cases h
  · rw [if_neg h1] at h ⊢
    by_cases h2 : (parseF b).2.2 ≠ 0
    · rw [if_pos h2] at h; exact absurd h h2
    · rw [if_neg h2] at h ⊢
      by_cases h3 : (paramsF (tyM (parseF b).1)).2.2 ≠ 0
      · rw [if_pos h3] at h; exact absurd h h3
      · rw [if_neg h3] at h ⊢
        by_cases h4 : manyB (paramsF (tyM (parseF b).1)).1 = true
        · rw [if_pos h4] at h ⊢
          unfold manyM at h ⊢
          generalize splitM (b.drop (parseF b).2.1) (getF (paramsF (tyM (parseF b).1)).2.1 boundN) = sp at h ⊢
          by_cases h5 : sp.2 ≠ 0
          · rw [if_pos h5] at h; exact absurd h h5
          · rw [if_neg h5] at h ⊢
            have key : ∀ (L : List (List UInt8)) (c : Nat) (o : List PartD), c ≤ 12 → (eachM (partM k) L c o).2.2 = 0 → (eachM (partM k) L c o).2.1 ≤ 12 := by
             intro L
             induction L with
             | nil => intro c o hc _; rw [eachM]; exact hc
             | cons x xs ihx =>
              intro c o hc hz
              rw [eachM] at hz ⊢
              by_cases h7 : (partM k c x).2.2 = 0
              · rw [if_pos h7] at hz ⊢
                exact ihx _ _ (ih c x h7) hz
              · rw [if_neg h7] at hz
                exact absurd hz h7
            by_cases h6 : (eachM (partM k) sp.1 (cnt + 1) []).2.2 ≠ 0
            · rw [if_pos h6] at h; exact absurd h h6
            · rw [if_neg h6]
              exact key _ _ _ (by omega) (by simpa using h6)
        · rw [if_neg h4] at h ⊢
          unfold leafM at h ⊢
          by_cases h5 : (bodyM (getF (parseF b).1 cteN) (b.drop (parseF b).2.1)).2.2 ≠ 0
          · rw [if_pos h5] at h; exact absurd h h5
          · rw [if_neg h5]
            show cnt + 1 ≤ 12
            omega
end Go.Proofs.YtinfjdfhkfhgjaaGreatDoor
namespace Go.Proofs.YtinfjdfhkfhgjaaGreatDoor
open Go.RowKit
def CntAt (w : World) (g cnt : Nat) : Prop := w.heap[g]? = some (.cells #[.int .i64 (cnt : Nat)] 3 (0, 0))
theorem CntAt.lt {w : World} {g cnt : Nat} (h : CntAt w g cnt) : g < w.heap.size := by
 rcases Nat.lt_or_ge g w.heap.size with h' | h'
 · exact h'
 · unfold CntAt at h; rw [Array.getElem?_eq_none h'] at h; cases h
theorem CntAt.cell {w : World} {g cnt : Nat} (h : CntAt w g cnt) : w.cell? ⟨g, 0, none⟩ = some (.int .i64 (cnt : Nat)) := by unfold CntAt at h; unfold World.cell?; rw [h]; rfl
theorem CntAt.fz {w : World} {g cnt : Nat} (h : CntAt w g cnt) : w.frozen? ⟨g, 0, none⟩ = false := by
 unfold CntAt at h
 unfold World.frozen?
 rw [h]
 simp
theorem CntAt.below {w w' : World} {g cnt : Nat} (h : CntAt w g cnt) (hb : Below w.heap.size w w') : CntAt w' g cnt := (hb.block g h.lt).trans h
theorem CntAt.set {w : World} {g cnt : Nat} (h : CntAt w g cnt) (x : Nat) : CntAt (w.setCell ⟨g, 0, none⟩ (.int .i64 (x : Nat))) g x := by
 unfold CntAt at h ⊢
 simp only [World.setCell, Array.getElem?_modify, if_pos, h, Option.map_some]
 rfl
theorem CntAt.other {w w' : World} {g cnt : Nat} (h : CntAt w g cnt) (hb : w'.heap[g]? = w.heap[g]?) : CntAt w' g cnt := hb.trans h
def rdFv (g h : Nat) : Value := .func (.func 37) #[] #[.pointer (some ⟨g, 0, none⟩), .pointer (some ⟨h, 0, none⟩)]
def FnAt (w : World) (h g : Nat) : Prop := w.heap[h]? = some (.cells #[rdFv g h] 47 (0, 0))
theorem FnAt.lt {w : World} {h g : Nat} (k : FnAt w h g) : h < w.heap.size := by
 rcases Nat.lt_or_ge h w.heap.size with h' | h'
 · exact h'
 · unfold FnAt at k; rw [Array.getElem?_eq_none h'] at k; cases k
theorem FnAt.cell {w : World} {h g : Nat} (k : FnAt w h g) : w.cell? ⟨h, 0, none⟩ = some (rdFv g h) := by unfold FnAt at k; unfold World.cell?; rw [k]; rfl
theorem FnAt.other {w w' : World} {h g : Nat} (k : FnAt w h g) (hb : w'.heap[h]? = w.heap[h]?) : FnAt w' h g := hb.trans k
theorem FnAt.below {w w' : World} {h g : Nat} (k : FnAt w h g) (hb : Below w.heap.size w w') : FnAt w' h g := (hb.block h k.lt).trans k
/-- What a level answers: the part counts only where there is no error. -/
def BrRes (r : PartD × Nat × Nat) (g : Nat) (w : World) (e : Ending) (w' : World) : Prop :=
 ∃ (s0 s1 s2 s3 : List UInt8) (x : Int) (A : Option Addr) (n c : Nat) (A2 : Option Addr) (n2 c2 cn : Nat), e = .returned (.tuple #[.agg #[str s0, str s1, str s2, str s3, .int .i64 x, .slice A n c, .slice A2 n2 c2], .int .i64 (r.2.2 : Nat)]) ∧
  (r.2.2 = 0 → PartAt (fun b => w.heap.size ≤ b ∧ b < w'.heap.size) w' r.1 [str s0, str s1, str s2, str s3, .int .i64 x, .slice A n c, .slice A2 n2 c2] ∧ cn = r.2.1) ∧ CntAt w' g cn ∧ w.grownBy w' (some g)
/-- Where the closure is called: its boxes lie above the base. -/
def BrAt (wB w : World) (g h cnt : Nat) : Prop := Below wB.heap.size wB w ∧ wB.heap.size ≤ g ∧ wB.heap.size ≤ h ∧ g ≠ h ∧ CntAt w g cnt ∧ FnAt w h g
theorem BrAt.below {wB w w' : World} {g h cnt : Nat} (k : BrAt wB w g h cnt) (hb : Below w.heap.size w w') : BrAt wB w' g h cnt :=
 ⟨k.1.trans (hb.mono k.1.size), k.2.1, k.2.2.1, k.2.2.2.1, k.2.2.2.2.1.below hb, k.2.2.2.2.2.below hb⟩
theorem BrAt.set {wB w : World} {g h cnt : Nat} (k : BrAt wB w g h cnt) (x : Nat) : BrAt wB (w.setCell ⟨g, 0, none⟩ (.int .i64 (x : Nat))) g h x :=
 ⟨⟨k.1.os, k.1.tape, k.1.output, by simpa [World.setCell] using k.1.size, fun j hj => (Below.heap_setCell w ⟨g, 0, none⟩ _ j (by have := k.2.1; show j ≠ g; omega)).trans (k.1.block j hj)⟩, k.2.1, k.2.2.1, k.2.2.2.1, k.2.2.2.2.1.set x, k.2.2.2.2.2.other (Below.heap_setCell w ⟨g, 0, none⟩ _ h (fun e => k.2.2.2.1 e.symm))⟩
/-- The result's cells are set: all else stays. -/
theorem brbox_end {w W : World} {g cnt : Nat} (hg : CntAt W g cnt) (hgl : g < w.heap.size) (hgr : w.grownBy W (some g)) (u0 u1 u2 u3 u4 u5 u6 : Value) :
 CntAt (((((((W.setCell ⟨w.heap.size, 0, none⟩ u0).setCell ⟨w.heap.size, 1, none⟩ u1).setCell ⟨w.heap.size, 2, none⟩ u2).setCell ⟨w.heap.size, 3, none⟩ u3).setCell ⟨w.heap.size, 4, none⟩ u4).setCell ⟨w.heap.size, 5, none⟩ u5).setCell ⟨w.heap.size, 6, none⟩ u6) g cnt ∧ w.grownBy (((((((W.setCell ⟨w.heap.size, 0, none⟩ u0).setCell ⟨w.heap.size, 1, none⟩ u1).setCell ⟨w.heap.size, 2, none⟩ u2).setCell ⟨w.heap.size, 3, none⟩ u3).setCell ⟨w.heap.size, 4, none⟩ u4).setCell ⟨w.heap.size, 5, none⟩ u5).setCell ⟨w.heap.size, 6, none⟩ u6) (some g) := by
 have far : ∀ (X : World) (k : Nat) (u : Value), CntAt X g cnt ∧ w.grownBy X (some g) → CntAt (X.setCell ⟨w.heap.size, k, none⟩ u) g cnt ∧ w.grownBy (X.setCell ⟨w.heap.size, k, none⟩ u) (some g) := by
  intro X k u hX
  have hb : ∀ j, j ≠ w.heap.size → (X.setCell ⟨w.heap.size, k, none⟩ u).heap[j]? = X.heap[j]? := fun j hj => Below.heap_setCell X ⟨w.heap.size, k, none⟩ u j (by show j ≠ w.heap.size; exact hj)
  exact ⟨hX.1.other (hb g (by omega)), ⟨hX.2.os, hX.2.tape, hX.2.output, by simpa [World.setCell] using hX.2.size, fun j hj hne => (hb j (by omega)).trans (hX.2.block j hj hne)⟩⟩
 exact far _ _ _ (far _ _ _ (far _ _ _ (far _ _ _ (far _ _ _ (far _ _ _ (far _ _ _ ⟨hg, hgr⟩))))))
def getQ (q : FieldD → Bool) : List FieldD → List UInt8
 | [] => []
 | f :: r => if q f = true then f.value else getQ q r
def firQ (q : FieldD → Bool) : List FieldD → Nat → Int
 | [], _ => -1
 | f :: r, i => if q f = true then (i : Nat) else firQ q r (i + 1)
theorem getQ_F (n : List UInt8) : ∀ l : List FieldD, getQ (fun f => Lib.equalFold f.name n) l = getF l n
 | [] => rfl
 | f :: r => by rw [getQ, getF, getQ_F n r]
theorem firQ_get (q : FieldD → Bool) : ∀ (l : List FieldD) (i : Nat), (firQ q l i = -1 ∧ getQ q l = []) ∨ ∃ k x, firQ q l i = ((i + k : Nat) : Int) ∧ k < l.length ∧ l.drop k = x :: l.drop (k + 1) ∧ getQ q l = x.value
 | [], i => .inl ⟨rfl, rfl⟩
 | f :: r, i => by
  rw [firQ, getQ]
  by_cases h : q f = true
  · rw [if_pos h, if_pos h]
    exact .inr ⟨0, f, rfl, by simp, rfl, rfl⟩
  · rw [if_neg h, if_neg h]
    rcases firQ_get q r (i + 1) with h1 | ⟨k, x, h1, h2, h3, h4⟩
    · exact .inl h1
    · exact .inr ⟨k + 1, x, by rw [h1]; congr 1; omega, by simpa using h2, by simpa using h3, h4⟩
def PredFld (g : Nat) (lb : Array Value) (p : FieldD → Bool) (l : List FieldD) (w : World) : Prop :=
 ∀ (W : World) (x : FieldD), x ∈ l → Below w.heap.size w W → Calls Tryz.prog g (#[.agg x.cells.toArray] ++ lb) W fun e w' => e = .returned (.bool (p x)) ∧ Below W.heap.size W w'
theorem IndexFunc_Field (g : Nat) (lb : Array Value) (eg : ∀ args w, (callFunc g args).run Tryz.prog w = .ok (.enter g args) w) (p : FieldD → Bool) (A : Option Addr) (n c B : Nat) (l : List FieldD) (w : World) (hb : Sl w B 2 A n (fieldC l)) (hB : B ≤ w.heap.size) (hm : n ≤ maxLen) (hp : PredFld g lb p l w) :
 Calls Tryz.prog 81 #[.slice A n c, .func (.func g) #[] lb] w fun e w' => e = .returned (.int .i64 (firQ p l 0)) ∧ Below w.heap.size w w' := by
 obtain ⟨R, hR⟩ : ∃ R, R = firQ p l 0 := ⟨_, rfl⟩
 rw [← hR]
 have hl : l.length = n := by have := hb.1; rw [fieldC_len] at this; omega
 have HR := Lib.hid hR
 have Hl := Lib.hid hl
 have Hb := Lib.hid hb
 have Hp := Lib.hid hp
 clear hR hl hb hp
 unfold maxLen at hm
 go_enter Tryz.func81, Tryz.ntmps81
 go_wp2_with fail
 go_loopw [8] (fun iv wr => ∃ k : Nat, k ≤ n ∧ iv = .int .i64 (k : Nat) ∧ Below w.heap.size w wr ∧ Hid (firQ p (l.drop k) k = R)) (fun iv _ => n - (intOf iv).toNat)
 case atStart => exact ⟨0, Nat.zero_le _, rfl, Below.refl _ _, Lib.hid (by rw [List.drop_zero]; exact HR.out.symm)⟩
 case round =>
  obtain ⟨k, hk, rfl, hbel, hz⟩ := hrel
  by_cases hkn : k < n
  · obtain ⟨b, off, x, rfl, hbB, hd, x0, x1⟩ := (Sl.below Hb.out (hbel.mono hB)).field k hkn
    have hs := hz.out
    rw [hd, firQ] at hs
    have cS := Hp.out wr x (List.mem_of_mem_drop (i := k) (by rw [hd]; simp)) hbel
    clear hd
    by_cases hpk : p x = true
    · rw [hpk] at cS
      rw [if_pos hpk] at hs
      have Hs := Lib.hid hs
      have CS := Lib.hid cS
      clear hpk hs cS
      go_wp2_with (go_at_fn g; refine CS.out.mono ?_; rintro e w1 ⟨rfl, hb1⟩)
      go_ret
      exact ⟨by rw [← Hs.out]; rfl, hbel.trans (hb1.mono hbel.size)⟩
    · have hpf : p x = false := by simpa using hpk
      rw [hpf] at cS
      rw [if_neg hpk] at hs
      have Hs := Lib.hid hs
      have CS := Lib.hid cS
      clear hpk hpf hs cS
      go_wp2_with (go_at_fn g; refine CS.out.mono ?_; rintro e w1 ⟨rfl, hb1⟩)
      exact ⟨⟨k + 1, by omega, by go_num, hbel.trans (hb1.mono hbel.size), Hs⟩, by simp [intOf]; omega⟩
  · obtain rfl : k = n := by omega
    have hs := hz.out
    rw [List.drop_of_length_le (by rw [Hl.out]; exact Nat.le_refl _), firQ] at hs
    have Hs := Lib.hid hs
    clear hs
    go_wp2_with fail
    go_ret
    exact ⟨by rw [← Hs.out]; rfl, hbel⟩
theorem got1_any (q : FieldD → Bool) (name : List UInt8) (x : FieldD) (nb : Nat) (W : World) (hc : W.cell? ⟨nb, 0, none⟩ = some (str name)) (hef : ∀ W', Below W.heap.size W W' → Calls Tryz.prog 83 #[str x.name, str name] W' fun e w' => e = .returned (.bool (q x)) ∧ Below W'.heap.size W' w') :
 Calls Tryz.prog 82 #[.agg x.cells.toArray, .pointer (some ⟨nb, 0, none⟩)] W fun e w' => e = .returned (.bool (q x)) ∧ Below W.heap.size W w' := by
 obtain ⟨W1, hW1⟩ : ∃ W1, W1 = W.alloc (.cells #[str x.name, str x.value] 100) := ⟨_, rfl⟩
 have hb1 : Below W.heap.size W W1 := by rw [hW1]; exact (Below.refl _ _).alloc (Nat.le_refl _) _
 have hx := box2_new W 100 (str x.name) (str x.value)
 rw [← hW1] at hx
 obtain ⟨x0, x1⟩ := hx
 have c1 := (hb1.cell (p := ⟨nb, 0, none⟩) (World.block_lt_of_cell? _ _ hc)).trans hc
 have Hef := Lib.hid (hef W1 hb1)
 generalize q x = r at Hef
 show Calls Tryz.prog 82 #[.agg #[str x.name, str x.value], .pointer (some ⟨nb, 0, none⟩)] W _
 clear hef
 go_enter Tryz.func82, Tryz.ntmps82
 go_upto_region 1 with fail
 rw [← hW1]
 clear hW1
 go_wp2_with fail
 refine Hef.out.mono ?_
 rintro e w2 ⟨rfl, hb2⟩
 go_wp2_with fail
 go_ret
 exact ⟨rfl, hb1.trans (hb2.mono hb1.size)⟩
/-- The document's Got, whatever EqualFold tells of the names. -/
theorem Got_any (q : FieldD → Bool) (l : List FieldD) (name : List UInt8) (A : Option Addr) (n c B : Nat) (w : World) (h : Sl w B 2 A n (fieldC l)) (hB : B ≤ w.heap.size) (hn : n ≤ maxLen)
 (hef : ∀ x ∈ l, ∀ W', Below w.heap.size w W' → Calls Tryz.prog 83 #[str x.name, str name] W' fun e w' => e = .returned (.bool (q x)) ∧ Below W'.heap.size W' w') :
 Calls Tryz.prog 39 #[.slice A n c, str name] w fun e w' => e = .returned (str (getQ q l)) ∧ Below w.heap.size w w' := by
 have hl : l.length = n := by have := h.1; rw [fieldC_len] at this; omega
 obtain ⟨W1, hW1⟩ : ∃ W1, W1 = w.alloc (.cells #[str name] 9) := ⟨_, rfl⟩
 have hb1 : Below w.heap.size w W1 := by rw [hW1]; exact (Below.refl _ _).alloc (Nat.le_refl _) _
 have hc1 : W1.cell? ⟨w.heap.size, 0, none⟩ = some (str name) := by unfold World.cell?; rw [hW1, heap_alloc_new]; rfl
 have hlt1 : w.heap.size < W1.heap.size := by rw [hW1]; simp
 have hix := IndexFunc_Field 82 #[.pointer (some ⟨w.heap.size, 0, none⟩)] (enters_of Tryz.func82 (by kernel_rfl) rfl) q A n c B l W1 (h.below (hb1.mono hB)) (by omega) hn
  (fun W x hx hbW => got1_any q name x w.heap.size W ((hbW.cell (p := ⟨w.heap.size, 0, none⟩) hlt1).trans hc1) (fun W' hb' => hef x hx W' (hb1.trans ((hbW.trans (hb'.mono hbW.size)).mono hb1.size))))
 have hg := firQ_get q l 0
 generalize firQ q l 0 = ix at hix hg
 obtain ⟨R, hR⟩ : ∃ R, R = getQ q l := ⟨_, rfl⟩
 rw [← hR] at hg ⊢
 have Hix := Lib.hid hix
 have HS := Lib.hid h
 have Hl := Lib.hid hl
 unfold maxLen at hn
 clear hef hix hR h hl
 rcases hg with ⟨rfl, rfl⟩ | ⟨k, x, hk, hkl, hd, rfl⟩
 · go_enter Tryz.func39, Tryz.ntmps39
   go_upto_region 1 with fail
   rw [← hW1]
   clear hW1
   go_wp2_with fail
   refine Hix.out.mono ?_
   rintro e w2 ⟨rfl, hb2⟩
   go_wp2_with fail
   go_ret
   exact ⟨rfl, hb1.trans (hb2.mono hb1.size)⟩
 · rw [Nat.zero_add] at hk
   subst hk
   have hkn : k < n := by rw [← Hl.out]; exact hkl
   have d0 : decide ((k : Int) < 0) = false := by simp
   go_enter Tryz.func39, Tryz.ntmps39
   go_upto_region 1 with fail
   rw [← hW1]
   clear hW1
   go_wp2_with fail
   refine Hix.out.mono ?_
   rintro e w2 ⟨rfl, hb2⟩
   have hbw := hb1.trans (hb2.mono hb1.size)
   obtain ⟨b, off, y, rfl, hbB, hd2, y0, y1⟩ := (HS.out.below (hbw.mono hB)).field k hkn
   obtain rfl : x = y := by rw [hd] at hd2; injection hd2
   clear hd hd2
   go_wp2_with fail
   go_ret
   exact ⟨rfl, hbw⟩
end Go.Proofs.YtinfjdfhkfhgjaaGreatDoor
namespace Go.Proofs.YtinfjdfhkfhgjaaGreatDoor
theorem cut_one (s : List UInt8) (c : UInt8) : (∃ x y, s = x ++ c :: y ∧ (∀ b ∈ x, b ≠ c) ∧ Lib.cut s [c] = (x, y, true)) ∨ ((∀ b ∈ s, b ≠ c) ∧ Lib.cut s [c] = (s, [], false)) := by
 by_cases h : c ∈ s
 · obtain ⟨x, y, rfl, hx⟩ := first_of s c h
   exact .inl ⟨x, y, rfl, hx, cut_app x y c hx⟩
 · have hx : ∀ b ∈ s, b ≠ c := fun b hb e => h (e ▸ hb)
   exact .inr ⟨hx, cut_not s c hx⟩
theorem dropW_nil {α : Type} {p : α → Bool} : ∀ {l : List α}, l.dropWhile p = [] ↔ ∀ b ∈ l, p b = true
 | [] => by simp
 | a :: l => by
  have ih := dropW_nil (p := p) (l := l)
  rw [List.dropWhile_cons]
  by_cases h : p a = true
  · rw [if_pos h, ih]; simp [h]
  · rw [if_neg h]; simp [h]
theorem trimPQ_len (s cs : List UInt8) : (Lib.trimLeftS s cs).length ≤ s.length := (List.dropWhile_suffix _).length_le
def stepQ (f : List UInt8 → Bool → List FieldD → List FieldD × Nat) (rest : List UInt8) (l : List FieldD) : List FieldD × Nat :=
 let c := Lib.cut (Lib.trimLeftS rest [32]) [61]
 let name := Lib.trimS c.1 [32]
 if (!c.2.2 || !tokB name) = true then ([], 1)
 else
  let v := Lib.trimLeftS c.2.1 [32]
  if Lib.hasPrefix v [34] = true then
   let d := Lib.cut (v.drop 1) [34]
   if d.2.2 = false then ([], 1)
   else
    let g := Lib.cut d.2.1 [59]
    if Lib.trimS g.1 [32] ≠ [] then ([], 1)
    else if 20 < (l ++ [FieldD.mk (lowL name) d.1]).length then ([], 2)
    else f g.2.1 g.2.2 (l ++ [FieldD.mk (lowL name) d.1])
  else
   let d := Lib.cut v [59]
   let p := Lib.trimRightS d.1 [32]
   if tokB p = false then ([], 1)
   else if 20 < (l ++ [FieldD.mk (lowL name) p]).length then ([], 2)
   else f d.2.1 d.2.2 (l ++ [FieldD.mk (lowL name) p])
theorem loopP_step (k : Nat) (rest : List UInt8) (l : List FieldD) : loopP (k + 1) rest true l = stepQ (loopP k) rest l := by
 rw [loopP, if_neg (by simp)]
 rfl
theorem stepQ_congr (f g : List UInt8 → Bool → List FieldD → List FieldD × Nat) (rest : List UInt8) (l : List FieldD) (h : ∀ r m l', r.length < rest.length → f r m l' = g r m l') : stepQ f rest l = stepQ g rest l := by
 unfold stepQ
 have h0 := trimPQ_len rest [32]
 rcases cut_one (Lib.trimLeftS rest [32]) 61 with ⟨x, y, he, hx, hc⟩ | ⟨_, hc⟩
 · rw [hc]
   have hl := congrArg List.length he
   rw [List.length_append, List.length_cons] at hl
   have h1 := trimPQ_len y [32]
   simp only
   rcases cut_one (List.drop 1 (Lib.trimLeftS y [32])) 34 with ⟨a, b, he2, _, hc2⟩ | ⟨_, hc2⟩
   · rw [hc2]
     have hl2 := congrArg List.length he2
     rw [List.length_append, List.length_cons, List.length_drop] at hl2
     simp only
     have hA : ∀ l', f (Lib.cut b [59]).2.1 (Lib.cut b [59]).2.2 l' = g (Lib.cut b [59]).2.1 (Lib.cut b [59]).2.2 l' := by
      intro l'
      rcases cut_one b 59 with ⟨p, q, he3, _, hc3⟩ | ⟨_, hc3⟩
      · have hl3 := congrArg List.length he3
        rw [List.length_append, List.length_cons] at hl3
        rw [hc3]
        exact h _ _ _ (by simp only; omega)
      · rw [hc3]
        exact h _ _ _ (by simp only [List.length_nil]; omega)
     have hB : ∀ l', f (Lib.cut (Lib.trimLeftS y [32]) [59]).2.1 (Lib.cut (Lib.trimLeftS y [32]) [59]).2.2 l' = g (Lib.cut (Lib.trimLeftS y [32]) [59]).2.1 (Lib.cut (Lib.trimLeftS y [32]) [59]).2.2 l' := by
      intro l'
      rcases cut_one (Lib.trimLeftS y [32]) 59 with ⟨p, q, he3, _, hc3⟩ | ⟨_, hc3⟩
      · have hl3 := congrArg List.length he3
        rw [List.length_append, List.length_cons] at hl3
        rw [hc3]
        exact h _ _ _ (by simp only; omega)
      · rw [hc3]
        exact h _ _ _ (by simp only [List.length_nil]; omega)
     rw [hA, hB]
   · rw [hc2]
     simp only [if_true]
     have hB : ∀ l', f (Lib.cut (Lib.trimLeftS y [32]) [59]).2.1 (Lib.cut (Lib.trimLeftS y [32]) [59]).2.2 l' = g (Lib.cut (Lib.trimLeftS y [32]) [59]).2.1 (Lib.cut (Lib.trimLeftS y [32]) [59]).2.2 l' := by
      intro l'
      rcases cut_one (Lib.trimLeftS y [32]) 59 with ⟨p, q, he3, _, hc3⟩ | ⟨_, hc3⟩
      · have hl3 := congrArg List.length he3
        rw [List.length_append, List.length_cons] at hl3
        rw [hc3]
        exact h _ _ _ (by simp only; omega)
      · rw [hc3]
        exact h _ _ _ (by simp only [List.length_nil]; omega)
     rw [hB]
 · rw [hc]
   simp only [Bool.not_false, Bool.true_or, if_true]
theorem loopP_fuel : ∀ (k j : Nat) (rest : List UInt8) (more : Bool) (l : List FieldD), rest.length < k → rest.length < j → loopP k rest more l = loopP j rest more l
 | 0, _, _, _, _, h, _ => absurd h (by omega)
 | _, 0, _, _, _, _, h => absurd h (by omega)
 | k + 1, j + 1, rest, more, l, hk, hj => by
  cases more with
  | false => rw [loopP, loopP, if_pos rfl, if_pos rfl]
  | true =>
   rw [loopP_step, loopP_step]
   exact stepQ_congr _ _ _ _ fun r m l' h => loopP_fuel k j r m l' (by omega) (by omega)
def PQ : List UInt8 → List FieldD → List FieldD × Nat
 | [], l => (l, 0)
 | _ :: t, l => loopP (t.length + 1) t true l
theorem loopP_cut (k : Nat) (s : List UInt8) (l : List FieldD) (h : s.length < k) : loopP k (Lib.cut s [59]).2.1 (Lib.cut s [59]).2.2 l = PQ (s.dropWhile (· != 59)) l := by
 rcases cut_one s 59 with ⟨x, y, rfl, hx, hc⟩ | ⟨hx, hc⟩
 · rw [hc]
   have : (x ++ 59 :: y).dropWhile (· != 59) = 59 :: y := by
    rw [List.dropWhile_append_of_pos (fun b hb => by simpa using hx b hb)]
    rfl
   rw [this, PQ]
   rw [List.length_append, List.length_cons] at h
   exact loopP_fuel _ _ _ _ _ (by show y.length < k; omega) (by show y.length < y.length + 1; omega)
 · rw [hc]
   have : s.dropWhile (· != 59) = [] := by
    rw [dropW_nil]
    intro b hb
    simpa using hx b hb
   rw [this, PQ]
   obtain ⟨k, rfl⟩ : ∃ j, k = j + 1 := ⟨k - 1, by omega⟩
   rw [loopP, if_pos rfl]
theorem cut_tw59 (s : List UInt8) : (Lib.cut s [59]).1 = s.takeWhile (· != 59) := by rw [cut_tw]
/-- A gap behind what stands between quotes. -/
theorem gap_iff (g : List UInt8) : Lib.trimS (Lib.cut g [59]).1 [32] = [] ↔ ∀ c r, Lib.trimLeftS g [32] = c :: r → c = 59 := by
 have htl : ∀ x : List UInt8, Lib.trimS x [32] = [] ↔ ∀ b ∈ x, b = 32 := by
  intro x
  constructor
  · intro h b hb
    by_cases hb2 : b = 32
    · exact hb2
    · exfalso
      unfold Lib.trimS Lib.trimLeftS Lib.trimRightS at h
      rw [dropW_nil] at h
      have h2 : b ∈ (x.reverse.dropWhile ([32].contains ·)).reverse := by
       rw [List.mem_reverse]
       have hm : b ∈ x.reverse := List.mem_reverse.2 hb
       rw [← List.takeWhile_append_dropWhile (p := ([32].contains ·)) (l := x.reverse)] at hm
       rcases List.mem_append.1 hm with hm | hm
       · have := List.all_eq_true.1 (List.all_takeWhile (p := ([32].contains ·)) (l := x.reverse)) b hm
         simp at this
         exact absurd this hb2
       · exact hm
      have := h b h2
      simp at this
      exact hb2 this
  · intro h
    unfold Lib.trimS Lib.trimLeftS Lib.trimRightS
    rw [dropW_nil]
    intro b hb
    have := (List.dropWhile_suffix _).subset (List.mem_reverse.1 hb)
    simp [h b (List.mem_reverse.1 this)]
 rw [htl]
 rcases cut_one g 59 with ⟨x, y, rfl, hx, hc⟩ | ⟨hx, hc⟩
 · rw [hc]
   simp only
   constructor
   · intro h c r he
     unfold Lib.trimLeftS at he
     rw [List.dropWhile_append_of_pos (fun b hb => by simp [h b hb])] at he
     simp at he
     exact he.1.symm
   · intro h b hb
     by_cases hall : ∀ b ∈ x, ([32] : List UInt8).contains b = true
     · simpa using hall b hb
     · exfalso
       have hne : x.dropWhile ([32].contains ·) ≠ [] := by
        rw [ne_eq, dropW_nil]
        exact hall
       cases hd : x.dropWhile ([32].contains ·) with
       | nil => exact hne hd
       | cons c r =>
        have e : Lib.trimLeftS (x ++ 59 :: y) [32] = c :: (r ++ 59 :: y) := by
         unfold Lib.trimLeftS
         rw [List.dropWhile_append, hd]
         simp
        have h59 := h c _ e
        have hm : c ∈ x := (List.dropWhile_suffix ([32].contains ·)).subset (by rw [hd]; simp)
        exact hx c hm h59
 · rw [hc]
   simp only
   constructor
   · intro h c r he
     unfold Lib.trimLeftS at he
     have : g.dropWhile ([32].contains ·) = [] := by
      rw [dropW_nil]
      intro b hb
      simp [h b hb]
     rw [this] at he
     cases he
   · intro h b hb
     cases hd : Lib.trimLeftS g [32] with
     | nil =>
      unfold Lib.trimLeftS at hd
      rw [dropW_nil] at hd
      simpa using hd b hb
     | cons c r =>
      have hm : c ∈ g := (List.dropWhile_suffix ([32].contains ·)).subset (by unfold Lib.trimLeftS at hd; rw [hd]; simp)
      exact absurd (h c r hd) (hx c hm)
theorem gap_drop (g : List UInt8) (h : ∀ c r, Lib.trimLeftS g [32] = c :: r → c = 59) : g.dropWhile (· != 59) = Lib.trimLeftS g [32] := by
 cases hd : Lib.trimLeftS g [32] with
 | nil =>
  unfold Lib.trimLeftS at hd
  rw [dropW_nil] at hd ⊢
  intro b hb
  have := hd b hb
  simp at this
  subst this
  decide
 | cons c r =>
  obtain rfl := h c r hd
  have e := List.takeWhile_append_dropWhile (p := ([32].contains ·)) (l := g)
  unfold Lib.trimLeftS at hd
  rw [hd] at e
  rw [← e, List.dropWhile_append_of_pos]
  · rfl
  · intro b hb
    have := List.all_eq_true.1 (List.all_takeWhile (p := ([32].contains ·)) (l := g)) b hb
    simp at this
    subst this
    decide
section
variable {t x y : List UInt8} {l : List FieldD}
theorem PQ_noeq (h : ∀ b ∈ Lib.trimLeftS t [32], b ≠ 61) : PQ (59 :: t) l = ([], 1) := by
 rw [PQ, loopP_step]
 unfold stepQ
 rw [cut_not _ _ h]
 simp
theorem PQ_name (h : Lib.trimLeftS t [32] = x ++ 61 :: y) (hx : ∀ b ∈ x, b ≠ 61) (hn : tokB (Lib.trimS x [32]) = false) : PQ (59 :: t) l = ([], 1) := by
 rw [PQ, loopP_step]
 unfold stepQ
 rw [h, cut_app _ _ _ hx]
 simp [hn]
theorem PQ_open {z : List UInt8} (h : Lib.trimLeftS t [32] = x ++ 61 :: y) (hx : ∀ b ∈ x, b ≠ 61) (hn : tokB (Lib.trimS x [32]) = true) (hy : Lib.trimLeftS y [32] = 34 :: z) (hz : ∀ b ∈ z, b ≠ 34) : PQ (59 :: t) l = ([], 1) := by
 rw [PQ, loopP_step]
 unfold stepQ
 rw [h, cut_app _ _ _ hx]
 have hp : Lib.hasPrefix (34 :: z) [34] = true := by simp [Lib.hasPrefix]
 simp only [hn, Bool.not_true, Bool.or_self, Bool.false_eq_true, if_false, hy]
 rw [if_pos hp]
 simp only [List.drop_one, List.tail_cons]
 rw [cut_not _ _ hz, if_pos rfl]
theorem PQ_quote {z v g : List UInt8} (h : Lib.trimLeftS t [32] = x ++ 61 :: y) (hx : ∀ b ∈ x, b ≠ 61) (hn : tokB (Lib.trimS x [32]) = true) (hy : Lib.trimLeftS y [32] = 34 :: z) (hz : z = v ++ 34 :: g) (hv : ∀ b ∈ v, b ≠ 34) :
 PQ (59 :: t) l = if Lib.trimS (Lib.cut g [59]).1 [32] ≠ [] then ([], 1) else if 20 < (l ++ [FieldD.mk (lowL (Lib.trimS x [32])) v]).length then ([], 2) else PQ (g.dropWhile (· != 59)) (l ++ [FieldD.mk (lowL (Lib.trimS x [32])) v]) := by
 have hl := congrArg List.length h
 have hl2 := congrArg List.length hy
 have h0 := trimPQ_len t [32]
 have h1 := trimPQ_len y [32]
 rw [List.length_append, List.length_cons] at hl
 rw [hz, List.length_cons, List.length_append, List.length_cons] at hl2
 rw [← loopP_cut t.length g _ (by omega)]
 rw [PQ, loopP_step]
 unfold stepQ
 rw [h, cut_app _ _ _ hx]
 have hp : Lib.hasPrefix (34 :: z) [34] = true := by simp [Lib.hasPrefix]
 simp only [hn, Bool.not_true, Bool.or_self, Bool.false_eq_true, if_false, hy]
 rw [if_pos hp]
 simp only [List.drop_one, List.tail_cons]
 rw [hz, cut_app _ _ _ hv, if_neg (by simp)]
theorem PQ_tok (h : Lib.trimLeftS t [32] = x ++ 61 :: y) (hx : ∀ b ∈ x, b ≠ 61) (hn : tokB (Lib.trimS x [32]) = true) (hy : (Lib.trimLeftS y [32]).head? ≠ some 34) :
 PQ (59 :: t) l = if tokB (Lib.trimRightS ((Lib.trimLeftS y [32]).takeWhile (· != 59)) [32]) = false then ([], 1) else if 20 < (l ++ [FieldD.mk (lowL (Lib.trimS x [32])) (Lib.trimRightS ((Lib.trimLeftS y [32]).takeWhile (· != 59)) [32])]).length then ([], 2)
  else PQ ((Lib.trimLeftS y [32]).dropWhile (· != 59)) (l ++ [FieldD.mk (lowL (Lib.trimS x [32])) (Lib.trimRightS ((Lib.trimLeftS y [32]).takeWhile (· != 59)) [32])]) := by
 have hl := congrArg List.length h
 have h0 := trimPQ_len t [32]
 have h1 := trimPQ_len y [32]
 rw [List.length_append, List.length_cons] at hl
 rw [← loopP_cut t.length _ _ (by omega), ← cut_tw59]
 rw [PQ, loopP_step]
 unfold stepQ
 rw [h, cut_app _ _ _ hx]
 have hp : Lib.hasPrefix (Lib.trimLeftS y [32]) [34] = false := by
  cases hq : Lib.trimLeftS y [32] with
  | nil => rfl
  | cons c r =>
   rw [hq] at hy
   have hc : c ≠ 34 := fun e => hy (by rw [e]; rfl)
   show (34 == c && List.isPrefixOf [] r) = false
   simp [Ne.symm hc]
 simp only [hn, Bool.not_true, Bool.or_self, Bool.false_eq_true, if_false, hp]
end
theorem params_PQ (s : List UInt8) : paramsF s = if valB s = false then ([], [], 1) else if (PQ (s.dropWhile (· != 59)) []).2 = 0 then (lowL (Lib.trimS (s.takeWhile (· != 59)) [32]), (PQ (s.dropWhile (· != 59)) []).1, 0) else ([], [], (PQ (s.dropWhile (· != 59)) []).2) := by
 unfold paramsF
 simp only
 rw [loopP_cut _ s [] (by omega), cut_tw59]
end Go.Proofs.YtinfjdfhkfhgjaaGreatDoor
namespace Go.Proofs.YtinfjdfhkfhgjaaGreatDoor
open Go.RowKit
def okP (lo hi : Nat) (but : List UInt8) (x : Nat) : Bool := !(decide (x < lo) || decide (hi < x) || decide (0 ≤ Lib.indexByte but (x : Int).toNat.toUInt8))
theorem all_missP (l : List UInt8) (p : Nat → Bool) (k : Nat) (hk : k < l.length) (h : p (nth l k) = false) : l.all (fun b => p b.toNat) = false := by
 rw [List.all_eq_false]
 exact ⟨l[k], List.getElem_mem hk, by rw [← nth_of l k hk, h]; simp⟩
theorem all_hitP (l : List UInt8) (p : Nat → Bool) (h : ∀ j, j < l.length → p (nth l j) = true) : l.all (fun b => p b.toNat) = true := by
 rw [List.all_eq_true]
 intro x hx
 obtain ⟨j, hj, rfl⟩ := List.getElem_of_mem hx
 rw [← nth_of l j hj, h j hj]
theorem betweenP_any (l : List UInt8) (lo hi : Nat) (but : ByteArray) (w : World) (hl : l.length ≤ maxLen) (_h1 : lo < 256) (_h2 : hi < 256) :
 Calls Tryz.prog 69 #[str l, .int .u8 (lo : Nat), .int .u8 (hi : Nat), .string but] w fun e w' => e = .returned (.bool (l.all (fun b => okP lo hi but.data.toList b.toNat))) ∧ w' = w := by
 unfold maxLen at hl
 have hm := fun k => all_missP l (okP lo hi but.data.toList) k
 have ha := all_hitP l (okP lo hi but.data.toList)
 generalize l.all (fun b => okP lo hi but.data.toList b.toNat) = r at hm ha ⊢
 obtain ⟨n, hn⟩ : ∃ n, n = l.length := ⟨_, rfl⟩
 rw [← hn] at hm ha hl
 have Hn := Lib.hid hn
 have Hm := Lib.hid hm
 have Ha := Lib.hid ha
 clear hn hm ha
 go_enter Tryz.func69, Tryz.ntmps69
 go_wp2_with fail
 rw [← Hn.out]
 go_loopw [12] (fun iv wr => ∃ k : Nat, k ≤ n ∧ iv = .int .i64 k ∧ wr = w ∧ Hid (∀ j, j < k → okP lo hi but.data.toList (nth l j) = true)) (fun iv _ => n - (intOf iv).toNat)
 case atStart => exact ⟨0, by omega, rfl, rfl, Lib.hid fun j hj => absurd hj (by omega)⟩
 case round =>
  obtain ⟨k, hk, rfl, rfl, hz⟩ := hrel
  by_cases hkn : k < n
  · have hkl : k < l.length := by rw [← Hn.out]; exact hkn
    have hmk := Hm.out k hkn
    have hx : nth l k < 256 := nth_lt l k
    by_cases c1 : nth l k < lo
    · have d1 : decide (((nth l k : Nat) : Int) < lo) = true := by simp; omega
      have hr : Hid (r = false) := hmk (by simp [okP, c1])
      clear hmk
      go_wp2_with fail
      go_ret
      exact ⟨by rw [hr.out]; rfl, rfl⟩
    · have d1 : decide (((nth l k : Nat) : Int) < lo) = false := by simp; omega
      by_cases c2 : hi < nth l k
      · have d2 : decide ((hi : Int) < (nth l k : Nat)) = true := by simp; omega
        have hr : Hid (r = false) := hmk (by simp [okP, c2])
        clear hmk
        go_wp2_with fail
        go_ret
        exact ⟨by rw [hr.out]; rfl, rfl⟩
      · have d2 : decide ((hi : Int) < (nth l k : Nat)) = false := by simp; omega
        have hib := fun W => Go.Proofs.Tryz.strings_IndexByte but (nth l k : Nat) W
        have hok : okP lo hi but.data.toList (nth l k) = !decide (0 ≤ Lib.indexByte but.data.toList ((nth l k : Nat) : Int).toNat.toUInt8) := by simp [okP, c1, c2]
        generalize Lib.indexByte but.data.toList ((nth l k : Nat) : Int).toNat.toUInt8 = z at hib hok
        have Hib := Lib.hid hib
        have Hok := Lib.hid hok
        clear hib hok
        by_cases c3 : 0 ≤ z
        · have d3 : decide (0 ≤ z) = true := by simpa using c3
          have hr : Hid (r = false) := hmk (by rw [Hok.out, d3]; rfl)
          clear hmk
          go_wp2_with fail
          refine (Hib.out _).mono ?_
          rintro e w1 ⟨rfl, rfl⟩
          go_wp2_with fail
          go_ret
          exact ⟨by rw [hr.out]; rfl, rfl⟩
        · have d3 : decide (0 ≤ z) = false := by simpa using c3
          clear hmk
          go_wp2_with fail
          refine (Hib.out _).mono ?_
          rintro e w1 ⟨rfl, rfl⟩
          go_wp2_with fail
          refine ⟨⟨k + 1, by omega, by go_num, trivial, Lib.hid fun j hj => ?_⟩, by simp [intOf]; omega⟩
          rcases Nat.lt_or_ge j k with h | h
          · exact hz.out j h
          · rw [show j = k from by omega, Hok.out, d3]; rfl
  · have hr : Hid (r = true) := Ha.out fun j hj => hz.out j (by omega)
    go_wp2_with fail
    go_ret
    exact ⟨by rw [hr.out]; rfl, rfl⟩
end Go.Proofs.YtinfjdfhkfhgjaaGreatDoor

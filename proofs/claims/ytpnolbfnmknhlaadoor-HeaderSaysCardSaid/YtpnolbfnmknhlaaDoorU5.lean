import Derived.Test.YtpnolbfnmknhlaaDoorU4
import Derived.Test.YtpnolbfnmknhlaaDoorU1
import Derived.Lib.SlBytesConst
import Derived.Test.YtpnolbfnmknhlaaDoorU2
import Derived.OrdersHeld
import Derived.Deep.RegionHeld
set_option maxRecDepth 100000
set_option maxHeartbeats 40000000
namespace Go.Proofs.YtpnolbfnmknhlaaDoor
open Go.RowKit
theorem TrimLeft_any (l cs : List UInt8) (w : World) (hc : cs.length < 4294967281) (ha : cs.all (fun b => decide (b.toNat < 128)) = true) :
 Calls Tryd.prog 26 #[str l, .string ⟨cs.toArray⟩] w fun e w' => e = .returned (str (Lib.trimLeftS l cs)) ∧ Below w.heap.size w w' :=
 Any.strings_TrimLeft_laid Go.Proofs.Tryd.lays161 (by kernel_rfl) ⟨l.toArray⟩ ⟨cs.toArray⟩ w (by simpa [ByteArray.size] using hc) (ascii_of_all ha)
theorem trimL_len (l cs : List UInt8) : (Lib.trimLeftS l cs).length ≤ l.length := (List.dropWhile_suffix _).length_le
theorem trimR_len (l cs : List UInt8) : (Lib.trimRightS l cs).length ≤ l.length := by
 unfold Lib.trimRightS
 have := (List.dropWhile_suffix (cs.contains ·) (l := l.reverse)).length_le
 rw [List.length_reverse] at this ⊢
 exact this
theorem cut_lenF (l : List UInt8) (c : UInt8) : (Lib.cut l [c]).1.length ≤ l.length ∧ (Lib.cut l [c]).2.1.length ≤ l.length := by
 unfold Lib.cut
 split
 · simp; omega
 · simp
theorem loopP_end (k : Nat) (rest : List UInt8) (l : List FieldD) : loopP (k + 1) rest false l = (l, 0) := by rw [loopP, if_pos rfl]
section
variable {k : Nat} {rest : List UInt8} {l : List FieldD} {a name b v : List UInt8} {ok : Bool}
theorem loopP_bad (hc : Lib.cut (Lib.trimLeftS rest [32]) [61] = (a, b, ok)) (hn : Lib.trimS a [32] = name) (h : (!ok || !tokB name) = true) : loopP (k + 1) rest true l = ([], 1) := by
 rw [loopP, if_neg (by simp), hc]
 simp only
 rw [hn, if_pos h]
theorem loopP_quo {p t gap r2 : List UInt8} {ok2 more2 : Bool} (hc : Lib.cut (Lib.trimLeftS rest [32]) [61] = (a, b, true)) (hn : Lib.trimS a [32] = name) (ht : tokB name = true) (hv : Lib.trimLeftS b [32] = v) (hq : Lib.hasPrefix v [34] = true)
 (hd : Lib.cut (v.drop 1) [34] = (p, t, ok2)) (hg : Lib.cut t [59] = (gap, r2, more2)) :
 loopP (k + 1) rest true l = if ok2 = false then ([], 1) else if Lib.trimS gap [32] ≠ [] then ([], 1) else if 20 < (l ++ [FieldD.mk (lowL name) p]).length then ([], 2) else loopP k r2 more2 (l ++ [FieldD.mk (lowL name) p]) := by
 rw [loopP, if_neg (by simp), hc]
 simp only
 rw [hn, ht, if_neg (by simp), hv, if_pos hq, hd]
 simp only
 rw [hg]
theorem loopP_tok {p0 p r2 : List UInt8} {more2 : Bool} (hc : Lib.cut (Lib.trimLeftS rest [32]) [61] = (a, b, true)) (hn : Lib.trimS a [32] = name) (ht : tokB name = true) (hv : Lib.trimLeftS b [32] = v) (hq : Lib.hasPrefix v [34] = false)
 (hd : Lib.cut v [59] = (p0, r2, more2)) (hp : Lib.trimRightS p0 [32] = p) :
 loopP (k + 1) rest true l = if tokB p = false then ([], 1) else if 20 < (l ++ [FieldD.mk (lowL name) p]).length then ([], 2) else loopP k r2 more2 (l ++ [FieldD.mk (lowL name) p]) := by
 rw [loopP, if_neg (by simp), hc]
 simp only
 rw [hn, ht, if_neg (by simp), hv, if_neg (by rw [hq]; simp), hd]
 simp only
 rw [hp]
end
/-- What header.Params leaves. -/
def ParamsRes (r : List UInt8 × List FieldD × Nat) (w : World) (e : Ending) (w' : World) : Prop :=
 ∃ S c, e = .returned (.tuple #[str r.1, .slice S r.2.1.length c, .int .i64 (r.2.2 : Nat)]) ∧ Sl w' w'.heap.size 2 S r.2.1.length (fieldC r.2.1) ∧ smallF r.2.1 ∧ r.2.1.length ≤ c ∧ c ≤ maxLen ∧ Below w.heap.size w w'
theorem ParamsRes.fail (e : Nat) {w w' : World} (hb : Below w.heap.size w w') : ParamsRes ([], [], e) w (.returned (.tuple #[.string ⟨#[]⟩, .slice none 0 0, .int .i64 (e : Nat)])) w' :=
 ⟨none, 0, rfl, Sl.nil_ _ _ _ _, fun f h => (by cases h), Nat.le_refl _, Nat.zero_le _, hb⟩
def PmRel (main : List UInt8) (R : List FieldD × Nat) (w : World) (xv lv rv mv : Value) (wr : World) : Prop :=
 ∃ (k : Nat) (rest : List UInt8) (more : Bool) (out : List FieldD) (S : Option Addr) (m c : Nat), xv = str main ∧ lv = .slice S m c ∧ rv = str rest ∧ mv = .bool more ∧ Hid (loopP k rest more out = R ∧ rest.length + 2 ≤ k ∧ out.length = m ∧ (∀ f ∈ out, f.name.length ≤ 900 ∧ f.value.length ≤ 900)) ∧ rest.length ≤ 900 ∧ m ≤ 20 ∧ m ≤ c ∧
  wr.ownsRow w.heap.size 38 2 (.slice S m c) m (fieldC out) ∧ Below w.heap.size w wr
theorem Params_any (s : List UInt8) (w : World) (hs : s.length ≤ maxLen) :
 Calls Tryd.prog 6 #[str s] w (ParamsRes (paramsF s) w) := by
 obtain ⟨i0, hi0, hz0, hz1, hz2⟩ := info_parts infoField
 have hval := Value_any s w hs
 have hv9 : valB s = true → s.length ≤ 900 := fun h => (val_mem h).1
 unfold paramsF
 generalize valB s = vb at hval hv9
 cases vb
 case false =>
  simp only [if_true]
  have Hval := Lib.hid hval
  clear hval hv9
  go_enter Tryd.func6, Tryd.ntmps6
  go_wp2_with fail
  refine Hval.out.mono ?_
  rintro e w1 ⟨rfl, hb1⟩
  go_wp2_with fail
  go_ret3
  exact ParamsRes.fail 1 hb1
 case true =>
  have hs9 := hv9 rfl
  rw [if_neg (by simp)]
  have hcut := fun W => Cut_one s 59 W hs
  have hcl := cut_lenF s 59
  generalize Lib.cut s [59] = x at hcut hcl
  obtain ⟨head, rest0, more0⟩ := x
  simp only at hcut hcl ⊢
  have htr := fun W => Trim_any head [32] W (by unfold maxLen; omega) (by decide) (by decide)
  have htl := trim_len head [32]
  generalize Lib.trimS head [32] = hd at htr htl
  have hlow := fun W => lowerH_any hd W (by unfold maxLen; omega)
  generalize lowL hd = main at hlow
  obtain ⟨R, hR⟩ : ∃ R, loopP (s.length + 2) rest0 more0 [] = R := ⟨_, rfl⟩
  rw [hR]
  obtain ⟨r, hr⟩ : ∃ r, r = (if R.2 = 0 then (main, R.1, 0) else ([], [], R.2)) := ⟨_, rfl⟩
  rw [← hr]
  have hrest0 : rest0.length ≤ 900 := by omega
  have Hr0 := Lib.hid (show rest0.length + 2 ≤ s.length + 2 by omega)
  have HR := Lib.hid hR
  have Hr := Lib.hid hr
  have Hval := Lib.hid hval
  have Hcut := Lib.hid hcut
  have Htr := Lib.hid htr
  have Hlow := Lib.hid hlow
  clear hval hcut hcl htr htl hlow hR hr hv9
  go_enter Tryd.func6, Tryd.ntmps6
  go_wp2_with fail
  refine Hval.out.mono ?_
  rintro e w1 ⟨rfl, hb1⟩
  go_wp2_with fail
  refine (Hcut.out _).mono ?_
  rintro e w2 ⟨rfl, q, rfl⟩
  have hb2 := belN hb1 q
  go_wp2_with fail
  refine (Htr.out _).mono ?_
  rintro e w3 ⟨rfl, hb3⟩
  have hb4 := hb2.trans (hb3.mono hb2.size)
  clear hb2 hb3 hb1
  go_wp2_with fail
  refine (Hlow.out _).mono ?_
  rintro e w5 ⟨rfl, hb5⟩
  have hb6 := hb4.trans (hb5.mono hb4.size)
  clear hb4 hb5 Hval Hcut Htr Hlow
  go_wp2_with fail
  go_loopw [2, 3, 6, 7] (PmRel main R w) (fun _ _ rv _ _ => strLn rv)
  case atStart => exact ⟨s.length + 2, rest0, more0, [], none, 0, 0, rfl, rfl, rfl, rfl, ⟨HR.out, Hr0.out, rfl, fun f h => (by cases h)⟩, hrest0, Nat.zero_le _, Nat.le_refl _, World.ownsRow_nil _ _ _ _, hb6⟩
  case round =>
   clear HR Hr0 hb6
   obtain ⟨k, rest, more, out, S, m, cS, rfl, rfl, rfl, rfl, hE, hrl, hm20, hmc, hown, hbel⟩ := hrel
   obtain ⟨k, rfl⟩ : ∃ k', k = k' + 1 := ⟨k - 1, by have := hE.out.2.1; omega⟩
   cases more
   case false =>
    have hRv : R = (out, 0) := by rw [← hE.out.1, loopP_end]
    have hr1 : Hid (r = (main, out, 0)) := by show r = _; rw [Hr.out, hRv]; rfl
    have hsl := Sl.of_own hown
    have hcm := own_capF hown
    have Hol := Lib.hid hE.out.2.2.1
    have hsm : smallF out := fun f hf => by have := hE.out.2.2.2 f hf; unfold maxLen; omega
    have Hsl := Lib.hid hsl
    have Hsm := Lib.hid hsm
    clear hE hRv hsl hsm hown
    go_wp2_with fail
    go_ret3
    rw [hr1.out]
    exact ⟨S, cS, by rw [← Hol.out]; rfl, by rw [show (main, out, 0).2.1.length = m from Hol.out]; exact Hsl.out, Hsm.out, by show out.length ≤ cS; rw [Hol.out]; exact hmc, hcm, hbel⟩
   case true =>
    have hTL := fun W => TrimLeft_any rest [32] W (by decide) (by decide)
    have htl := trimL_len rest [32]
    generalize hT0 : Lib.trimLeftS rest [32] = t0 at hTL htl
    have hcut := fun W => Cut_one t0 61 W (by unfold maxLen; omega)
    have hcl := cut_lenF t0 61
    have hcs := @cut_sum t0 61
    generalize hcutd : Lib.cut t0 [61] = x at hcut hcl hcs
    obtain ⟨a, b, ok⟩ := x
    simp only at hcut hcl hcs
    have hTn := fun W => Trim_any a [32] W (by unfold maxLen; omega) (by decide) (by decide)
    have hnl := trim_len a [32]
    generalize hnd : Lib.trimS a [32] = name at hTn hnl
    have hTk := fun W => Token_any name W (by unfold maxLen; omega)
    have hc0 : Lib.cut (Lib.trimLeftS rest [32]) [61] = (a, b, ok) := by rw [hT0]; exact hcutd
    have HTL := Lib.hid hTL
    have Hcut := Lib.hid hcut
    have HTn := Lib.hid hTn
    clear hTL hcut hTn hT0 hcutd
    have hb3 : ∀ (w1 : World) (q : Nat) (w3 : World), Below wr.heap.size wr w1 → Below (w1.drewN q).heap.size (w1.drewN q) w3 → Below wr.heap.size wr w3 := fun w1 q w3 h1 h3 => (belN h1 q).trans (h3.mono h1.size)
    by_cases hok : ok = true ∧ tokB name = true
    · obtain ⟨rfl, htk⟩ := hok
      rw [htk] at hTk
      have HTk := Lib.hid hTk
      have hbs : b.length + 1 ≤ t0.length := by have := hcs rfl; omega
      have hTv := fun W => TrimLeft_any b [32] W (by decide) (by decide)
      have hvl := trimL_len b [32]
      generalize hvd : Lib.trimLeftS b [32] = v at hTv hvl
      have hpf := fun W => HasPrefix_any v [34] W
      have hlow := fun W => lowerH_any name W (by unfold maxLen; omega)
      have HTv := Lib.hid hTv
      have Hlow := Lib.hid hlow
      have lq := fun p t gap r2 ok2 more2 (hq : Lib.hasPrefix v [34] = true) => @loopP_quo k rest out a name b v p t gap r2 ok2 more2 hc0 hnd htk hvd hq
      have lt := fun p0 p r2 more2 (hq : Lib.hasPrefix v [34] = false) => @loopP_tok k rest out a name b v p0 p r2 more2 hc0 hnd htk hvd hq
      have hv1 : Lib.hasPrefix v [34] = true → 1 ≤ v.length := by
       intro h
       have := (List.isPrefixOf_iff_prefix.1 h).length_le
       simpa using this
      generalize Lib.hasPrefix v [34] = pf at hpf lq lt hv1
      have Hpf := Lib.hid hpf
      have hln : (lowL name).length ≤ 900 := by rw [show (lowL name).length = name.length from by simp [lowL]]; omega
      generalize lowL name = ln at Hlow lq lt hln
      clear hTk hcs hnd hc0 hTv hvd hpf hlow htk hcl
      go_wp2_with fail
      refine (HTL.out _).mono ?_
      rintro e w1 ⟨rfl, hb1⟩
      go_wp2_with fail
      refine (Hcut.out _).mono ?_
      rintro e w2 ⟨rfl, q, rfl⟩
      go_wp2_with fail
      refine (HTn.out _).mono ?_
      rintro e w3 ⟨rfl, hbx⟩
      have hbw := hb3 w1 q w3 hb1 hbx
      clear hb1 hbx hb3
      go_wp2_with fail
      refine (HTk.out _).mono ?_
      rintro e w4 ⟨rfl, hb4⟩
      have hbw := hbw.trans (hb4.mono hbw.size)
      clear hb4
      go_wp2_with fail
      refine (HTv.out _).mono ?_
      rintro e w5 ⟨rfl, hb5⟩
      have hbw := hbw.trans (hb5.mono hbw.size)
      clear hb5
      go_wp2_with fail
      refine (Hpf.out _).mono ?_
      rintro e w6 ⟨rfl, rfl⟩
      clear HTL Hcut HTn HTk HTv Hpf
      cases pf
      case true =>
       have hv1 := hv1 rfl
       have hvi : (1 : Int) ≤ v.length := by omega
       have hcd := fun W => Cut_one v.tail 34 W (by unfold maxLen; simp; omega)
       have hcdl := cut_lenF v.tail 34
       rw [List.length_tail] at hcdl
       generalize hcde : Lib.cut v.tail [34] = y at hcd hcdl
       obtain ⟨p, t, ok2⟩ := y
       simp only at hcd hcdl
       have Hcd := Lib.hid hcd
       have hcg := fun W => Cut_one t 59 W (by unfold maxLen; omega)
       have hcgl := cut_lenF t 59
       generalize hcge : Lib.cut t [59] = y at hcg hcgl
       obtain ⟨gap, r2, more2⟩ := y
       simp only at hcg hcgl
       have Hcg := Lib.hid hcg
       have hlaw := lq p t gap r2 ok2 more2 rfl (by rw [List.drop_one]; exact hcde) hcge
       have htg := fun W => Trim_any gap [32] W (by unfold maxLen; omega) (by decide) (by decide)
       generalize Lib.trimS gap [32] = tg at htg hlaw
       have Htg := Lib.hid htg
       have hpl : p.length ≤ 900 := by omega
       clear hcd hcg htg hcde hcge lq lt
       cases ok2
       case false =>
        have hr1 : Hid (r = ([], [], 1)) := by show r = _; rw [Hr.out, ← hE.out.1, hlaw, if_pos rfl]; rfl
        clear hE hlaw hown
        go_wp2_with fail
        refine (Hcd.out _).mono ?_
        rintro e w7 ⟨rfl, q7, rfl⟩
        go_wp2_with fail
        go_ret3
        rw [hr1.out]
        exact ParamsRes.fail 1 (belN (hbel.trans (hbw.mono hbel.size)) q7)
       case true =>
        rw [if_neg (by simp)] at hlaw
        by_cases htg0 : tg = []
        · subst htg0
          rw [if_neg (by simp)] at hlaw
          have hR2 : Hid (R = if 20 < m + 1 then ([], 2) else loopP k r2 more2 (out ++ [⟨ln, p⟩])) := by
           show R = _
           rw [← hE.out.1, hlaw]
           simp only [List.length_append, List.length_cons, List.length_nil, hE.out.2.2.1, Nat.zero_add]
          clear hlaw
          have hml : Hid ((out ++ [FieldD.mk ln p]).length = m + 1) := by show _ = _; simp [hE.out.2.2.1]
          have hk2 : Hid (r2.length + 2 ≤ k) := by show _ ≤ _; have := hE.out.2.1; omega
          have hall : Hid (∀ f ∈ out ++ [FieldD.mk ln p], f.name.length ≤ 900 ∧ f.value.length ≤ 900) := by
           intro f hf
           rcases List.mem_append.1 hf with h | h
           · exact hE.out.2.2.2 f h
           · simp only [List.mem_cons, List.not_mem_nil, or_false] at h
             subst h
             exact ⟨hln, hpl⟩
          have Hown := Lib.hid hown
          have h63 : m + 1 ≤ maxLen := by unfold maxLen; omega
          have h47 : (m + 1) * 32 ≤ 140737488355328 := by omega
          have hone : ∀ u ∈ [str ln, str p], u.oneCell' = true := by intro u hu; simp at hu; rcases hu with rfl | rfl <;> rfl
          have Hone := Lib.hid hone
          have hr2l : r2.length ≤ 900 ∧ r2.length < rest.length := by omega
          obtain ⟨hr2a, hr2b⟩ := hr2l
          have d20 : decide ((20 : Int) < (m : Int) + 1) = decide (20 < m + 1) := by rw [Bool.eq_iff_iff, decide_eq_true_eq, decide_eq_true_eq]; omega
          clear hE hown hone
          go_wp2_with fail
          refine (Hcd.out _).mono ?_
          rintro e w7 ⟨rfl, q7, rfl⟩
          go_wp2_with fail
          refine (Hcg.out _).mono ?_
          rintro e w7 ⟨rfl, q8, rfl⟩
          have hbw := belN hbw (q7 + q8)
          go_wp2_with fail
          refine (Htg.out _).mono ?_
          rintro e w7 ⟨rfl, hb7⟩
          have hbw := hbw.trans (hb7.mono hbw.size)
          clear hb7
          go_wp2_with fail
          refine (Hlow.out _).mono ?_
          rintro e w8 ⟨rfl, hb8⟩
          have hbw := hbw.trans (hb8.mono hbw.size)
          have hbel8 := hbel.trans (hbw.mono hbel.size)
          have hown8 := own_below Hown.out hbw
          have hsz8 := hbel8.size
          clear hb8
          go_wp2_with (at_builtin; refine wpList_app rfl _ _ 22 rfl w.heap.size 38 i0 (.agg #[.string ⟨#[]⟩, .string ⟨#[]⟩]) 2 32 Tryd.underlying22 hi0 hz0 hz1 hz2 rfl (by decide) S m cS (fieldC out) rfl (hown8.alloc _) _ _ 1 1 [str ln, str p] rfl (Sl.row _ _ 2 1 _ rfl) Hone.out h63 h47 ?c2 ?_)
          case c2 => simp; omega
          intro S' c' w9 hown9 hb9 _
          have hc' := own_cap hown9
          have hbel9 := (hbel8.alloc hsz8 (.cells #[str ln, str p] 38)).trans hb9
          rw [show fieldC out ++ [str ln, str p] = fieldC (out ++ [⟨ln, p⟩]) from by rw [fieldC_app]; rfl] at hown9
          have Hown9 := Lib.hid hown9
          clear hown8 hown9 hb9
          by_cases h20 : 20 < m + 1
          · have d21 : decide (20 < m + 1) = true := by simpa using h20
            have hr1 : Hid (r = ([], [], 2)) := by show r = _; rw [Hr.out, hR2.out, if_pos h20]; rfl
            go_wp2_with fail
            go_ret3
            rw [hr1.out]
            exact ParamsRes.fail 2 hbel9
          · have d21 : decide (20 < m + 1) = false := by simpa using h20
            have hR3 : Hid (loopP k r2 more2 (out ++ [⟨ln, p⟩]) = R) := by show _ = R; rw [hR2.out, if_neg h20]
            go_wp2_with fail
            exact ⟨⟨k, r2, more2, _, S', m + 1, c', rfl, rfl, rfl, rfl, ⟨hR3.out, hk2.out, hml.out, hall.out⟩, hr2a, by omega, hc', Hown9.out, hbel9⟩, by rw [strLn_str, strLn_str]; exact hr2b⟩
        · have hr1 : Hid (r = ([], [], 1)) := by show r = _; rw [Hr.out, ← hE.out.1, hlaw, if_pos htg0]; rfl
          have htb : (tg == []) = false := by simpa using htg0
          clear hE hlaw hown
          go_wp2_with fail
          refine (Hcd.out _).mono ?_
          rintro e w7 ⟨rfl, q7, rfl⟩
          go_wp2_with fail
          refine (Hcg.out _).mono ?_
          rintro e w7 ⟨rfl, q8, rfl⟩
          have hbw := belN hbw (q7 + q8)
          go_wp2_with fail
          refine (Htg.out _).mono ?_
          rintro e w8 ⟨rfl, hb8⟩
          have hbw := hbw.trans (hb8.mono hbw.size)
          go_wp2_with fail
          go_ret3
          rw [hr1.out]
          exact ParamsRes.fail 1 (hbel.trans (hbw.mono hbel.size))
      case false =>
       have hcd := fun W => Cut_one v 59 W (by unfold maxLen; omega)
       have hcdl := cut_lenF v 59
       generalize hcde : Lib.cut v [59] = y at hcd hcdl
       obtain ⟨p0, r2, more2⟩ := y
       simp only at hcd hcdl
       have Hcd := Lib.hid hcd
       have htr := fun W => TrimRight_any p0 [32] W (by unfold maxLen; omega) (by decide) (by decide)
       have htrl := trimR_len p0 [32]
       generalize htre : Lib.trimRightS p0 [32] = p at htr htrl
       have Htr2 := Lib.hid htr
       have hlaw := lt p0 p r2 more2 rfl hcde htre
       have htk2 := fun W => Token_any p W (by unfold maxLen; omega)
       have hpl : p.length ≤ 900 := by omega
       clear hcd htr hcde htre lq lt
       cases htp : tokB p
       case false =>
        rw [htp] at htk2
        have Htk2 := Lib.hid htk2
        have hr1 : Hid (r = ([], [], 1)) := by show r = _; rw [Hr.out, ← hE.out.1, hlaw, if_pos htp]; rfl
        clear hE hlaw hown htk2 htp
        go_wp2_with fail
        refine (Hcd.out _).mono ?_
        rintro e w7 ⟨rfl, q7, rfl⟩
        have hbw := belN hbw q7
        go_wp2_with fail
        refine (Htr2.out _).mono ?_
        rintro e w8 ⟨rfl, hb8⟩
        have hbw := hbw.trans (hb8.mono hbw.size)
        go_wp2_with fail
        refine (Htk2.out _).mono ?_
        rintro e w9 ⟨rfl, hb9⟩
        have hbw := hbw.trans (hb9.mono hbw.size)
        go_wp2_with fail
        go_ret3
        rw [hr1.out]
        exact ParamsRes.fail 1 (hbel.trans (hbw.mono hbel.size))
       case true =>
        rw [htp] at htk2
        have Htk2 := Lib.hid htk2
        rw [if_neg (by rw [htp]; simp)] at hlaw
        have hR2 : Hid (R = if 20 < m + 1 then ([], 2) else loopP k r2 more2 (out ++ [⟨ln, p⟩])) := by
         show R = _
         rw [← hE.out.1, hlaw]
         simp only [List.length_append, List.length_cons, List.length_nil, hE.out.2.2.1, Nat.zero_add]
        clear hlaw htk2 htp
        have hml : Hid ((out ++ [FieldD.mk ln p]).length = m + 1) := by show _ = _; simp [hE.out.2.2.1]
        have hk2 : Hid (r2.length + 2 ≤ k) := by show _ ≤ _; have := hE.out.2.1; omega
        have hall : Hid (∀ f ∈ out ++ [FieldD.mk ln p], f.name.length ≤ 900 ∧ f.value.length ≤ 900) := by
         intro f hf
         rcases List.mem_append.1 hf with h | h
         · exact hE.out.2.2.2 f h
         · simp only [List.mem_cons, List.not_mem_nil, or_false] at h
           subst h
           exact ⟨hln, hpl⟩
        have Hown := Lib.hid hown
        have h63 : m + 1 ≤ maxLen := by unfold maxLen; omega
        have h47 : (m + 1) * 32 ≤ 140737488355328 := by omega
        have hone : ∀ u ∈ [str ln, str p], u.oneCell' = true := by intro u hu; simp at hu; rcases hu with rfl | rfl <;> rfl
        have Hone := Lib.hid hone
        have hr2l : r2.length ≤ 900 ∧ r2.length < rest.length := by omega
        obtain ⟨hr2a, hr2b⟩ := hr2l
        have d20 : decide ((20 : Int) < (m : Int) + 1) = decide (20 < m + 1) := by rw [Bool.eq_iff_iff, decide_eq_true_eq, decide_eq_true_eq]; omega
        clear hE hown hone
        go_wp2_with fail
        refine (Hcd.out _).mono ?_
        rintro e w7 ⟨rfl, q7, rfl⟩
        have hbw := belN hbw q7
        go_wp2_with fail
        refine (Htr2.out _).mono ?_
        rintro e w7 ⟨rfl, hb7⟩
        have hbw := hbw.trans (hb7.mono hbw.size)
        clear hb7
        go_wp2_with fail
        refine (Htk2.out _).mono ?_
        rintro e w7 ⟨rfl, hb7⟩
        have hbw := hbw.trans (hb7.mono hbw.size)
        clear hb7
        go_wp2_with fail
        refine (Hlow.out _).mono ?_
        rintro e w8 ⟨rfl, hb8⟩
        have hbw := hbw.trans (hb8.mono hbw.size)
        have hbel8 := hbel.trans (hbw.mono hbel.size)
        have hown8 := own_below Hown.out hbw
        have hsz8 := hbel8.size
        clear hb8
        go_wp2_with (at_builtin; refine wpList_app rfl _ _ 22 rfl w.heap.size 38 i0 (.agg #[.string ⟨#[]⟩, .string ⟨#[]⟩]) 2 32 Tryd.underlying22 hi0 hz0 hz1 hz2 rfl (by decide) S m cS (fieldC out) rfl (hown8.alloc _) _ _ 1 1 [str ln, str p] rfl (Sl.row _ _ 2 1 _ rfl) Hone.out h63 h47 ?c2 ?_)
        case c2 => simp; omega
        intro S' c' w9 hown9 hb9 _
        have hc' := own_cap hown9
        have hbel9 := (hbel8.alloc hsz8 (.cells #[str ln, str p] 38)).trans hb9
        rw [show fieldC out ++ [str ln, str p] = fieldC (out ++ [⟨ln, p⟩]) from by rw [fieldC_app]; rfl] at hown9
        have Hown9 := Lib.hid hown9
        clear hown8 hown9 hb9
        by_cases h20 : 20 < m + 1
        · have d21 : decide (20 < m + 1) = true := by simpa using h20
          have hr1 : Hid (r = ([], [], 2)) := by show r = _; rw [Hr.out, hR2.out, if_pos h20]; rfl
          go_wp2_with fail
          go_ret3
          rw [hr1.out]
          exact ParamsRes.fail 2 hbel9
        · have d21 : decide (20 < m + 1) = false := by simpa using h20
          have hR3 : Hid (loopP k r2 more2 (out ++ [⟨ln, p⟩]) = R) := by show _ = R; rw [hR2.out, if_neg h20]
          go_wp2_with fail
          exact ⟨⟨k, r2, more2, _, S', m + 1, c', rfl, rfl, rfl, rfl, ⟨hR3.out, hk2.out, hml.out, hall.out⟩, hr2a, by omega, hc', Hown9.out, hbel9⟩, by rw [strLn_str, strLn_str]; exact hr2b⟩
    · have hRv : R = ([], 1) := by
       rw [← hE.out.1]
       exact loopP_bad hc0 hnd (by
        cases ok
        · simp
        · have : tokB name = false := by
           cases h : tokB name
           · rfl
           · exact absurd ⟨rfl, h⟩ hok
          simp [this])
      have hr1 : Hid (r = ([], [], 1)) := by show r = _; rw [Hr.out, hRv]; rfl
      clear hE hRv hcs hnd hc0 hown
      cases ok
      case false =>
       clear hTk hok
       go_wp2_with fail
       refine (HTL.out _).mono ?_
       rintro e w1 ⟨rfl, hb1⟩
       go_wp2_with fail
       refine (Hcut.out _).mono ?_
       rintro e w2 ⟨rfl, q, rfl⟩
       go_wp2_with fail
       refine (HTn.out _).mono ?_
       rintro e w3 ⟨rfl, hbx⟩
       have hbw := hb3 w1 q w3 hb1 hbx
       go_wp2_with fail
       go_ret3
       rw [hr1.out]
       exact ParamsRes.fail 1 (hbel.trans (hbw.mono hbel.size))
      case true =>
       have htk : tokB name = false := by
        cases h : tokB name
        · rfl
        · exact absurd ⟨rfl, h⟩ hok
       rw [htk] at hTk
       have HTk := Lib.hid hTk
       clear hTk hok htk
       go_wp2_with fail
       refine (HTL.out _).mono ?_
       rintro e w1 ⟨rfl, hb1⟩
       go_wp2_with fail
       refine (Hcut.out _).mono ?_
       rintro e w2 ⟨rfl, q, rfl⟩
       go_wp2_with fail
       refine (HTn.out _).mono ?_
       rintro e w3 ⟨rfl, hbx⟩
       have hbw := hb3 w1 q w3 hb1 hbx
       go_wp2_with fail
       refine (HTk.out _).mono ?_
       rintro e w4 ⟨rfl, hb4⟩
       have hbw := hbw.trans (hb4.mono hbw.size)
       go_wp2_with fail
       go_ret3
       rw [hr1.out]
       exact ParamsRes.fail 1 (hbel.trans (hbw.mono hbel.size))
def asciiL (l : List UInt8) : Prop := l.length ≤ 1000 ∧ ∀ b ∈ l, b.toNat < 128
theorem EqualFold_ascii (a b : List UInt8) (w : World) (ha : asciiL a) (hb : asciiL b) :
 Calls Tryd.prog 38 #[str a, str b] w fun e w' => e = .returned (.bool (Lib.equalFold a b)) ∧ w' = w :=
 Go.Proofs.Tryd.strings_EqualFold ⟨a.toArray⟩ ⟨b.toArray⟩ w (by have := ha.1; simp [ByteArray.size]; omega) (fun j x hx => ha.2 x (List.mem_of_getElem? hx)) (fun j x hx => hb.2 x (List.mem_of_getElem? hx))
def GetRel (l : List FieldD) (name R : List UInt8) (n : Nat) (w : World) (iv : Value) (wr : World) : Prop :=
 ∃ i : Nat, iv = .int .i64 (i : Nat) ∧ i ≤ n ∧ Hid (getF (l.drop i) name = R) ∧ Below w.heap.size w wr
theorem getF_cons (f : FieldD) (l : List FieldD) (name : List UInt8) : getF (f :: l) name = if Lib.equalFold f.name name then f.value else getF l name := rfl
theorem Get_ascii (l : List FieldD) (name : List UInt8) (A : Option Addr) (n c B : Nat) (w : World) (h : Sl w B 2 A n (fieldC l)) (hB : B ≤ w.heap.size) (hn : n ≤ maxLen) (ha : ∀ f ∈ l, asciiL f.name) (hna : asciiL name) :
 Calls Tryd.prog 16 #[.slice A n c, str name] w fun e w' => e = .returned (str (getF l name)) ∧ Below w.heap.size w w' := by
 have hl : l.length = n := by have := h.1; rw [fieldC_len] at this; omega
 obtain ⟨R, hR⟩ : ∃ R, getF l name = R := ⟨_, rfl⟩
 rw [hR]
 unfold maxLen at hn
 have HR := Lib.hid hR
 have Hl := Lib.hid hl
 have Ha := Lib.hid ha
 have Hna := Lib.hid hna
 have HS := Lib.hid h
 clear hR hl ha hna h
 go_enter Tryd.func16, Tryd.ntmps16
 go_wp2_with fail
 go_loopw [9] (GetRel l name R n w) (fun iv _ => n - (intOf iv).toNat)
 case atStart => exact ⟨0, rfl, Nat.zero_le _, HR.out, Below.refl _ _⟩
 case round =>
  clear HR
  obtain ⟨i, rfl, hi, hE, hbel⟩ := hrel
  by_cases hin : i < n
  · obtain ⟨b, off, x, rfl, hbB, hx, x0, x1⟩ := (HS.out.below (hbel.mono hB)).field i hin
    have hxa := Ha.out x (List.mem_of_mem_drop (i := i) (by rw [hx]; simp))
    have hef := fun W => EqualFold_ascii x.name name W hxa Hna.out
    have hE2 : Hid (R = if Lib.equalFold x.name name then x.value else getF (l.drop (i + 1)) name) := by show R = _; rw [← hE.out, hx, getF_cons]
    generalize Lib.equalFold x.name name = r at hef hE2
    have Hef := Lib.hid hef
    have hbA := hbel.alloc hbel.size (.cells #[str x.name, str x.value] 38)
    have y1 := (box2_new wr 38 (str x.name) (str x.value)).2
    clear hx hE hef hxa
    go_wp2_with fail
    refine (Hef.out _).mono ?_
    rintro e w1 ⟨rfl, rfl⟩
    clear x0 x1
    cases r
    · have hE3 : Hid (getF (l.drop (i + 1)) name = R) := by show _ = R; rw [hE2.out]; simp
      clear hE2
      go_wp2_with fail
      exact ⟨⟨i + 1, by go_num, by omega, hE3, hbA⟩, by simp [intOf]; omega⟩
    · have hE3 : Hid (x.value = R) := by show _ = R; rw [hE2.out]; simp
      clear hE2
      go_wp2_with fail
      go_ret
      exact ⟨by rw [← hE3.out]; rfl, hbA⟩
  · have hE3 : Hid ([] = R) := by show [] = R; rw [← hE.out, List.drop_of_length_le (by rw [Hl.out]; omega)]; rfl
    clear hE
    go_wp2_with fail
    go_ret
    exact ⟨by rw [← hE3.out]; rfl, hbel⟩
theorem headP : parseF [65, 58, 32, 98, 59, 10, 32, 99, 13, 10, 68, 58, 101, 10, 10, 102] = ([⟨[65], [98, 59, 32, 99]⟩, ⟨[68], [101]⟩], 15, 0) := by decide +kernel
theorem headQ : paramsF [84, 101, 120, 116, 47, 88, 32, 59, 32, 97, 61, 34, 98, 32, 99, 34, 59, 32, 68, 61, 101] = ([116, 101, 120, 116, 47, 120], [⟨[97], [98, 32, 99]⟩, ⟨[100], [101]⟩], 0) := by decide +kernel
theorem headG : getF [⟨[65], [98, 59, 32, 99]⟩, ⟨[68], [101]⟩] [100] = [101] := by decide +kernel
theorem fields2 (w : World) (t : TypeId) (a b c d : List UInt8) : Sl (w.alloc (.cells #[str a, str b, str c, str d] t)) (w.heap.size + 1) 2 (some ⟨w.heap.size, 0, none⟩) 2 (fieldC [⟨a, b⟩, ⟨c, d⟩]) := Sl.row w t 2 2 [str a, str b, str c, str d] rfl
theorem headed_any (w : World) : Calls Tryd.prog 9 #[] w fun e w' => e = .returned (.bool true) ∧ Below w.heap.size w w' := by
 have kc := fun (w : World) (C : Array Value) (n c : Nat) => Lib.run_convert_bytes_const (P := Tryd.prog) w 23 5 C n c Tryd.underlying23 Tryd.underlying5
 have e1 : (([⟨[65], [98, 59, 32, 99]⟩, ⟨[68], [101]⟩] : List FieldD) == [⟨[65], [98, 59, 32, 99]⟩, ⟨[68], [101]⟩]) = true := by decide
 have e2 : (([⟨[97], [98, 32, 99]⟩, ⟨[100], [101]⟩] : List FieldD) == [⟨[97], [98, 32, 99]⟩, ⟨[100], [101]⟩]) = true := by decide
 go_enter Tryd.func9, Tryd.ntmps9
 go_wp2_with fail
 refine (Parse_fields [65, 58, 32, 98, 59, 10, 32, 99, 13, 10, 68, 58, 101, 10, 10, 102] _ 16 16 _ (By.block _ _ rfl) (by omega) (by unfold maxLen; omega)).mono ?_
 rw [headP]
 rintro e w1 ⟨S1, c1, rfl, hs1, _, hc1, _, hb1⟩
 have hbel1 : Below w.heap.size w w1 := ((Below.refl _ w).alloc (Nat.le_refl _) _).trans (hb1.mono (by simp))
 simp only [List.length_cons, List.length_nil] at hs1 hc1
 clear hb1
 go_wp2_with fail
 refine (Params_any [84, 101, 120, 116, 47, 88, 32, 59, 32, 97, 61, 34, 98, 32, 99, 34, 59, 32, 68, 61, 101] _ (by decide)).mono ?_
 rw [headQ]
 rintro e w2 ⟨S2, c2, rfl, hs2, _, hc2, _, hb2⟩
 have hbel2 := hbel1.trans (hb2.mono hbel1.size)
 have hs1 := (hs1.below hb2).more hb2.size
 simp only [List.length_cons, List.length_nil] at hs2 hc2
 clear hb2
 have Hs1 := Lib.hid hs1
 have Hs2 := Lib.hid hs2
 clear hs1 hs2
 go_wp2_with fail
 have hq1 := Equal_fields S1 (some ⟨w2.heap.size, 0, none⟩) 2 c1 2 2 _ _ _ _ (w2.alloc (.cells #[str [65], str [98, 59, 32, 99], str [68], str [101]] 38)) (Hs1.out.below ((Below.refl w2.heap.size w2).alloc (Nat.le_refl _) _)) (fields2 w2 38 [65] [98, 59, 32, 99] [68] [101]) (by omega) (by omega)
 rw [e1] at hq1
 refine hq1.mono ?_
 clear hq1
 rintro e w3 ⟨rfl, q3, rfl⟩
 have hbA := belN ((Below.refl w2.heap.size w2).alloc (Nat.le_refl _) (.cells #[str [65], str [98, 59, 32, 99], str [68], str [101]] 38)) q3
 generalize (w2.alloc (.cells #[str [65], str [98, 59, 32, 99], str [68], str [101]] 38)).drewN q3 = w3 at hbA ⊢
 have hbel3 := hbel2.trans (hbA.mono hbel2.size)
 have Hs1 := Lib.hid ((Hs1.out.below hbA).more hbA.size)
 have Hs2 := Lib.hid ((Hs2.out.below hbA).more hbA.size)
 clear hbA
 go_wp2_with fail
 have hq2 := Equal_fields S2 (some ⟨w3.heap.size, 0, none⟩) 2 c2 2 2 _ _ _ _ (w3.alloc (.cells #[str [97], str [98, 32, 99], str [100], str [101]] 38)) (Hs2.out.below ((Below.refl w3.heap.size w3).alloc (Nat.le_refl _) _)) (fields2 w3 38 [97] [98, 32, 99] [100] [101]) (by omega) (by omega)
 rw [e2] at hq2
 refine hq2.mono ?_
 clear hq2
 rintro e w4 ⟨rfl, q4, rfl⟩
 have hbA := belN ((Below.refl w3.heap.size w3).alloc (Nat.le_refl _) (.cells #[str [97], str [98, 32, 99], str [100], str [101]] 38)) q4
 generalize (w3.alloc (.cells #[str [97], str [98, 32, 99], str [100], str [101]] 38)).drewN q4 = w4 at hbA ⊢
 have hbel4 := hbel3.trans (hbA.mono hbel3.size)
 have Hs1 := Lib.hid ((Hs1.out.below hbA).more hbA.size)
 clear hbA
 go_wp2_with fail
 have hg := Get_ascii [⟨[65], [98, 59, 32, 99]⟩, ⟨[68], [101]⟩] [100] S1 2 c1 _ w4 Hs1.out (Nat.le_refl _) (by unfold maxLen; omega) (by intro f hf; simp only [List.mem_cons, List.not_mem_nil, or_false] at hf; rcases hf with rfl | rfl <;> exact ⟨by decide, by decide⟩) ⟨by decide, by decide⟩
 rw [headG] at hg
 refine hg.mono ?_
 clear hg
 rintro e w5 ⟨rfl, hb5⟩
 go_wp2_with fail
 go_ret
 exact ⟨rfl, hbel4.trans (hb5.mono hbel4.size)⟩
/-- A part, as data. -/
structure PartD where
 type : List UInt8
 cs : List UInt8
 id : List UInt8
 loc : List UInt8
 how : Int
 body : List UInt8
 parts : List PartD
section
variable {S S' : Nat → Prop} {w w' : World}
end
section
variable {S : Nat → Prop} {w : World}
end
def okP (lo hi : Nat) (but : List UInt8) (x : Nat) : Bool := !(decide (x < lo) || decide (hi < x) || decide (0 ≤ Lib.indexByte but (x : Int).toNat.toUInt8))
theorem all_missP (l : List UInt8) (p : Nat → Bool) (k : Nat) (hk : k < l.length) (h : p (nth l k) = false) : l.all (fun b => p b.toNat) = false := by
 rw [List.all_eq_false]
 exact ⟨l[k], List.getElem_mem hk, by rw [← nth_of l k hk, h]; simp⟩
theorem all_hitP (l : List UInt8) (p : Nat → Bool) (h : ∀ j, j < l.length → p (nth l j) = true) : l.all (fun b => p b.toNat) = true := by
 rw [List.all_eq_true]
 intro x hx
 obtain ⟨j, hj, rfl⟩ := List.getElem_of_mem hx
 rw [← nth_of l j hj, h j hj]
theorem betweenP_any (l : List UInt8) (lo hi : Nat) (but : ByteArray) (w : World) (hl : l.length ≤ maxLen) (_h1 : lo < 256) (_h2 : hi < 256) :
 Calls Tryd.prog 35 #[str l, .int .u8 (lo : Nat), .int .u8 (hi : Nat), .string but] w fun e w' => e = .returned (.bool (l.all (fun b => okP lo hi but.data.toList b.toNat))) ∧ w' = w := by
 unfold maxLen at hl
 have hm := fun k => all_missP l (okP lo hi but.data.toList) k
 have ha := all_hitP l (okP lo hi but.data.toList)
 generalize l.all (fun b => okP lo hi but.data.toList b.toNat) = r at hm ha ⊢
 obtain ⟨n, hn⟩ : ∃ n, n = l.length := ⟨_, rfl⟩
 rw [← hn] at hm ha hl
 have Hn := Lib.hid hn
 have Hm := Lib.hid hm
 have Ha := Lib.hid ha
 clear hn hm ha
 go_enter Tryd.func35, Tryd.ntmps35
 go_wp2_with fail
 rw [← Hn.out]
 go_loopw [12] (fun iv wr => ∃ k : Nat, k ≤ n ∧ iv = .int .i64 k ∧ wr = w ∧ Hid (∀ j, j < k → okP lo hi but.data.toList (nth l j) = true)) (fun iv _ => n - (intOf iv).toNat)
 case atStart => exact ⟨0, by omega, rfl, rfl, Lib.hid fun j hj => absurd hj (by omega)⟩
 case round =>
  obtain ⟨k, hk, rfl, rfl, hz⟩ := hrel
  by_cases hkn : k < n
  · have hkl : k < l.length := by rw [← Hn.out]; exact hkn
    have hmk := Hm.out k hkn
    have hx : nth l k < 256 := nth_lt l k
    by_cases c1 : nth l k < lo
    · have d1 : decide (((nth l k : Nat) : Int) < lo) = true := by simp; omega
      have hr : Hid (r = false) := hmk (by simp [okP, c1])
      clear hmk
      go_wp2_with fail
      go_ret
      exact ⟨by rw [hr.out]; rfl, rfl⟩
    · have d1 : decide (((nth l k : Nat) : Int) < lo) = false := by simp; omega
      by_cases c2 : hi < nth l k
      · have d2 : decide ((hi : Int) < (nth l k : Nat)) = true := by simp; omega
        have hr : Hid (r = false) := hmk (by simp [okP, c2])
        clear hmk
        go_wp2_with fail
        go_ret
        exact ⟨by rw [hr.out]; rfl, rfl⟩
      · have d2 : decide ((hi : Int) < (nth l k : Nat)) = false := by simp; omega
        have hib := fun W => Go.Proofs.Tryd.strings_IndexByte but (nth l k : Nat) W
        have hok : okP lo hi but.data.toList (nth l k) = !decide (0 ≤ Lib.indexByte but.data.toList ((nth l k : Nat) : Int).toNat.toUInt8) := by simp [okP, c1, c2]
        generalize Lib.indexByte but.data.toList ((nth l k : Nat) : Int).toNat.toUInt8 = z at hib hok
        have Hib := Lib.hid hib
        have Hok := Lib.hid hok
        clear hib hok
        by_cases c3 : 0 ≤ z
        · have d3 : decide (0 ≤ z) = true := by simpa using c3
          have hr : Hid (r = false) := hmk (by rw [Hok.out, d3]; rfl)
          clear hmk
          go_wp2_with fail
          refine (Hib.out _).mono ?_
          rintro e w1 ⟨rfl, rfl⟩
          go_wp2_with fail
          go_ret
          exact ⟨by rw [hr.out]; rfl, rfl⟩
        · have d3 : decide (0 ≤ z) = false := by simpa using c3
          clear hmk
          go_wp2_with fail
          refine (Hib.out _).mono ?_
          rintro e w1 ⟨rfl, rfl⟩
          go_wp2_with fail
          refine ⟨⟨k + 1, by omega, by go_num, trivial, Lib.hid fun j hj => ?_⟩, by simp [intOf]; omega⟩
          rcases Nat.lt_or_ge j k with h | h
          · exact hz.out j h
          · rw [show j = k from by omega, Hok.out, d3]; rfl
  · have hr : Hid (r = true) := Ha.out fun j hj => hz.out j (by omega)
    go_wp2_with fail
    go_ret
    exact ⟨by rw [hr.out]; rfl, rfl⟩
theorem okP_tok (x : Nat) (hx : x < 256) : okP 33 126 tspec x = !badTok x := by
 unfold okP badTok idxB
 rw [show (x : Int).toNat.toUInt8 = UInt8.ofNat x from rfl]
 congr 3
 simp; omega
theorem all_not (l : List UInt8) (p q : Nat → Bool) (h : ∀ x, x < 256 → p x = !q x) : l.all (fun b => p b.toNat) = !l.any (fun b => q b.toNat) := by
 induction l with
 | nil => rfl
 | cons a l ih => rw [List.all_cons, List.any_cons, ih, h _ a.toNat_lt]; simp
theorem IsToken_any (l : List UInt8) (w : World) (hl : l.length ≤ maxLen) : Calls Tryd.prog 11 #[str l] w fun e w' => e = .returned (.bool (tokB l)) ∧ w' = w := by
 have hb := betweenP_any l 33 126 ⟨#[40, 41, 60, 62, 64, 44, 59, 58, 92, 34, 47, 91, 93, 63, 61]⟩ w hl (by omega) (by omega)
 rw [show (ByteArray.mk #[40, 41, 60, 62, 64, 44, 59, 58, 92, 34, 47, 91, 93, 63, 61]).data.toList = tspec from rfl, all_not l (okP 33 126 tspec) badTok okP_tok] at hb
 have ht : tokB l = (decide (1 ≤ l.length) && decide (l.length ≤ 30) && !l.any (fun b => badTok b.toNat)) := by
  unfold tokB
  cases l <;> simp
 rw [ht]
 generalize l.any (fun b => badTok b.toNat) = r at hb ⊢
 have Hb := Lib.hid hb
 unfold maxLen at hl
 clear hb ht
 go_enter Tryd.func11, Tryd.ntmps11
 go_wp2_with fail
 case' _ =>
  refine Hb.out.mono ?_
  rintro e w1 ⟨rfl, rfl⟩
  go_wp2_with fail
  go_ret
  have e1 : decide (1 ≤ l.length) = true := by simp; omega
  have e2 : decide (l.length ≤ 30) = true := by simp; omega
  exact ⟨by rw [e1, e2]; simp, rfl⟩
 case' _ =>
  go_ret
  have e2 : decide (l.length ≤ 30) = false := by simp; omega
  exact ⟨by rw [e2]; simp, rfl⟩
 go_ret
 have e1 : decide (1 ≤ l.length) = false := by rw [decide_eq_false_iff_not]; omega
 exact ⟨by rw [e1]; simp, rfl⟩
theorem okP_val (x : Nat) (hx : x < 256) : okP 32 126 [] x = !badVal x := by
 revert hx; revert x; decide +kernel
theorem pre_one (l : List UInt8) (c : UInt8) : Lib.hasPrefix l [c] = (l.head? == some c) := by
 cases l with
 | nil => rfl
 | cons a l =>
  show (c == a && true) = (some a == some c)
  rw [Bool.eq_iff_iff]
  simp only [Bool.and_true, beq_iff_eq, Option.some.injEq]
  exact eq_comm
theorem suf_one (l : List UInt8) (c : UInt8) : Lib.hasSuffix l [c] = (l.getLast? == some c) := by
 have h : Lib.hasSuffix l [c] = Lib.hasPrefix l.reverse [c] := rfl
 rw [h, pre_one, List.head?_reverse]
theorem valB_doc (l : List UInt8) : valB l = (decide (l.length ≤ 900) && (!(l.any fun b => badVal b.toNat) && (!(Lib.hasPrefix l [32]) && !(Lib.hasSuffix l [32])))) := by
 rw [pre_one, suf_one]
 cases hv : valB l
 · symm
   cases h1 : decide (l.length ≤ 900)
   · rfl
   · cases h2 : (l.any fun b => badVal b.toNat)
     · rw [Bool.true_and, Bool.not_false, Bool.true_and]
       by_cases h3 : l.head? = some 32
       · simp [h3]
       · by_cases h4 : l.getLast? = some 32
         · simp [h4]
         · exfalso
           have h := trim_pad [] l [] [32] (by simp) (by simp) (fun x hx => by
            have : x ≠ 32 := fun e => h3 (by rw [hx, e])
            simp [this]) (fun x hx => by
            have : x ≠ 32 := fun e => h4 (by rw [hx, e])
            simp [this])
           rw [List.nil_append, List.append_nil] at h
           unfold valB at hv
           rw [h, h1, h2] at hv
           simp at hv
     · rfl
 · obtain ⟨h1, _, _⟩ := val_mem hv
   obtain ⟨h3, h4⟩ := val_ends hv
   have h2 : (l.any fun b => badVal b.toNat) = false := by
    unfold valB at hv
    simp only [Bool.and_eq_true, Bool.not_eq_true'] at hv
    exact hv.2
   have e3 : (l.head? == some 32) = false := by
    cases hh : l.head? with
    | none => rfl
    | some x => have := (h3 x hh).1; simp [this]
   have e4 : (l.getLast? == some 32) = false := by
    cases hh : l.getLast? with
    | none => rfl
    | some x => have := (h4 x hh).1; simp [this]
   rw [h2, e3, e4, decide_eq_true h1]
   rfl
theorem RIsValue_any (l : List UInt8) (w : World) (hl : l.length ≤ maxLen) : Calls Tryd.prog 13 #[str l] w fun e w' => e = .returned (.bool (valB l)) ∧ w' = w := by
 have hb := betweenP_any l 32 126 ⟨#[]⟩ w hl (by omega) (by omega)
 rw [show (ByteArray.mk #[]).data.toList = [] from rfl, all_not l (okP 32 126 []) badVal okP_val] at hb
 have hp := HasPrefix_any l [32] w
 have hs := HasSuffix_any l [32] w hl
 obtain ⟨R, hR⟩ : ∃ R, R = valB l := ⟨_, rfl⟩
 rw [← hR]
 rw [valB_doc] at hR
 generalize l.any (fun b => badVal b.toNat) = r at hb hR
 generalize Lib.hasPrefix l [32] = p at hp hR
 generalize Lib.hasSuffix l [32] = s at hs hR
 have Hb := Lib.hid hb
 have Hp := Lib.hid hp
 have Hs := Lib.hid hs
 have HR := Lib.hid hR
 unfold maxLen at hl
 clear hb hp hs hR
 by_cases h9 : l.length ≤ 900
 · have d9 : decide ((l.length : Int) ≤ 900) = true := by simp; omega
   have e9 : decide (l.length ≤ 900) = true := by simp; omega
   have HR2 := HR.out
   rw [e9, Bool.true_and] at HR2
   have HR := Lib.hid HR2
   clear HR2
   cases r with
   | true =>
    go_enter Tryd.func13, Tryd.ntmps13
    go_wp2_with fail
    refine Hb.out.mono ?_
    rintro e w1 ⟨rfl, rfl⟩
    go_wp2_with fail
    go_ret
    exact ⟨by rw [HR.out]; rfl, rfl⟩
   | false =>
    cases p with
    | true =>
     go_enter Tryd.func13, Tryd.ntmps13
     go_wp2_with fail
     refine Hb.out.mono ?_
     rintro e w1 ⟨rfl, rfl⟩
     go_wp2_with fail
     refine Hp.out.mono ?_
     rintro e w1 ⟨rfl, rfl⟩
     go_wp2_with fail
     go_ret
     exact ⟨by rw [HR.out]; rfl, rfl⟩
    | false =>
     go_enter Tryd.func13, Tryd.ntmps13
     go_wp2_with fail
     refine Hb.out.mono ?_
     rintro e w1 ⟨rfl, rfl⟩
     go_wp2_with fail
     refine Hp.out.mono ?_
     rintro e w1 ⟨rfl, rfl⟩
     go_wp2_with fail
     refine Hs.out.mono ?_
     rintro e w1 ⟨rfl, rfl⟩
     go_wp2_with fail
     go_ret
     exact ⟨by rw [HR.out]; cases s <;> rfl, rfl⟩
 · have d9 : decide ((l.length : Int) ≤ 900) = false := by simp; omega
   have e9 : decide (l.length ≤ 900) = false := by simp; omega
   have HR2 := HR.out
   rw [e9, Bool.false_and] at HR2
   have HR := Lib.hid HR2
   clear HR2
   go_enter Tryd.func13, Tryd.ntmps13
   go_wp2_with fail
   go_ret
   exact ⟨by rw [HR.out]; rfl, rfl⟩
theorem RCheckFields_any (l : List FieldD) (A : Option Addr) (n c B : Nat) (w : World) (h : Sl w B 2 A n (fieldC l)) (hB : B ≤ w.heap.size) (hs : smallF l) (hn : n ≤ maxLen) :
 Calls Tryd.prog 8 #[.slice A n c] w fun e w' => e = .returned (.int .i64 (chkF l : Nat)) ∧ Below w.heap.size w w' := by
 have hl : l.length = n := by have := h.1; rw [fieldC_len] at this; omega
 unfold maxLen at hn
 by_cases h20 : 20 < n
 · rw [show chkF l = 2 from by unfold chkF; rw [if_pos (by omega)]]
   have d : decide ((20 : Int) < n) = true := by simp; omega
   clear h hl hs
   go_enter Tryd.func8, Tryd.ntmps8
   go_wp2_with fail
   go_ret
   exact ⟨rfl, Below.refl _ _⟩
 · have d : decide ((20 : Int) < n) = false := by simp; omega
   have hR : chkF l = if l.all okF then 0 else 1 := by unfold chkF; rw [if_neg (by omega)]
   rw [hR]
   obtain ⟨R, hRd⟩ : ∃ R, l.all okF = R := ⟨_, rfl⟩
   rw [hRd]
   have HR := Lib.hid hRd
   have Hl := Lib.hid hl
   have Hs := Lib.hid hs
   have HS := Lib.hid h
   clear h hl hs hR hRd
   go_enter Tryd.func8, Tryd.ntmps8
   go_wp2_with fail
   go_loopw [10] (FChkRel l n R w) (fun iv _ => n - (intOf iv).toNat)
   case atStart => exact ⟨0, rfl, Nat.zero_le _, Below.refl _ _, HR.out⟩
   case round =>
    clear HR
    obtain ⟨i, rfl, hi, hbel, hE⟩ := hrel
    by_cases hin : i < n
    · obtain ⟨b, off, x, rfl, hbB, hx, x0, x1⟩ := (HS.out.below (hbel.mono hB)).field i hin
      obtain ⟨hx1, hx2⟩ := Hs.out.at_ hx
      have h1 := fun W => IsToken_any x.name W hx1
      have h2 := fun W => RIsValue_any x.value W hx2
      have hE2 : Hid ((okF x && (l.drop (i + 1)).all okF) = R) := by show _ = R; rw [← hE.out, hx, List.all_cons]
      have hok : okF x = (tokB x.name && valB x.value) := rfl
      rw [hok] at hE2
      generalize tokB x.name = t1 at h1 hE2
      generalize valB x.value = t2 at h2 hE2
      have H1 := Lib.hid h1
      have H2 := Lib.hid h2
      have hbA := hbel.alloc hbel.size (.cells #[str x.name, str x.value] 38)
      have y1 := (box2_new wr 38 (str x.name) (str x.value)).2
      clear hx hE hok h1 h2
      cases t1
      · obtain rfl : false = R := by simpa using hE2.out
        go_wp2_with fail
        refine (H1.out _).mono ?_
        rintro e w1 ⟨rfl, hw1⟩
        subst hw1
        clear x0 x1
        go_wp2_with fail
        go_ret
        exact ⟨rfl, hbA⟩
      · go_wp2_with fail
        refine (H1.out _).mono ?_
        rintro e w1 ⟨rfl, hw1⟩
        subst hw1
        clear x0 x1
        go_wp2_with fail
        refine (H2.out _).mono ?_
        rintro e w2 ⟨rfl, hw2⟩
        subst hw2
        cases t2
        · obtain rfl : false = R := by simpa using hE2.out
          go_wp2_with fail
          go_ret
          exact ⟨rfl, hbA⟩
        · have hE3 : Hid ((l.drop (i + 1)).all okF = R) := by show _ = R; rw [← hE2.out]; simp
          clear hE2
          go_wp2_with fail
          exact ⟨⟨i + 1, by go_num, by omega, hbA, hE3⟩, by simp [intOf]; omega⟩
    · obtain rfl : true = R := by rw [← hE.out, List.drop_of_length_le (by rw [Hl.out]; omega)]; rfl
      go_wp2_with fail
      go_ret
      exact ⟨rfl, hbel⟩
theorem Index_chr1 (l : List UInt8) (c : UInt8) (w : World) : Calls Tryd.prog 30 #[str l, .string ⟨#[c]⟩] w fun e w' => e = .returned (.int .i64 (Lib.indexByte l c)) ∧ w = w' :=
 (Go.Proofs.Tryd.strings_Index_one ⟨l.toArray⟩ c w).mono fun _ _ ⟨h1, h2⟩ => ⟨h1, h2.symm⟩
end Go.Proofs.YtpnolbfnmknhlaaDoor
namespace Go.Proofs.YtpnolbfnmknhlaaDoor
open Go.RowKit
section
variable {P : Program}
end
end Go.Proofs.YtpnolbfnmknhlaaDoor
namespace Go.Proofs.YtpnolbfnmknhlaaDoor
open Go.RowKit
end Go.Proofs.YtpnolbfnmknhlaaDoor
namespace Go.Proofs.YtpnolbfnmknhlaaDoor
open Go.RowKit
variable {P : Program}
theorem wpOp_runv {k : Nat} {K : Act → World → Prop} {w : World} {ops : Array Oper} {o : Oper} {a : Act} {Q : Exit → Act → World → Prop} (hi : ops[k]? = some o) (hw : Region.wanted o (yielded ops a.tmps) = true) (v : Value) (w' : World) (hv : (execOp a.eval o).run P w = .ok (.value v) w') (h : K (a.put o.dst v) w') : wpOp P ops Q k K a w := by
 unfold wpOp
 simp only [hi, hw, if_true]
 refine .inl ?_
 unfold Oper.wp
 simp only [hv, Oper.upon]
 exact h
theorem wpOp_appRun {k : Nat} {K : Act → World → Prop} {w : World} {ops : Array Oper} {o : Oper} {a : Act} {Q : Exit → Act → World → Prop} (hi : ops[k]? = some o) (hw : Region.wanted o (yielded ops a.tmps) = true) (s x : Operand) (t : TypeId)
 (ho : o.op = .call { callee := .builtin .append, args := #[s, x], argTypes := #[t, t] }) (v1 v2 : Value) (hs : a.eval s = v1) (hx : a.eval x = v2) (v : Value) (w' : World) (hrun : (Builtin.append_ #[t, t] o.type #[v1, v2]).run P w = .ok v w') (h : K (a.put o.dst v) w') : wpOp P ops Q k K a w := by
 unfold wpOp
 simp only [hi, hw, if_true]
 refine .inl ?_
 unfold Oper.wp execOp
 simp only [ho, resolve, invoke, builtin, Sem.run_bind, Sem.run_pure, Result.andThen_ok, List.map_toArray, List.map_cons, List.map_nil, hs, hx, hrun]
 exact h
theorem wpOp_callF {k : Nat} {K : Act → World → Prop} {w : World} {ops : Array Oper} {o : Oper} {a : Act} {Q : Exit → Act → World → Prop} (hi : ops[k]? = some o) (hw : Region.wanted o (yielded ops a.tmps) = true) (f : FuncId) (args : Array Value)
 (hrun : (execOp a.eval o).run P w = .ok (.enter f args) w) (v : Value) (R : World → Prop) (hc : Calls P f args w fun e w' => e = .returned v ∧ R w') (h : ∀ w', R w' → K (a.put o.dst v) w') : wpOp P ops Q k K a w := by
 unfold wpOp
 simp only [hi, hw, if_true]
 refine .inl ?_
 unfold Oper.wp
 rw [hrun, Oper.upon_enter]
 refine hc.mono fun e w'' hh => ?_
 obtain ⟨rfl, hr⟩ := hh
 exact h w'' hr
end Go.Proofs.YtpnolbfnmknhlaaDoor
namespace Go.Proofs.YtpnolbfnmknhlaaDoor
/-- The 64 letters. -/
def letters : List UInt8 := [65, 66, 67, 68, 69, 70, 71, 72, 73, 74, 75, 76, 77, 78, 79, 80, 81, 82, 83, 84, 85, 86, 87, 88, 89, 90, 97, 98, 99, 100, 101, 102, 103, 104, 105, 106, 107, 108, 109, 110, 111, 112, 113, 114, 115, 116, 117, 118, 119, 120, 121, 122, 48, 49, 50, 51, 52, 53, 54, 55, 56, 57, 43, 47]
/-- Three bytes as one number; what lacks is 0. -/
def val3 (l : List UInt8) : Nat := nth l 0 * 65536 + nth l 1 * 256 + nth l 2
/-- Letter i of four, of n bytes with the number v. -/
def quadL (n v i : Nat) : UInt8 := if n < i then 61 else letters.getD (v / 2 ^ (18 - 6 * i) % 64) 0
def quad (l : List UInt8) : List UInt8 := (List.range 4).map (quadL (min 3 l.length) (val3 l))
def brk (wide : Nat) : List UInt8 := if wide = 76 then [13, 10] else []
def after (wide : Nat) : Nat := if wide = 76 then 4 else wide + 4
/-- base.Text, where so many letters stand in the line already. -/
def enc (wide : Nat) (l : List UInt8) : List UInt8 :=
 match l with
 | [] => []
 | a :: t => brk wide ++ quad (a :: t) ++ enc (after wide) (t.drop 2)
termination_by l.length
decreasing_by simp; omega
end Go.Proofs.YtpnolbfnmknhlaaDoor
namespace Go.Proofs.YtpnolbfnmknhlaaDoor
theorem indexByte_bd (l : List UInt8) (c : UInt8) : -1 ≤ Lib.indexByte l c ∧ Lib.indexByte l c < l.length := by
 induction l with
 | nil => simp [Lib.indexByte]
 | cons a l ih =>
  simp only [Lib.indexByte, List.length_cons]
  split
  · omega
  · split <;> omega
end Go.Proofs.YtpnolbfnmknhlaaDoor

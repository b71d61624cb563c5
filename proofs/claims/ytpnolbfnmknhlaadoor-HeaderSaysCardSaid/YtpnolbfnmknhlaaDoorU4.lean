import Derived.Test.YtpnolbfnmknhlaaDoorU3
import Derived.Deep.RegionWith
import Derived.Test.YtpnolbfnmknhlaaDoorU1
set_option maxRecDepth 100000
set_option maxHeartbeats 40000000
namespace Go.Proofs.YtpnolbfnmknhlaaDoor
open Go.RowKit
def QGetRel (q : FieldD → Bool) (l : List FieldD) (R : List UInt8) (n : Nat) (w : World) (iv : Value) (wr : World) : Prop :=
 ∃ i : Nat, iv = .int .i64 (i : Nat) ∧ i ≤ n ∧ Hid (getQ q (l.drop i) = R) ∧ Below w.heap.size w wr
theorem QGet_any (q : FieldD → Bool) (l : List FieldD) (name : List UInt8) (A : Option Addr) (n c B : Nat) (w : World) (h : Sl w B 2 A n (fieldC l)) (hB : B ≤ w.heap.size) (hn : n ≤ maxLen)
 (hef : ∀ x ∈ l, ∀ W', Below w.heap.size w W' → Calls Tryd.prog 38 #[str x.name, str name] W' fun e w' => e = .returned (.bool (q x)) ∧ Below W'.heap.size W' w') :
 Calls Tryd.prog 16 #[.slice A n c, str name] w fun e w' => e = .returned (str (getQ q l)) ∧ Below w.heap.size w w' := by
 have hl : l.length = n := by have := h.1; rw [fieldC_len] at this; omega
 obtain ⟨R, hR⟩ : ∃ R, getQ q l = R := ⟨_, rfl⟩
 rw [hR]
 unfold maxLen at hn
 have HR := Lib.hid hR
 have Hl := Lib.hid hl
 have Hef0 := Lib.hid hef
 have HS := Lib.hid h
 clear hR hl hef h
 go_enter Tryd.func16, Tryd.ntmps16
 go_wp2_with fail
 go_loopw [9] (QGetRel q l R n w) (fun iv _ => n - (intOf iv).toNat)
 case atStart => exact ⟨0, rfl, Nat.zero_le _, HR.out, Below.refl _ _⟩
 case round =>
  clear HR
  obtain ⟨i, rfl, hi, hE, hbel⟩ := hrel
  by_cases hin : i < n
  · obtain ⟨b, off, x, rfl, hbB, hx, x0, x1⟩ := (HS.out.below (hbel.mono hB)).field i hin
    have hbA := hbel.alloc hbel.size (.cells #[str x.name, str x.value] 38)
    have hef := Hef0.out x (List.mem_of_mem_drop (i := i) (by rw [hx]; simp)) _ hbA
    have hE2 : Hid (R = if q x = true then x.value else getQ q (l.drop (i + 1))) := by show R = _; rw [← hE.out, hx, getQ]
    generalize q x = r at hef hE2
    have Hef := Lib.hid hef
    have y1 := (box2_new wr 38 (str x.name) (str x.value)).2
    clear hx hE hef
    go_wp2_with fail
    refine Hef.out.mono ?_
    rintro e w1 ⟨rfl, hb1⟩
    have hbB := hbA.trans (hb1.mono hbA.size)
    have y2 := (hb1.cell (p := ⟨wr.heap.size, 1, none⟩) (by simp)).trans y1
    clear x0 x1
    cases r
    · have hE3 : Hid (getQ q (l.drop (i + 1)) = R) := by show _ = R; rw [hE2.out]; simp
      clear hE2
      go_wp2_with fail
      exact ⟨⟨i + 1, by go_num, by omega, hE3, hbB⟩, by simp [intOf]; omega⟩
    · have hE3 : Hid (x.value = R) := by show _ = R; rw [hE2.out]; simp
      clear hE2
      go_wp2_with fail
      go_ret
      exact ⟨by rw [← hE3.out]; rfl, hbB⟩
  · have hE3 : Hid ([] = R) := by show [] = R; rw [← hE.out, List.drop_of_length_le (by rw [Hl.out]; omega)]; rfl
    clear hE
    go_wp2_with fail
    go_ret
    exact ⟨by rw [← hE3.out]; rfl, hbel⟩
/-- The predicate that both sides ask. -/
def qF (name : List UInt8) (x : FieldD) : Bool := efP ⟨x.name.toArray⟩ ⟨name.toArray⟩ (x.name.length + 1) 0
theorem qF_any (name : List UInt8) (x : FieldD) (w : World) (h1 : x.name.length ≤ maxLen) (h2 : name.length ≤ maxLen) (hF : FoldOk w) (hU : U8Ok w) :
 Calls Tryd.prog 38 #[str x.name, str name] w fun e w' => e = .returned (.bool (qF name x)) ∧ Below w.heap.size w w' :=
 EqualFold_any ⟨x.name.toArray⟩ ⟨name.toArray⟩ w (by unfold maxLen at h1; simp only [ByteArray.size, List.size_toArray]; omega) (by unfold maxLen at h2; simp only [ByteArray.size, List.size_toArray]; omega) hF hU
def PrintRes (r : List UInt8 × Nat) (w : World) (e : Ending) (w' : World) : Prop := e = .returned (.tuple #[str r.1, .int .i64 (r.2 : Nat)]) ∧ Below w.heap.size w w'
theorem FPrint_any (l : List FieldD) (A : Option Addr) (n c B : Nat) (w : World) (h : Sl w B 2 A n (fieldC l)) (hB : B ≤ w.heap.size) (hs : smallF l) (hn : n ≤ maxLen) :
 Calls Tryd.prog 4 #[.slice A n c] w (PrintRes (printF l) w) := by
 have hck := FCheck_any l A n c B w h hB hs hn
 have htl := @text_len l
 unfold PrintRes printF
 by_cases h0 : chkF l = 0
 · rw [h0] at hck
   have ht := htl h0
   rw [if_pos h0]
   have htx := fun W hb => FText_any l A n c B W (h.below hb) (Nat.le_trans hB hb.size) hn (by omega)
   have Htx := Lib.hid (show ∀ W, Below B w W → B ≤ W.heap.size → _ from fun W hb hW => FText_any l A n c B W (h.below hb) hW hn (by omega))
   have Hck := Lib.hid hck
   clear htx hck h0 htl ht h
   go_enter Tryd.func4, Tryd.ntmps4
   go_wp2_with fail
   refine Hck.out.mono ?_
   rintro e w1 ⟨rfl, hb1⟩
   go_wp2_with fail
   refine (Htx.out w1 (hb1.mono hB) (Nat.le_trans hB hb1.size)).mono ?_
   rintro e w2 ⟨rfl, hb2⟩
   go_wp2_with fail
   go_ret2
   exact ⟨rfl, hb1.trans (hb2.mono hb1.size)⟩
 · rw [if_neg h0]
   generalize chkF l = k at hck h0
   have hk : ((k : Int) != 0) = true := by simp; omega
   have Hck := Lib.hid hck
   clear hck h0 htl h
   go_enter Tryd.func4, Tryd.ntmps4
   go_wp2_with fail
   refine Hck.out.mono ?_
   rintro e w1 ⟨rfl, hb1⟩
   go_wp2_with fail
   go_ret2
   exact ⟨rfl, hb1⟩
instance : DecidableEq FieldD := fun a b =>
 if h : a.name = b.name ∧ a.value = b.value then isTrue (by obtain ⟨a1, a2⟩ := a; obtain ⟨b1, b2⟩ := b; obtain ⟨rfl, rfl⟩ := h; rfl)
 else isFalse (fun e => h (by subst e; exact ⟨rfl, rfl⟩))
theorem fieldD_beq (a b : FieldD) : (a == b) = ((a.name == b.name) && (a.value == b.value)) := by
 rw [Bool.eq_iff_iff]
 simp only [beq_iff_eq, Bool.and_eq_true]
 constructor
 · rintro rfl; exact ⟨rfl, rfl⟩
 · rintro ⟨h1, h2⟩
   obtain ⟨a1, a2⟩ := a
   obtain ⟨b1, b2⟩ := b
   simp only at h1 h2
   subst h1
   subst h2
   rfl
theorem neq_field (W : World) (a b : FieldD) : (binOp .neq 38 (.agg #[str a.name, str a.value]) (.agg #[str b.name, str b.value])).run Tryd.prog W = .ok (.bool (!(a == b))) W := by
 rw [fieldD_beq, run_neq_struct, run_equalIn_agg _ _ _ _ _ (by kernel_rfl) (by kernel_rfl)]
 have hs : ∀ x y : List UInt8, (Op.equalIn 9999 9 (str x) (str y)).run Tryd.prog W = .ok (x == y) W := by
  intro x y
  rw [str_eq, str_eq, run_equalIn_string W 9998 9 _ _ Tryd.underlying9]
  simp
 have h1 := hs a.name b.name
 have h2 := hs a.value b.value
 clear hs
 by_cases e1 : a.name = b.name
 · rw [e1] at h1
   by_cases e2 : a.value = b.value
   · rw [e2] at h2
     go_simp
   · have e2' : (a.value == b.value) = false := by simpa using e2
     rw [e2'] at h2
     go_simp
 · have e1' : (a.name == b.name) = false := by simpa using e1
   rw [e1'] at h1
   go_simp
def EqFRel (n : Nat) (ls ls' : List FieldD) (w : World) (iv : Value) (wr : World) : Prop :=
 ∃ i q : Nat, iv = .int .i64 (i : Nat) ∧ i ≤ n ∧ wr = w.drewN q ∧ Hid (ls.take i = ls'.take i)
theorem Equal_fields (A A' : Option Addr) (n c n' c' B B' : Nat) (ls ls' : List FieldD) (w : World) (h : Sl w B 2 A n (fieldC ls)) (h' : Sl w B' 2 A' n' (fieldC ls')) (hn : n ≤ 1000000) (hn' : n' ≤ 1000000) :
 Calls Tryd.prog 18 #[.slice A n c, .slice A' n' c'] w fun e w' => e = .returned (.bool (ls == ls')) ∧ ∃ q, w' = w.drewN q := by
 have hl : ls.length = n := by have := h.1; rw [fieldC_len] at this; omega
 have hl' : ls'.length = n' := by have := h'.1; rw [fieldC_len] at this; omega
 by_cases hnn : n = n'
 · subst hnn
   have hne : ((n : Int) != (n : Int)) = false := by simp
   obtain ⟨R, hR⟩ : ∃ R, R = (ls == ls') := ⟨_, rfl⟩
   rw [← hR]
   have HR := Lib.hid hR
   have Hl := Lib.hid hl
   have Hl' := Lib.hid hl'
   clear hR hl hl'
   go_enter Tryd.func18, Tryd.ntmps18
   go_wp2_with fail
   go_loopw [13] (fun iv wr => EqFRel n ls ls' w iv wr) (fun iv _ => n - (intOf iv).toNat)
   case atStart => exact ⟨0, 0, rfl, Nat.zero_le _, rfl, rfl⟩
   case round =>
    obtain ⟨i, q, rfl, hi, rfl, hz⟩ := hrel
    by_cases hin : i < n
    · obtain ⟨b, off, x, rfl, _, hdx, x0, x1⟩ := h.field i hin
      obtain ⟨b', off', x', rfl, _, hdx', x0', x1'⟩ := h'.field i hin
      have hneq := fun W => neq_field W x x'
      have hget : ls.take (i + 1) = ls.take i ++ [x] ∧ ls'.take (i + 1) = ls'.take i ++ [x'] := by
       have e1 : ls[i]? = some x := by have := congrArg (fun l => l[0]?) hdx; simpa using this
       have e2 : ls'[i]? = some x' := by have := congrArg (fun l => l[0]?) hdx'; simpa using this
       rw [List.take_add_one, List.take_add_one, e1, e2]
       exact ⟨rfl, rfl⟩
      have Hget := Lib.hid hget
      clear hdx hdx' hget
      by_cases hxx : x = x'
      · have e : (x == x') = true := by simpa using hxx
        have Hxx := Lib.hid hxx
        rw [e] at hneq
        clear hxx e
        go_wp2_with fail
        go_quiet (fail)
        go_wp2_with fail
        refine ⟨⟨i + 1, _, by go_num, by omega, rfl, ?_⟩, by simp [intOf]; omega⟩
        show _ = _
        rw [Hget.out.1, Hget.out.2, hz.out, Hxx.out]
      · have e : (x == x') = false := by simpa using hxx
        have Hxx := Lib.hid hxx
        rw [e] at hneq
        clear hxx e
        go_wp2_with fail
        go_quiet (fail)
        go_wp2_with fail
        go_ret
        have hRf : R = false := by
         rw [HR.out, beq_eq_false_iff_ne]
         rintro rfl
         have := Hget.out.1.symm.trans Hget.out.2
         rw [List.append_cancel_left_eq] at this
         injection this with this
         exact Hxx.out this
        exact ⟨by rw [hRf]; rfl, _, World.drewN_drewN _ _ _⟩
    · obtain rfl : i = n := by omega
      have hRt : R = true := by
       rw [HR.out, beq_iff_eq]
       have := hz.out
       rw [List.take_of_length_le (by have := Hl.out; omega), List.take_of_length_le (by have := Hl'.out; omega)] at this
       exact this
      have HRt := Lib.hid hRt
      clear hRt
      go_wp2_with fail
      go_ret
      exact ⟨by rw [HRt.out]; rfl, _, rfl⟩
 · have hne : ((n : Int) != (n' : Int)) = true := by simp; omega
   have hR : (ls == ls') = false := by
    rw [beq_eq_false_iff_ne]; rintro rfl; exact hnn (hl.symm.trans hl')
   rw [hR]
   clear hR hnn hl hl'
   go_enter Tryd.func18, Tryd.ntmps18
   go_wp2_with fail
   go_ret
   exact ⟨rfl, 0, rfl⟩
theorem lines_no {k : Nat} {s : List UInt8} {l : List FieldD} (h : (Lib.cut s [10]).2.2 = false) : linesF (k + 1) s l = ([], [], 1) := by
 rw [linesF, if_pos h]
theorem lines_end {k : Nat} {s : List UInt8} {l : List FieldD} (h : (Lib.cut s [10]).2.2 = true) (h2 : chopF (Lib.cut s [10]).1 = []) : linesF (k + 1) s l = if chkF l = 0 then (l, (Lib.cut s [10]).2.1, 0) else ([], [], chkF l) := by
 rw [linesF, if_neg (by rw [h]; simp), if_pos h2]
theorem lines_bad {k : Nat} {s : List UInt8} {l : List FieldD} (h : (Lib.cut s [10]).2.2 = true) (h2 : chopF (Lib.cut s [10]).1 ≠ []) (h3 : goF l (chopF (Lib.cut s [10]).1) = none) : linesF (k + 1) s l = ([], [], 1) := by
 rw [linesF, if_neg (by rw [h]; simp), if_neg h2, h3]
theorem lines_go {k : Nat} {s : List UInt8} {l m : List FieldD} (h : (Lib.cut s [10]).2.2 = true) (h2 : chopF (Lib.cut s [10]).1 ≠ []) (h3 : goF l (chopF (Lib.cut s [10]).1) = some m) : linesF (k + 1) s l = if 20 < m.length then ([], [], 2) else linesF k (Lib.cut s [10]).2.1 m := by
 rw [linesF, if_neg (by rw [h]; simp), if_neg h2, h3]
/-- How many bytes fields hold. -/
def wtF (l : List FieldD) : Nat := (l.map fun f => f.name.length + f.value.length).sum
theorem wtF_app (a b : List FieldD) : wtF (a ++ b) = wtF a + wtF b := by simp [wtF]
theorem wtF_mem : ∀ {l : List FieldD} {f : FieldD}, f ∈ l → f.name.length + f.value.length ≤ wtF l
 | [], _, h => by cases h
 | x :: l, f, h => by
  have e : wtF (x :: l) = x.name.length + x.value.length + wtF l := by simp [wtF]
  rw [e]
  rcases List.mem_cons.1 h with rfl | h
  · omega
  · have := wtF_mem h
    omega
theorem wtF_small {l : List FieldD} {N : Nat} (h : wtF l ≤ N) (hN : N ≤ maxLen) : smallF l := by
 intro f hf
 have := wtF_mem hf
 omega
theorem chop_len (l : List UInt8) : (chopF l).length ≤ l.length := by
 unfold chopF
 split
 · simp
 · exact Nat.le_refl _
theorem cut_sum {s : List UInt8} {c : UInt8} (h : (Lib.cut s [c]).2.2 = true) : s.length = (Lib.cut s [c]).1.length + 1 + (Lib.cut s [c]).2.1.length := by
 have := congrArg List.length (cut_backT s c h)
 simp only [List.length_append, List.length_cons] at this
 omega
theorem more_snoc (init : List FieldD) (f : FieldD) (line : List UInt8) : moreF (init ++ [f]) line = init ++ [{ f with value := Lib.trimS (f.value ++ 32 :: Lib.trimS line [32, 9]) [32] }] := by
 unfold moreF
 rw [List.getLast?_append]
 simp
theorem more_wt (init : List FieldD) (f : FieldD) (line : List UInt8) : wtF (moreF (init ++ [f]) line) ≤ wtF (init ++ [f]) + line.length + 1 := by
 rw [more_snoc, wtF_app, wtF_app]
 have h1 := trim_len (f.value ++ 32 :: Lib.trimS line [32, 9]) [32]
 have h2 := trim_len line [32, 9]
 simp only [List.length_append, List.length_cons] at h1
 simp [wtF]
 omega
theorem fieldC_put (init : List FieldD) (f : FieldD) (v : List UInt8) : (fieldC (init ++ [f])).set (init.length * 2 + 1) (str v) = fieldC (init ++ [{ f with value := v }]) := by
 rw [fieldC_app, fieldC_app, List.set_append_right _ _ (by rw [fieldC_len]; omega), fieldC_len, show init.length * 2 + 1 - init.length * 2 = 1 from by omega]
 rfl
theorem blank_32 {x : Nat} (h : x = 32) : blankF x = true := by subst h; rfl
theorem blank_9 {x : Nat} (h : x = 9) : blankF x = true := by subst h; rfl
theorem blank_no {x : Nat} (h : x ≠ 32) (h2 : x ≠ 9) : blankF x = false := by simp [blankF, h, h2]
theorem goF_blank0 {l : List FieldD} {line : List UInt8} (h : blankF (nth line 0) = true) (h0 : l = []) : goF l line = none := by unfold goF; rw [if_pos h, if_pos h0]
theorem goF_blank {l : List FieldD} {line : List UInt8} (h : blankF (nth line 0) = true) (h0 : l ≠ []) : goF l line = some (moreF l line) := by unfold goF; rw [if_pos h, if_neg h0]
theorem goF_none {l : List FieldD} {line : List UInt8} (h : blankF (nth line 0) = false) (h0 : (Lib.cut line [58]).2.2 = false) : goF l line = none := by unfold goF; rw [if_neg (by rw [h]; simp), if_neg (by rw [h0]; simp)]
theorem goF_new {l : List FieldD} {line : List UInt8} (h : blankF (nth line 0) = false) (h0 : (Lib.cut line [58]).2.2 = true) : goF l line = some (l ++ [⟨(Lib.cut line [58]).1, Lib.trimS (Lib.cut line [58]).2.1 [32, 9]⟩]) := by unfold goF; rw [if_neg (by rw [h]; simp), if_pos h0]
theorem new_wt (l : List FieldD) (line : List UInt8) (h0 : (Lib.cut line [58]).2.2 = true) : wtF (l ++ [⟨(Lib.cut line [58]).1, Lib.trimS (Lib.cut line [58]).2.1 [32, 9]⟩]) ≤ wtF l + line.length := by
 rw [wtF_app]
 have h1 := trim_len (Lib.cut line [58]).2.1 [32, 9]
 have h2 := cut_sum h0
 simp [wtF]
 omega
theorem TrimSuffix13 (l : List UInt8) (w : World) (hl : l.length ≤ maxLen) : Calls Tryd.prog 23 #[str l, .string ⟨#[13]⟩] w fun e w' => e = .returned (str (chopF l)) ∧ w' = w :=
 Go.Proofs.Tryd.strings_TrimSuffix ⟨l.toArray⟩ ⟨#[13]⟩ w (by unfold maxLen at hl; simpa [ByteArray.size] using hl)
theorem pfail_any (e : Nat) (w : World) : Calls Tryd.prog 21 #[.int .i64 (e : Nat)] w fun r w' => r = .returned (.tuple #[.slice none 0 0, .int .i64 0, .int .i64 (e : Nat)]) ∧ w' = w := by
 go_enter Tryd.func21, Tryd.ntmps21
 go_wp2_with fail
 go_ret3
 exact ⟨rfl, rfl⟩
/-- Fields, where what is behind them begins, what is wrong. -/
def ParseRes (r : List FieldD × Nat × Nat) (w : World) (e : Ending) (w' : World) : Prop :=
 ∃ S c, e = .returned (.tuple #[.slice S r.1.length c, .int .i64 (r.2.1 : Nat), .int .i64 (r.2.2 : Nat)]) ∧ Sl w' w'.heap.size 2 S r.1.length (fieldC r.1) ∧ smallF r.1 ∧ r.1.length ≤ c ∧ c ≤ maxLen ∧ Below w.heap.size w w'
theorem ParseRes.fail (e : Nat) {w w' : World} (hb : Below w.heap.size w w') : ParseRes ([], 0, e) w (.returned (.tuple #[.slice none 0 0, .int .i64 0, .int .i64 (e : Nat)])) w' :=
 ⟨none, 0, rfl, Sl.nil_ _ _ _ _, fun f h => (by cases h), Nat.le_refl _, Nat.zero_le _, hb⟩
/-- What the loop's end makes of it. -/
def finF (n : Nat) (r : List FieldD × List UInt8 × Nat) : List FieldD × Nat × Nat := if r.2.2 = 0 then (r.1, n - r.2.1.length, 0) else ([], 0, r.2.2)
theorem parseF_fin {b : List UInt8} (h : ¬ 40000 < b.length) : parseF b = finF b.length (linesF (b.length + 1) b []) := by unfold parseF finF; rw [if_neg h]
def PLRel (n : Nat) (R : List FieldD × List UInt8 × Nat) (w : World) (lv sv : Value) (wr : World) : Prop :=
 ∃ (k : Nat) (s : List UInt8) (out : List FieldD) (S : Option Addr) (m c : Nat), lv = .slice S m c ∧ sv = str s ∧ Hid (linesF k s out = R ∧ s.length < k ∧ out.length = m ∧ wtF out + s.length ≤ n) ∧ s.length ≤ n ∧ m ≤ 20 ∧ m ≤ c ∧ wr.ownsRow w.heap.size 38 2 (.slice S m c) m (fieldC out) ∧ Below w.heap.size w wr
theorem own_capF {w : World} {base : Nat} {e : TypeId} {size : Nat} {S : Option Addr} {n c : Nat} {xs : List Value} (h : w.ownsRow base e size (.slice S n c) n xs) : c ≤ maxLen := by
 rcases h.2 with ⟨hv, h0⟩ | ⟨g', cap', cur', hv', _, _, _, hcm, _⟩
 · injection hv with _ _ hc; rw [hc]; exact Nat.zero_le _
 · injection hv' with _ _ hcc; rw [hcc]; exact hcm
def strLn : Value → Nat | .string b => b.size | _ => 0
theorem strLn_str (l : List UInt8) : strLn (str l) = l.length := by simp [strLn, str, ByteArray.size]
theorem Parse_fields (b : List UInt8) (A : Option Addr) (n c : Nat) (w : World) (hb : By w w.heap.size A n b) (_hn : n ≤ c) (_hm : n ≤ maxLen) :
 Calls Tryd.prog 5 #[.slice A n c] w (ParseRes (parseF b) w) := by
 obtain ⟨i0, hi0, hz0, hz1, hz2⟩ := info_parts infoField
 have hl := hb.len
 by_cases h4 : 40000 < n
 · rw [show parseF b = ([], 0, 2) from parse_many (by omega)]
   have d : decide ((40000 : Int) < n) = true := by simp; omega
   clear hb hl
   go_enter Tryd.func5, Tryd.ntmps5
   go_wp2_with fail
   go_ret3
   exact ParseRes.fail 2 (Below.refl _ _)
 · have d : decide ((40000 : Int) < n) = false := by simp; omega
   rw [parseF_fin (by omega), hl]
   obtain ⟨R, hR⟩ : ∃ R, linesF (n + 1) b [] = R := ⟨_, rfl⟩
   rw [hR]
   have hts := run_toStr (P := Tryd.prog) w 23 9 5 _ A n c b hb Tryd.underlying23 Tryd.underlying5 Tryd.underlying9
   have HR := Lib.hid hR
   have Hl := Lib.hid hl
   obtain ⟨r, hr⟩ : ∃ r, r = finF n R := ⟨_, rfl⟩
   rw [← hr]
   have Hr := Lib.hid hr
   have hn4 : n ≤ 40000 := by omega
   clear hR hl hb hr
   go_enter Tryd.func5, Tryd.ntmps5
   go_wp2_with fail
   go_loopw [2, 6] (PLRel n R w) (fun _ sv _ => strLn sv)
   case atStart => exact ⟨n + 1, b, [], none, 0, 0, rfl, rfl, ⟨HR.out, by rw [Hl.out]; omega, rfl, by simp [wtF, Hl.out]⟩, by rw [Hl.out]; exact Nat.le_refl _, Nat.zero_le _, Nat.le_refl _, World.ownsRow_nil _ _ _ _, Below.refl _ _⟩
   case round =>
    clear HR
    obtain ⟨k, s, out, S, m, cS, rfl, rfl, hE, hsn, hm20, hmc, hown, hbel⟩ := hrel
    obtain ⟨k, rfl⟩ : ∃ k', k = k' + 1 := ⟨k - 1, by have := hE.out.2.1; omega⟩
    have hcut := Cut_one s 10 wr (by unfold maxLen; omega)
    have hsum := @cut_sum s 10
    have l1 := @lines_no k s out
    have l2 := @lines_end k s out
    have l3 := @lines_bad k s out
    have l4 := fun m' => @lines_go k s out m'
    generalize Lib.cut s [10] = x at hcut hsum l1 l2 l3 l4
    obtain ⟨line0, rest, whole⟩ := x
    simp only at hcut hsum l1 l2 l3 l4
    have Hcut := Lib.hid hcut
    cases whole
    case false =>
     have hr1 : Hid (r = ([], 0, 1)) := by show r = _; rw [Hr.out, ← hE.out.1, l1 rfl]; rfl
     clear hcut hsum l1 l2 l3 l4 hE hown
     go_wp2_with fail
     refine Hcut.out.mono ?_
     rintro e w1 ⟨rfl, q, rfl⟩
     go_wp2_with fail
     refine (pfail_any 1 _).mono ?_
     rintro e w2 ⟨rfl, rfl⟩
     go_wp2_with fail
     go_ret3
     rw [hr1.out]
     exact ParseRes.fail 1 (belN hbel q)
    case true =>
     have hsl := hsum rfl
     have hcl := chop_len line0
     have hTs := fun W => TrimSuffix13 line0 W (by unfold maxLen; omega)
     generalize hline : chopF line0 = line at hTs hcl l2 l3 l4
     have HTs := Lib.hid hTs
     have hline4 : line.length ≤ 40000 := by omega
     have hrest : rest.length ≤ n ∧ rest.length < s.length := by omega
     obtain ⟨hrest1, hrest2⟩ := hrest
     by_cases hl0 : line = []
     · -- the empty line
       have hRv : R = if chkF out = 0 then (out, rest, 0) else ([], [], chkF out) := by rw [← hE.out.1]; exact l2 rfl hl0
       have hol := hE.out.2.2.1
       have hwt := hE.out.2.2.2
       have hsm : smallF out := wtF_small (N := 40000) (by omega) (by unfold maxLen; omega)
       have d0 : (line == []) = true := by simpa using hl0
       have hck := fun W (hW : Below wr.heap.size wr W) => FCheck_any out S m cS wr.heap.size W ((Sl.of_own hown).below hW) hW.size hsm (by unfold maxLen; omega)
       have hslw := Sl.of_own hown
       have hcm := own_capF hown
       have hrS : r = if chkF out = 0 then (out, n - rest.length, 0) else ([], 0, chkF out) := by
        rw [Hr.out, hRv]
        unfold finF
        by_cases h0 : chkF out = 0
        · rw [if_pos h0, if_pos h0, if_pos rfl]
        · rw [if_neg h0, if_neg h0, if_neg (by simpa using h0)]
       generalize chkF out = e0 at hck hrS
       have Hck := Lib.hid hck
       have Hslw := Lib.hid hslw
       have Hsm := Lib.hid hsm
       have Hol := Lib.hid hol
       have hnr : ((n : Int) - (rest.length : Int)) = ((n - rest.length : Nat) : Int) := by omega
       clear hcut hsum l1 l2 l3 l4 hE hown hRv hck hslw hsm hol hwt hTs hline hl0
       by_cases he0 : e0 = 0
       · subst he0
         have hr1 : Hid (r = (out, n - rest.length, 0)) := by show r = _; rw [hrS, if_pos rfl]
         clear hrS
         go_wp2_with fail
         refine Hcut.out.mono ?_
         rintro e w1 ⟨rfl, q, rfl⟩
         have hb1 := belN (Below.refl wr.heap.size wr) q
         have hbel1 := belN hbel q
         go_wp2_with fail
         refine (HTs.out _).mono ?_
         rintro e w2 ⟨rfl, rfl⟩
         go_wp2_with fail
         refine (Hck.out _ hb1).mono ?_
         rintro e w3 ⟨rfl, hb3⟩
         go_wp2_with fail
         go_ret3
         rw [hr1.out]
         have hbw := hb1.trans (hb3.mono hb1.size)
         exact ⟨S, cS, by rw [← Hol.out]; rfl, by rw [show (out, n - rest.length, 0).1.length = m from Hol.out]; exact (Hslw.out.below hbw).more hbw.size, Hsm.out, by show out.length ≤ cS; rw [Hol.out]; exact hmc, hcm, hbel1.trans (hb3.mono hbel1.size)⟩
       · have hr1 : Hid (r = ([], 0, e0)) := by show r = _; rw [hrS, if_neg he0]
         have de : ((e0 : Int) != 0) = true := by simp; omega
         clear hrS he0
         go_wp2_with fail
         refine Hcut.out.mono ?_
         rintro e w1 ⟨rfl, q, rfl⟩
         have hb1 := belN (Below.refl wr.heap.size wr) q
         have hbel1 := belN hbel q
         go_wp2_with fail
         refine (HTs.out _).mono ?_
         rintro e w2 ⟨rfl, rfl⟩
         go_wp2_with fail
         refine (Hck.out _ hb1).mono ?_
         rintro e w3 ⟨rfl, hb3⟩
         go_wp2_with fail
         refine (pfail_any e0 _).mono ?_
         rintro e w2 ⟨rfl, rfl⟩
         go_wp2_with fail
         go_ret3
         rw [hr1.out]
         exact ParseRes.fail e0 (hbel1.trans (hb3.mono hbel1.size))
     · have d0 : (line == []) = false := by simpa using hl0
       have hll : 0 < line.length := List.length_pos_iff.2 hl0
       have hi0' : (0 : Int) ≤ 0 := by omega
       have hi1' : (0 : Int) < line.length := by omega
       have l3 := l3 rfl hl0
       have l4 := fun m' => l4 m' rfl hl0
       clear hsum l1 l2 hcut
       by_cases h32 : nth line 0 = 32
       · have t1 : ((nth line 0 : Int) == 32) = true := by simp [h32]
         have hbl : blankF (nth line 0) = true := blank_32 h32
         by_cases hm0 : m = 0
         · have hout : out = [] := List.eq_nil_of_length_eq_zero (by rw [hE.out.2.2.1]; exact hm0)
           have hr1 : Hid (r = ([], 0, 1)) := by show r = _; rw [Hr.out, ← hE.out.1, l3 (goF_blank0 hbl hout)]; rfl
           subst hm0
           clear l3 l4 hE hown hbl
           go_wp2_with fail
           refine Hcut.out.mono ?_
           rintro e w1 ⟨rfl, q, rfl⟩
           go_wp2_with fail
           refine (HTs.out _).mono ?_
           rintro e w2 ⟨rfl, rfl⟩
           go_wp2_with fail
           refine (pfail_any 1 _).mono ?_
           rintro e w3 ⟨rfl, rfl⟩
           go_wp2_with fail
           go_ret3
           rw [hr1.out]
           exact ParseRes.fail 1 (belN hbel q)
         · have hout : out ≠ [] := fun e => hm0 (by rw [← hE.out.2.2.1, e]; rfl)
           obtain ⟨init, f, rfl⟩ : ∃ init f, out = init ++ [f] := ⟨out.dropLast, out.getLast hout, (List.dropLast_concat_getLast hout).symm⟩
           have hmi : m = init.length + 1 := by rw [← hE.out.2.2.1]; simp
           have hgo := l4 _ (goF_blank hbl hout)
           have hwt := more_wt init f line
           have hms := more_snoc init f line
           obtain ⟨g, cap, hv, hgb, hgl⟩ := hown.form (by omega)
           injection hv with hS2 _ hcap
           subst hS2
           subst hcap
           have hj : m - 1 = init.length := by omega
           have q1 : wr.cell? ⟨g, (m - 1) * 2 + 1, none⟩ = some (str f.value) := by
            rw [hown.cellAt _ (by omega), fieldC_app, List.getElem?_append_right (by rw [fieldC_len]; omega), fieldC_len, hj, show init.length * 2 + 1 - init.length * 2 = 1 from by omega]
            rfl
           have f1 : wr.frozen? ⟨g, (m - 1) * 2 + 1, none⟩ = false := hown.frozenAt _
           have htl := trim_len line [32, 9]
           have hT1 := fun W => Trim_any line [32, 9] W (by unfold maxLen; omega) (by decide) (by decide)
           have hfv : f.value.length ≤ 40000 := by
            have h1 := hE.out.2.2.2
            have h2 := @wtF_mem (init ++ [f]) f (by simp)
            omega
           generalize hT1d : Lib.trimS line [32, 9] = t1 at hT1 htl hms
           have hT2 := fun W => Trim_any (f.value ++ 32 :: t1) [32] W (by unfold maxLen; simp only [List.length_append, List.length_cons]; omega) (by decide) (by decide)
           generalize hT2d : Lib.trimS (f.value ++ 32 :: t1) [32] = t2 at hT2 hms
           have HT1 := Lib.hid hT1
           have HT2 := Lib.hid hT2
           have hownS := fun (u : Value) => (hown.stored ((m - 1) * 2 + 1) u).1
           have hput : (fieldC (init ++ [f])).set ((m - 1) * 2 + 1) (str t2) = fieldC (moreF (init ++ [f]) line) := by rw [hj, fieldC_put, hms]
           have hml : (moreF (init ++ [f]) line).length = m := by rw [hms, hmi]; simp
           have hR2 : Hid (R = if 20 < m then ([], [], 2) else linesF k rest (moreF (init ++ [f]) line)) := by show R = _; rw [← hE.out.1, hgo, hml]
           have hwt2 : Hid (wtF (moreF (init ++ [f]) line) + rest.length ≤ n) := by
            show _ ≤ _
            have := hE.out.2.2.2
            omega
           have hk2 : Hid (rest.length < k) := by show _ < _; have := hE.out.2.1; omega
           generalize moreF (init ++ [f]) line = out2 at hput hml hR2 hwt2
           have Hown := Lib.hid hown
           have Hput := Lib.hid hput
           have Hml := Lib.hid hml
           have Hmi := Lib.hid hmi
           have hm1 : 0 < m := by omega
           clear l3 l4 hE hown hbl hgo hwt hms hT1 hT2 hput hml hT1d hT2d hownS hm0 hmi hj
           go_wp2_with fail
           refine Hcut.out.mono ?_
           rintro e w1 ⟨rfl, q, rfl⟩
           go_wp2_with fail
           refine (HTs.out _).mono ?_
           rintro e w2 ⟨rfl, rfl⟩
           have q1d : (wr.drewN q).cell? ⟨g, (m - 1) * 2 + 1, none⟩ = some (str f.value) := q1
           have f1d : (wr.drewN q).frozen? ⟨g, (m - 1) * 2 + 1, none⟩ = false := f1
           have hb1 := belN (Below.refl wr.heap.size wr) (q + 1)
           have hszd : g < (wr.drewN q).drew.heap.size := hgl
           go_wp2_with fail
           go_region_with (first
            | (go_at_call 24; (with_reducible refine (HT1.out _).mono ?_); rintro e w4 ⟨rfl, hb4⟩; have q4 := (hb4.cell (p := ⟨g, (m - 1) * 2 + 1, none⟩) hszd).trans q1d; have f4 := (hb4.frozen (p := ⟨g, (m - 1) * 2 + 1, none⟩) hszd).trans f1d; have hsz4 := Nat.lt_of_lt_of_le hszd hb4.size)
            | (go_at_call 24; (with_reducible refine (HT2.out _).mono ?_); rintro e w5 ⟨rfl, hb5⟩; have q5 := (hb5.cell (p := ⟨g, (m - 1) * 2 + 1, none⟩) hsz4).trans q4; have f5 := (hb5.frozen (p := ⟨g, (m - 1) * 2 + 1, none⟩) hsz4).trans f4))
           all_goals
            have hbw := hb1.trans ((hb4.trans (hb5.mono hb4.size)).mono (show wr.heap.size ≤ (wr.drewN q).drew.heap.size from Nat.le_refl _))
            have hown5 := (own_below Hown.out hbw).stored ((m - 1) * 2 + 1) (str t2) |>.1
            rw [Hput.out] at hown5
            have hbel5 := (hbel.trans (hbw.mono hbel.size)).setCell (p := ⟨g, (m - 1) * 2 + 1, none⟩) hgb (str t2)
            have d20 : decide ((20 : Int) < (m : Int)) = false := by simp; omega
            have hR3 : Hid (linesF k rest out2 = R) := by show _ = R; rw [hR2.out, if_neg (by omega)]
            have Hown5 := Lib.hid hown5
            clear hown5 q1 f1 q1d f1d q4 f4 q5 f5 hb1 hb4 hb5 hbw
            go_wp2_with fail
            exact ⟨⟨k, rest, out2, some ⟨g, 0, none⟩, m, cS, rfl, rfl, ⟨hR3.out, hk2.out, Hml.out, hwt2.out⟩, hrest1, hm20, hmc, Hown5.out, hbel5⟩, by rw [strLn_str, strLn_str]; exact hrest2⟩
       · have t1 : ((nth line 0 : Int) == 32) = false := by simp; omega
         by_cases h9 : nth line 0 = 9
         · have t2 : ((nth line 0 : Int) == 9) = true := by simp [h9]
           have hbl : blankF (nth line 0) = true := blank_9 h9
           by_cases hm0 : m = 0
           · have hout : out = [] := List.eq_nil_of_length_eq_zero (by rw [hE.out.2.2.1]; exact hm0)
             have hr1 : Hid (r = ([], 0, 1)) := by show r = _; rw [Hr.out, ← hE.out.1, l3 (goF_blank0 hbl hout)]; rfl
             subst hm0
             clear l3 l4 hE hown hbl
             go_wp2_with fail
             refine Hcut.out.mono ?_
             rintro e w1 ⟨rfl, q, rfl⟩
             go_wp2_with fail
             refine (HTs.out _).mono ?_
             rintro e w2 ⟨rfl, rfl⟩
             go_wp2_with fail
             refine (pfail_any 1 _).mono ?_
             rintro e w3 ⟨rfl, rfl⟩
             go_wp2_with fail
             go_ret3
             rw [hr1.out]
             exact ParseRes.fail 1 (belN hbel q)
           · have hout : out ≠ [] := fun e => hm0 (by rw [← hE.out.2.2.1, e]; rfl)
             obtain ⟨init, f, rfl⟩ : ∃ init f, out = init ++ [f] := ⟨out.dropLast, out.getLast hout, (List.dropLast_concat_getLast hout).symm⟩
             have hmi : m = init.length + 1 := by rw [← hE.out.2.2.1]; simp
             have hgo := l4 _ (goF_blank hbl hout)
             have hwt := more_wt init f line
             have hms := more_snoc init f line
             obtain ⟨g, cap, hv, hgb, hgl⟩ := hown.form (by omega)
             injection hv with hS2 _ hcap
             subst hS2
             subst hcap
             have hj : m - 1 = init.length := by omega
             have q1 : wr.cell? ⟨g, (m - 1) * 2 + 1, none⟩ = some (str f.value) := by
              rw [hown.cellAt _ (by omega), fieldC_app, List.getElem?_append_right (by rw [fieldC_len]; omega), fieldC_len, hj, show init.length * 2 + 1 - init.length * 2 = 1 from by omega]
              rfl
             have f1 : wr.frozen? ⟨g, (m - 1) * 2 + 1, none⟩ = false := hown.frozenAt _
             have htl := trim_len line [32, 9]
             have hT1 := fun W => Trim_any line [32, 9] W (by unfold maxLen; omega) (by decide) (by decide)
             have hfv : f.value.length ≤ 40000 := by
              have h1 := hE.out.2.2.2
              have h2 := @wtF_mem (init ++ [f]) f (by simp)
              omega
             generalize hT1d : Lib.trimS line [32, 9] = t1 at hT1 htl hms
             have hT2 := fun W => Trim_any (f.value ++ 32 :: t1) [32] W (by unfold maxLen; simp only [List.length_append, List.length_cons]; omega) (by decide) (by decide)
             generalize hT2d : Lib.trimS (f.value ++ 32 :: t1) [32] = t2 at hT2 hms
             have HT1 := Lib.hid hT1
             have HT2 := Lib.hid hT2
             have hownS := fun (u : Value) => (hown.stored ((m - 1) * 2 + 1) u).1
             have hput : (fieldC (init ++ [f])).set ((m - 1) * 2 + 1) (str t2) = fieldC (moreF (init ++ [f]) line) := by rw [hj, fieldC_put, hms]
             have hml : (moreF (init ++ [f]) line).length = m := by rw [hms, hmi]; simp
             have hR2 : Hid (R = if 20 < m then ([], [], 2) else linesF k rest (moreF (init ++ [f]) line)) := by show R = _; rw [← hE.out.1, hgo, hml]
             have hwt2 : Hid (wtF (moreF (init ++ [f]) line) + rest.length ≤ n) := by
              show _ ≤ _
              have := hE.out.2.2.2
              omega
             have hk2 : Hid (rest.length < k) := by show _ < _; have := hE.out.2.1; omega
             generalize moreF (init ++ [f]) line = out2 at hput hml hR2 hwt2
             have Hown := Lib.hid hown
             have Hput := Lib.hid hput
             have Hml := Lib.hid hml
             have Hmi := Lib.hid hmi
             have hm1 : 0 < m := by omega
             clear l3 l4 hE hown hbl hgo hwt hms hT1 hT2 hput hml hT1d hT2d hownS hm0 hmi hj
             go_wp2_with fail
             refine Hcut.out.mono ?_
             rintro e w1 ⟨rfl, q, rfl⟩
             go_wp2_with fail
             refine (HTs.out _).mono ?_
             rintro e w2 ⟨rfl, rfl⟩
             have q1d : (wr.drewN q).cell? ⟨g, (m - 1) * 2 + 1, none⟩ = some (str f.value) := q1
             have f1d : (wr.drewN q).frozen? ⟨g, (m - 1) * 2 + 1, none⟩ = false := f1
             have hb1 := belN (Below.refl wr.heap.size wr) (q + 1)
             have hszd : g < (wr.drewN q).drew.heap.size := hgl
             go_wp2_with fail
             go_region_with (first
              | (go_at_call 24; (with_reducible refine (HT1.out _).mono ?_); rintro e w4 ⟨rfl, hb4⟩; have q4 := (hb4.cell (p := ⟨g, (m - 1) * 2 + 1, none⟩) hszd).trans q1d; have f4 := (hb4.frozen (p := ⟨g, (m - 1) * 2 + 1, none⟩) hszd).trans f1d; have hsz4 := Nat.lt_of_lt_of_le hszd hb4.size)
              | (go_at_call 24; (with_reducible refine (HT2.out _).mono ?_); rintro e w5 ⟨rfl, hb5⟩; have q5 := (hb5.cell (p := ⟨g, (m - 1) * 2 + 1, none⟩) hsz4).trans q4; have f5 := (hb5.frozen (p := ⟨g, (m - 1) * 2 + 1, none⟩) hsz4).trans f4))
             all_goals
              have hbw := hb1.trans ((hb4.trans (hb5.mono hb4.size)).mono (show wr.heap.size ≤ (wr.drewN q).drew.heap.size from Nat.le_refl _))
              have hown5 := (own_below Hown.out hbw).stored ((m - 1) * 2 + 1) (str t2) |>.1
              rw [Hput.out] at hown5
              have hbel5 := (hbel.trans (hbw.mono hbel.size)).setCell (p := ⟨g, (m - 1) * 2 + 1, none⟩) hgb (str t2)
              have d20 : decide ((20 : Int) < (m : Int)) = false := by simp; omega
              have hR3 : Hid (linesF k rest out2 = R) := by show _ = R; rw [hR2.out, if_neg (by omega)]
              have Hown5 := Lib.hid hown5
              clear hown5 q1 f1 q1d f1d q4 f4 q5 f5 hb1 hb4 hb5 hbw
              go_wp2_with fail
              exact ⟨⟨k, rest, out2, some ⟨g, 0, none⟩, m, cS, rfl, rfl, ⟨hR3.out, hk2.out, Hml.out, hwt2.out⟩, hrest1, hm20, hmc, Hown5.out, hbel5⟩, by rw [strLn_str, strLn_str]; exact hrest2⟩
         · have t2 : ((nth line 0 : Int) == 9) = false := by simp; omega
           have hbl : blankF (nth line 0) = false := blank_no h32 h9
           have hcut2 := fun W => Cut_one line 58 W (by unfold maxLen; omega)
           have hc1 := @goF_none out line hbl
           have hc2 := @goF_new out line hbl
           have hc3 := new_wt out line
           have hcs := @cut_sum line 58
           generalize Lib.cut line [58] = y at hcut2 hc1 hc2 hc3 hcs
           obtain ⟨name, value, ok⟩ := y
           simp only at hcut2 hc1 hc2 hc3 hcs
           have Hcut2 := Lib.hid hcut2
           cases ok
           case false =>
            have hr1 : Hid (r = ([], 0, 1)) := by show r = _; rw [Hr.out, ← hE.out.1, l3 (hc1 rfl)]; rfl
            clear l3 l4 hE hown hbl hcut2 hc1 hc2 hc3 hcs
            go_wp2_with fail
            refine Hcut.out.mono ?_
            rintro e w1 ⟨rfl, q, rfl⟩
            go_wp2_with fail
            refine (HTs.out _).mono ?_
            rintro e w2 ⟨rfl, rfl⟩
            go_wp2_with fail
            refine (Hcut2.out _).mono ?_
            rintro e w3 ⟨rfl, q3, rfl⟩
            go_wp2_with fail
            refine (pfail_any 1 _).mono ?_
            rintro e w4 ⟨rfl, rfl⟩
            go_wp2_with fail
            go_ret3
            rw [hr1.out]
            exact ParseRes.fail 1 (belN hbel (q + q3))
           case true =>
            have hgo := l4 _ (hc2 rfl)
            have hwt := hc3 rfl
            have hls := hcs rfl
            have hT1 := fun W => Trim_any value [32, 9] W (by unfold maxLen; omega) (by decide) (by decide)
            have hR2 : Hid (R = if 20 < m + 1 then ([], [], 2) else linesF k rest (out ++ [⟨name, Lib.trimS value [32, 9]⟩])) := by
             show R = _
             rw [← hE.out.1, hgo]
             simp only [List.length_append, List.length_cons, List.length_nil, hE.out.2.2.1, Nat.zero_add]
            have hwt2 : Hid (wtF (out ++ [⟨name, Lib.trimS value [32, 9]⟩]) + rest.length ≤ n) := by
             show _ ≤ _
             have := hE.out.2.2.2
             omega
            generalize Lib.trimS value [32, 9] = t at hT1 hR2 hwt2
            have hml : Hid ((out ++ [FieldD.mk name t]).length = m + 1) := by show _ = _; simp [hE.out.2.2.1]
            have hk2 : Hid (rest.length < k) := by show _ < _; have := hE.out.2.1; omega
            have HT1 := Lib.hid hT1
            have Hown := Lib.hid hown
            have h63 : m + 1 ≤ maxLen := by unfold maxLen; omega
            have h47 : (m + 1) * 32 ≤ 140737488355328 := by omega
            have hone : ∀ u ∈ [str name, str t], u.oneCell' = true := by intro u hu; simp at hu; rcases hu with rfl | rfl <;> rfl
            have Hone := Lib.hid hone
            clear l3 l4 hE hown hbl hcut2 hc1 hc2 hc3 hcs hgo hwt hT1 hone
            go_wp2_with fail
            refine Hcut.out.mono ?_
            rintro e w1 ⟨rfl, q, rfl⟩
            go_wp2_with fail
            refine (HTs.out _).mono ?_
            rintro e w2 ⟨rfl, rfl⟩
            go_wp2_with fail
            refine (Hcut2.out _).mono ?_
            rintro e w3 ⟨rfl, q3, rfl⟩
            have hb1 := belN (Below.refl wr.heap.size wr) (q + q3)
            go_wp2_with fail
            refine (HT1.out _).mono ?_
            rintro e w4 ⟨rfl, hb4⟩
            have hbw := hb1.trans (hb4.mono hb1.size)
            have hbel4 := hbel.trans (hbw.mono hbel.size)
            have hown4 := own_below Hown.out hbw
            have hsz4 := hbel4.size
            clear hb1 hb4 hbw
            go_wp2_with (at_builtin; refine wpList_app rfl _ _ 22 rfl w.heap.size 38 i0 (.agg #[.string ⟨#[]⟩, .string ⟨#[]⟩]) 2 32 Tryd.underlying22 hi0 hz0 hz1 hz2 rfl (by decide) S m cS (fieldC out) rfl (hown4.alloc _) _ _ 1 1 [str name, str t] rfl (Sl.row _ _ 2 1 _ rfl) Hone.out h63 h47 ?c2 ?_)
            case c2 => simp; omega
            intro S' c' w5 hown5 hb5 _
            have hc' := own_cap hown5
            have hbel5 := (hbel4.alloc hsz4 (.cells #[str name, str t] 38)).trans hb5
            rw [show fieldC out ++ [str name, str t] = fieldC (out ++ [⟨name, t⟩]) from by rw [fieldC_app]; rfl] at hown5
            have Hown5 := Lib.hid hown5
            clear hown4 hown5 hb5
            by_cases h20 : 20 < m + 1
            · have d20 : decide ((20 : Int) < (m : Int) + 1) = true := by simp; omega
              have hr1 : Hid (r = ([], 0, 2)) := by show r = _; rw [Hr.out, hR2.out, if_pos h20]; rfl
              go_wp2_with fail
              refine (pfail_any 2 _).mono ?_
              rintro e w6 ⟨rfl, rfl⟩
              go_wp2_with fail
              go_ret3
              rw [hr1.out]
              exact ParseRes.fail 2 hbel5
            · have d20 : decide ((20 : Int) < (m : Int) + 1) = false := by simp; omega
              have hR3 : Hid (linesF k rest (out ++ [⟨name, t⟩]) = R) := by show _ = R; rw [hR2.out, if_neg h20]
              go_wp2_with fail
              exact ⟨⟨k, rest, _, S', m + 1, c', rfl, rfl, ⟨hR3.out, hk2.out, hml.out, hwt2.out⟩, hrest1, by omega, hc', Hown5.out, hbel5⟩, by rw [strLn_str, strLn_str]; exact hrest2⟩
end Go.Proofs.YtpnolbfnmknhlaaDoor
namespace Go.Proofs.YtpnolbfnmknhlaaDoor
/-- header.Params' loop: the fields, what is wrong. -/
def loopP : Nat → List UInt8 → Bool → List FieldD → List FieldD × Nat
 | 0, _, _, _ => ([], 1)
 | k + 1, rest, more, l =>
  if more = false then (l, 0)
  else
   let c := Lib.cut (Lib.trimLeftS rest [32]) [61]
   let name := Lib.trimS c.1 [32]
   if (!c.2.2 || !tokB name) = true then ([], 1)
   else
    let v := Lib.trimLeftS c.2.1 [32]
    if Lib.hasPrefix v [34] = true then
     let d := Lib.cut (v.drop 1) [34]
     if d.2.2 = false then ([], 1)
     else
      let g := Lib.cut d.2.1 [59]
      if Lib.trimS g.1 [32] ≠ [] then ([], 1)
      else if 20 < (l ++ [FieldD.mk (lowL name) d.1]).length then ([], 2)
      else loopP k g.2.1 g.2.2 (l ++ [FieldD.mk (lowL name) d.1])
    else
     let d := Lib.cut v [59]
     let p := Lib.trimRightS d.1 [32]
     if tokB p = false then ([], 1)
     else if 20 < (l ++ [FieldD.mk (lowL name) p]).length then ([], 2)
     else loopP k d.2.1 d.2.2 (l ++ [FieldD.mk (lowL name) p])
/-- header.Params. -/
def paramsF (s : List UInt8) : List UInt8 × List FieldD × Nat :=
 if valB s = false then ([], [], 1)
 else
  let c := Lib.cut s [59]
  let r := loopP (s.length + 2) c.2.1 c.2.2 []
  if r.2 = 0 then (lowL (Lib.trimS c.1 [32]), r.1, 0) else ([], [], r.2)
structure PieceD where
 quoted : Bool
 name : List UInt8
 value : List UInt8
def PieceD.text (p : PieceD) : List UInt8 := if p.quoted then [59] ++ p.name ++ [32, 61, 34] ++ p.value ++ [34, 32] else [32, 59, 32] ++ p.name ++ [61, 32] ++ p.value
def PieceD.good (p : PieceD) : Prop := tokB p.name = true ∧ (if p.quoted then valB p.value = true ∧ (34 : UInt8) ∉ p.value else tokB p.value = true)
def PieceD.field (p : PieceD) : FieldD := ⟨lowL p.name, p.value⟩
def PieceD.pre (p : PieceD) : List UInt8 := if p.quoted then [] else [32]
/-- What stands behind the ;, and with what behind it. -/
def PieceD.body (p : PieceD) (r : List PieceD) : List UInt8 := if p.quoted then p.name ++ [32] ++ 61 :: (34 :: (p.value ++ 34 :: (if r.isEmpty then [] else [32]))) else 32 :: (p.name ++ 61 :: (32 :: p.value))
end Go.Proofs.YtpnolbfnmknhlaaDoor

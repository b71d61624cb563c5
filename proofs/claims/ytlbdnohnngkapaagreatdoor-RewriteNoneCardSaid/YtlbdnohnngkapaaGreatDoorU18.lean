import Derived.Test.YtlbdnohnngkapaaGreatDoorU14
import Derived.Test.YtlbdnohnngkapaaGreatDoorU2
import Derived.Test.YtlbdnohnngkapaaGreatDoorU12
import Derived.WalkSpells
import Derived.Lib.SliceRun
import Derived.Deep.RegionHeld
import Derived.Shelf.Abstract
import Derived.Test.YtlbdnohnngkapaaGreatDoorU1
import Derived.Test.YtlbdnohnngkapaaGreatDoorU17
import Derived.Test.YtlbdnohnngkapaaGreatDoorU13
import Derived.Deep.Slices
import Derived.Deep.Fields
import Derived.Lib.SmallJoins
import Derived.SizedLaws
namespace Go.Proofs.YtlbdnohnngkapaaGreatDoor
open Go.RowKit

theorem box2_newN (w : World) (t : TypeId) (u v : Value) : (w.alloc (.cells #[u, v] t)).cell? ⟨w.heap.size, 0, none⟩ = some u ∧ (w.alloc (.cells #[u, v] t)).cell? ⟨w.heap.size, 1, none⟩ = some v := by
  have h := heap_alloc_new w (.cells #[u, v] t)
  constructor <;> (unfold World.cell?; rw [h]; rfl)
theorem cloInfoName : (Tryz.prog.info? 79).map (fun i => (i.zero, i.size, i.bytes)) = some (some (Value.agg #[.int .i64 0, .string ⟨#[]⟩]), 2, 24) := by kernel_rfl
def CloResName (xs : List Value) (n : Nat) (w : World) (e : Ending) (w' : World) : Prop := ∃ S c, e = .returned (.slice S n c) ∧ w'.ownsRow w.heap.size 79 2 (.slice S n c) n xs ∧ Below w.heap.size w w'
set_option maxRecDepth 100000 in
set_option maxHeartbeats 1000000 in
theorem Clone_Name (A : Option Addr) (n c B : Nat) (xs : List Value) (w : World) (hx : Sl w B 2 A n xs) (hB : B ≤ w.heap.size) (h1x : ∀ u ∈ xs, u.oneCell' = true) (hn : n * 24 ≤ 140737488351232) :
    Calls Tryz.prog 52 #[.slice A n c] w (CloResName xs n w) := by
  obtain ⟨i0, hi, hz0, hz1, hz2⟩ := info_parts cloInfoName
  have hnil : ∀ (w : World) (a : Option Addr) (n c n' c' : Nat), (binOp .eql 26 (.slice a n c) (.slice none n' c')).run Tryz.prog w = .ok (.bool a.isNone) w := fun w a n c n' c' => Lib.run_eql_slice_nil w _ _ a n c n' c' Tryz.underlying26
  cases A with
  | none =>
    have hn0 : n = 0 := by
      rcases Nat.eq_zero_or_pos n with h | h
      · exact h
      · obtain ⟨_, _, h', _⟩ := hx.2 h; cases h'
    subst hn0
    have hx0 : xs = [] := List.eq_nil_of_length_eq_zero (by simpa using hx.1)
    subst hx0
    clear hx h1x
    go_enter Tryz.func52, Tryz.ntmps52
    go_wp2_with fail
    go_ret
    exact ⟨none, 0, rfl, World.ownsRow_nil _ _ _ _, Below.refl _ _⟩
  | some a =>
    have hW : Below w.heap.size w (w.alloc (.cells #[] 79)) := (Below.refl _ w).alloc (Nat.le_refl _) _
    have hxW := hx.belowN hW hB
    have hown := World.ownsRow_made (base := w.heap.size) (e := 79) (size := 2) w #[] 0 (Nat.le_refl _) (Nat.zero_le _) rfl
    have H1 := Lib.hid h1x
    have h63 : 0 + n ≤ maxLen := by unfold maxLen; omega
    have h47 : (0 + n) * 24 ≤ 140737488355328 := by omega
    clear hx h1x
    go_enter Tryz.func52, Tryz.ntmps52
    go_wp2_with (at_builtin; refine wpList_app rfl _ _ 26 rfl w.heap.size 79 i0 (Value.agg #[.int .i64 0, .string ⟨#[]⟩]) 2 24 Tryz.underlying26 hi hz0 hz1 hz2 rfl (by decide) _ 0 0 [] rfl hown _ (some a) n c xs rfl hxW H1.out h63 h47 hW.size ?_)
    intro S' c' w4 hown4 hb4 _
    go_wp2_with fail
    go_ret
    refine ⟨S', c', by simp, ?_, hW.trans hb4⟩
    simpa using hown4

/-! ### Cells set one behind the other -/
def setLN (xs : List Value) : Nat → List Value → List Value
  | _, [] => xs
  | o, v :: r => setLN (xs.set o v) (o + 1) r
theorem setLN_take : ∀ (vs xs : List Value) (o k : Nat), k ≤ o → (setLN xs o vs).take k = xs.take k
  | [], _, _, _, _ => rfl
  | v :: r, xs, o, k, h => by
    rw [setLN, setLN_take r (xs.set o v) (o + 1) k (by omega)]
    rw [List.take_set_of_le (by omega)]
section
variable {base : Nat} {e : TypeId} {size g n c : Nat}
theorem own_setCellsN : ∀ (vs xs : List Value) (o : Nat) (w : World), w.ownsRow base e size (.slice (some ⟨g, 0, none⟩) n c) n xs → (w.setCells g o vs).ownsRow base e size (.slice (some ⟨g, 0, none⟩) n c) n (setLN xs o vs)
  | [], _, _, _, h => h
  | v :: r, xs, o, w, h => by
    rw [World.setCells, setLN]
    exact own_setCellsN r _ _ _ (h.stored o v).1
theorem own_headN {w : World} {xs : List Value} (h : w.ownsRow base e size (.slice (some ⟨g, 0, none⟩) n c) n xs) {i : Nat} (hi : i ≤ n) : w.ownsRow base e size (.slice (some ⟨g, 0, none⟩) i c) i (xs.take (i * size)) := by
  have hle : i * size ≤ n * size := Nat.mul_le_mul_right _ hi
  rcases h with ⟨hl, ⟨hv, _⟩ | ⟨g', cap, cur, hv, hb, hg, hnc, hm, hs, ht⟩⟩
  · cases hv
  · injection hv with h1 _ h2
    injection h1 with h1
    injection h1 with h1
    subst h1
    subst h2
    refine ⟨by rw [List.length_take, hl]; exact Nat.min_eq_left hle, .inr ⟨g, c, cur, rfl, hb, hg, by omega, hm, hs, ?_⟩⟩
    rw [← ht, List.take_take, Nat.min_eq_left hle]
theorem below_setCellsN {B : Nat} {a : World} (hb : B ≤ g) : ∀ (vs : List Value) (o : Nat) (w : World), Below B a w → Below B a (w.setCells g o vs)
  | [], _, _, h => h
  | _ :: r, o, w, h => below_setCellsN hb r (o + 1) _ (h.setCell hb _)
end
theorem zeroName (w : World) : (zeroValue 79).run Tryz.prog w = .ok (.agg #[.int .i64 0, .string ⟨#[]⟩]) w := by kernel_rfl
theorem clear_names (w : World) (ty : TypeId) (g o n c : Nat) (hn : 0 < n) (hc : ∀ j, j < n * 2 → (w.cell? ⟨g, o + j, none⟩).isSome = true) (hf : ∀ j, w.frozen? ⟨g, j, none⟩ = false) :
    ∃ vs, (Builtin.clear_ #[26] ty #[.slice (some ⟨g, o, none⟩) n c]).run Tryz.prog w = .ok (.tuple #[]) (w.setCells g o vs) := by
  obtain ⟨m, rfl⟩ : ∃ m, n = m + 1 := ⟨n - 1, by omega⟩
  obtain ⟨Z, hZ⟩ : ∃ Z, Z = (Builtin.zeroCells (Value.agg #[.int .i64 0, .string ⟨#[]⟩]).cells (m + 1)).toList := ⟨_, rfl⟩
  have hZl : Z.length = (m + 1) * 2 := by rw [hZ]; simp [size_zeroCells, Value.cells]
  have hZ1 : ∀ v ∈ Z, v.oneCell' = true := by
    rw [hZ]
    intro v hv
    simp [Builtin.zeroCells, Value.cells] at hv
    obtain ⟨i, hi, rfl⟩ := hv
    rcases (by omega : i % 2 = 0 ∨ i % 2 = 1) with h | h <;> simp [h] <;> rfl
  have hst := run_storeCells_cells (P := Tryz.prog) g o Z 0 w (by intro j hj; rw [Nat.add_zero]; exact hc j (by omega)) (by intro j hj; rw [Nat.add_zero]; exact hf _) hZ1
  rw [Nat.add_zero] at hst
  refine ⟨Z, ?_⟩
  simp only [Builtin.clear_]
  simp [run_underlying Tryz.underlying26, zeroName, ← hZ, hst]
theorem cut_names (w : World) (g n c : Nat) (ki : IntKind) (k : Int) (h0 : 0 ≤ k) (h1 : k ≤ n) (hkc : k < c) :
    (Instr.slice 26 (.slice (some ⟨g, 0, none⟩) n c) (some (.int ki k)) none none).run Tryz.prog w = .ok (.slice (some ⟨g, k.toNat * 2, none⟩) (n - k.toNat) (c - k.toNat)) w := by
  rw [run_cut w _ _ 2 Tryz.underlying26 (Tryz.sizeOf79 w) _ n c ki k h0 h1]
  unfold cutA
  rw [if_neg (by omega), Option.map_some, Addr.add_lit, Nat.zero_add]
theorem upto_names (w : World) (g n c : Nat) (ki : IntKind) (k : Int) (h0 : 0 ≤ k) (h1 : k ≤ n) (hc : n ≤ c) :
    (Instr.slice 26 (.slice (some ⟨g, 0, none⟩) n c) none (some (.int ki k)) none).run Tryz.prog w = .ok (.slice (some ⟨g, 0, none⟩) k.toNat c) w := by
  rw [run_upto w _ _ 2 Tryz.underlying26 (Tryz.sizeOf79 w) _ n c ki k h0 h1 hc]
  unfold cutA
  split
  · rfl
  · rw [Option.map_some, Addr.add_lit]
attribute [local go_sem high] cut_names upto_names
theorem nameC_swap (a r : List NameD) (y x : NameD) : ((nameC (a ++ y :: r)).set (a.length * 2) (.int .i64 x.part)).set (a.length * 2 + 1) (str x.name) = nameC (a ++ x :: r) := by
  have e : ∀ z : NameD, nameC (a ++ z :: r) = nameC a ++ (.int .i64 z.part :: str z.name :: nameC r) := by intro z; rw [nameC_app]; rfl
  have hl := nameC_len a
  rw [e, e, List.set_append_right _ _ (by omega), hl, Nat.sub_self, List.set_append_right _ _ (by omega), hl, show a.length * 2 + 1 - a.length * 2 = 1 from by omega]
  rfl

/-! ### slices.IndexFunc and slices.DeleteFunc at fields -/
/-- A test of the fields of a list, in all worlds behind one. -/
def PredN (g : Nat) (lb : Array Value) (p : NameD → Bool) (l : List NameD) (w : World) : Prop :=
  ∀ (W : World) (x : NameD), x ∈ l → Below w.heap.size w W → Calls Tryz.prog g (#[.agg #[.int .i64 x.part, str x.name]] ++ lb) W fun e w' => e = .returned (.bool (p x)) ∧ Below W.heap.size W w'
theorem PredN.later {g : Nat} {lb : Array Value} {p : NameD → Bool} {l : List NameD} {w w' : World} (h : PredN g lb p l w) (hb : Below w.heap.size w w') : PredN g lb p l w' :=
  fun W x hx hW => h W x hx (hb.trans (hW.mono hb.size))
/-- The first place for which it is so. -/
def firstN (p : NameD → Bool) (l : List NameD) : Int := if (l.any p) then ((l.takeWhile (fun x => !p x)).length : Int) else -1
theorem firstN_hit (p : NameD → Bool) : ∀ (a : List NameD) (x : NameD) (r : List NameD), (∀ y ∈ a, p y = false) → p x = true → firstN p (a ++ x :: r) = (a.length : Int)
  | a, x, r, h, hx => by
    have h1 : (a ++ x :: r).any p = true := by simp [hx]
    have h2 : (a ++ x :: r).takeWhile (fun x => !p x) = a := by
      rw [List.takeWhile_append_of_pos (by intro y hy; simp [h y hy]), List.takeWhile_cons, if_neg (by simp [hx]), List.append_nil]
    unfold firstN
    rw [if_pos h1, h2]
theorem firstN_none (p : NameD → Bool) (l : List NameD) (h : ∀ y ∈ l, p y = false) : firstN p l = -1 := by
  unfold firstN
  rw [if_neg (by rw [List.any_eq_true]; rintro ⟨y, hy, hp⟩; rw [h y hy] at hp; cases hp)]
def IdxNRel (p : NameD → Bool) (l : List NameD) (n : Nat) (w : World) (iv : Value) (wr : World) : Prop :=
  ∃ i : Nat, iv = .int .i64 (i : Nat) ∧ i ≤ n ∧ Hid (∀ y ∈ l.take i, p y = false) ∧ Below w.heap.size w wr
set_option maxRecDepth 100000 in
set_option maxHeartbeats 1000000 in
theorem IndexFunc_names (g : Nat) (lb : Array Value) (eg : ∀ args w, (callFunc g args).run Tryz.prog w = .ok (.enter g args) w) (p : NameD → Bool) (l : List NameD) (A : Option Addr) (n c B : Nat) (w : World)
    (h : Sl w B 2 A n (nameC l)) (hB : B ≤ w.heap.size) (hn : n ≤ maxLen) (hp : PredN g lb p l w) :
    Calls Tryz.prog 48 #[.slice A n c, .func (.func g) #[] lb] w fun e w' => e = .returned (.int .i64 (firstN p l)) ∧ Below w.heap.size w w' := by
  have hl : l.length = n := by have := h.1; rw [nameC_len] at this; omega
  have f1 := firstN_hit p
  have f2 := firstN_none p l
  obtain ⟨R, hR⟩ : ∃ R, R = firstN p l := ⟨_, rfl⟩
  rw [← hR]
  unfold maxLen at hn
  have F1 := Lib.hid f1
  have F2 := Lib.hid f2
  have HR := Lib.hid hR
  have Hl := Lib.hid hl
  have HS := Lib.hid h
  have HP := Lib.hid hp
  clear f1 f2 hR hl h hp
  go_enter Tryz.func48, Tryz.ntmps48
  go_wp2_with fail
  go_loopw [8] (IdxNRel p l n w) (fun iv _ => n - (intOf iv).toNat)
  case atStart => exact ⟨0, rfl, Nat.zero_le _, fun y hy => by simp at hy, Below.refl _ _⟩
  case round =>
    obtain ⟨i, rfl, hi, hz, hbel⟩ := hrel
    by_cases hin : i < n
    · obtain ⟨b, off, x, rfl, hbB, hx, x0, x1⟩ := (HS.out.below (hbel.mono hB)).name i hin
      have hxl : x ∈ l := List.mem_of_mem_drop (i := i) (by rw [hx]; simp)
      have hcl := HP.out wr x hxl hbel
      have Hx := Lib.hid hx
      clear hx
      cases hpx : p x
      case true =>
        rw [hpx] at hcl
        have Hcl := Lib.hid hcl
        have hRi : Hid (R = (i : Int)) := by
          show R = _
          have e : l = l.take i ++ x :: l.drop (i + 1) := by rw [← Hx.out, List.take_append_drop]
          have := F1.out (l.take i) x (l.drop (i + 1)) hz.out hpx
          rw [← e, List.length_take, Hl.out, Nat.min_eq_left hi] at this
          rw [HR.out, this]
        clear hcl hpx
        go_wp2_with (go_at_fn g; refine Hcl.out.mono ?_; rintro e w1 ⟨rfl, hb1⟩)
        go_ret
        exact ⟨by rw [hRi.out]; rfl, hbel.trans (hb1.mono hbel.size)⟩
      case false =>
        rw [hpx] at hcl
        have Hcl := Lib.hid hcl
        have hz2 : Hid (∀ y ∈ l.take (i + 1), p y = false) := by
          intro y hy
          rw [List.take_succ_eq_append_getElem (by rw [Hl.out]; exact hin)] at hy
          rcases List.mem_append.1 hy with h | h
          · exact hz.out y h
          · simp only [List.mem_cons, List.not_mem_nil, or_false] at h
            have e : l[i]'(by rw [Hl.out]; exact hin) = x := by
              have := Hx.out
              rw [List.drop_eq_getElem_cons (by rw [Hl.out]; exact hin)] at this
              injection this
            rw [h, e]
            exact hpx
        clear hcl hpx
        go_wp2_with (go_at_fn g; refine Hcl.out.mono ?_; rintro e w1 ⟨rfl, hb1⟩)
        exact ⟨⟨i + 1, by go_num, by omega, hz2, hbel.trans (hb1.mono hbel.size)⟩, by simp [intOf]; omega⟩
    · have hRi : Hid (R = -1) := by
        show R = _
        rw [HR.out]
        refine F2.out fun y hy => hz.out y ?_
        rw [List.take_of_length_le (by rw [Hl.out]; omega)]
        exact hy
      go_wp2_with fail
      go_ret
      exact ⟨by rw [hRi.out]; rfl, hbel⟩

theorem takeWhile_yesN (q : NameD → Bool) : ∀ (l : List NameD) (y : NameD), y ∈ l.takeWhile q → q y = true
  | [], _, h => by simp at h
  | x :: l, y, h => by
    rw [List.takeWhile_cons] at h
    split at h
    · rename_i hq
      rcases List.mem_cons.1 h with rfl | h
      · exact hq
      · exact takeWhile_yesN q l y h
    · simp at h
/-- As PredN, of the worlds in which what lies below a block is as it was. -/
def PredNB (base g : Nat) (lb : Array Value) (p : NameD → Bool) (l : List NameD) (w : World) : Prop :=
  ∀ (W : World) (x : NameD), x ∈ l → Below base w W → Calls Tryz.prog g (#[.agg #[.int .i64 x.part, str x.name]] ++ lb) W fun e w' => e = .returned (.bool (p x)) ∧ Below W.heap.size W w'
def DelResN (base : Nat) (F : List NameD) (w : World) (e : Ending) (w' : World) : Prop :=
  ∃ S k c, e = .returned (.slice S k c) ∧ k = F.length ∧ w'.ownsRow base 79 2 (.slice S k c) k (nameC F) ∧ Below base w w'
def DelRelN (base g n c : Nat) (l F : List NameD) (p : NameD → Bool) (w : World) (iv jv : Value) (wr : World) : Prop :=
  ∃ (i j : Nat) (kept junk : List NameD), iv = .int .i64 (i : Nat) ∧ jv = .int .i64 (j : Nat) ∧ Hid (kept.length = i ∧ kept.length + junk.length = j ∧ kept ++ (l.drop j).filter (fun x => !p x) = F) ∧ i < j ∧ j ≤ n ∧
    wr.ownsRow base 79 2 (.slice (some ⟨g, 0, none⟩) n c) n (nameC (kept ++ junk ++ l.drop j)) ∧ Below base w wr
set_option maxRecDepth 100000 in
set_option maxHeartbeats 2000000 in
theorem DeleteFunc_names (base g0 : Nat) (lb : Array Value) (eg : ∀ args w, (callFunc g0 args).run Tryz.prog w = .ok (.enter g0 args) w) (p : NameD → Bool) (l : List NameD) (S : Option Addr) (n c : Nat) (w : World)
    (hown : w.ownsRow base 79 2 (.slice S n c) n (nameC l)) (hbase : base ≤ w.heap.size) (hn : n * 24 ≤ 140737488351232) (hp : PredNB base g0 lb p l w) :
    Calls Tryz.prog 51 #[.slice S n c, .func (.func g0) #[] lb] w (DelResN base (l.filter (fun x => !p x)) w) := by
  have hl : l.length = n := by have := hown.1; rw [nameC_len] at this; omega
  have hnc := own_cap hown
  have hcm := own_capmax hown
  have hpf : PredN g0 lb p l w := fun W x hx hW => hp W x hx (hW.mono hbase)
  have hix := IndexFunc_names g0 lb eg p l S n c w.heap.size w (Sl.of_own hown) (Nat.le_refl _) (by unfold maxLen; omega) hpf
  have hlaw : (firstN p l = -1 ∧ l.filter (fun x => !p x) = l) ∨ ∃ a x r, l = a ++ x :: r ∧ (∀ y ∈ a, p y = false) ∧ p x = true ∧ firstN p l = (a.length : Int) := by
    by_cases h : l.any p = true
    · right
      refine ⟨l.takeWhile (fun x => !p x), ?_⟩
      have hsp := List.takeWhile_append_dropWhile (p := fun x => !p x) (l := l)
      cases hd : l.dropWhile (fun x => !p x) with
      | nil =>
        exfalso
        rw [hd, List.append_nil] at hsp
        obtain ⟨y, hy, hpy⟩ := List.any_eq_true.1 h
        rw [← hsp] at hy
        have := takeWhile_yesN _ _ y hy
        simp [hpy] at this
      | cons x r =>
        rw [hd] at hsp
        have hx : p x = true := by
          have := List.head?_dropWhile_not (fun x => !p x) l
          rw [hd] at this
          simpa using this
        have ha : ∀ y ∈ l.takeWhile (fun x => !p x), p y = false := fun y hy => by simpa using takeWhile_yesN _ _ y hy
        refine ⟨x, r, hsp.symm, ha, hx, ?_⟩
        have := firstN_hit p _ x r ha hx
        rwa [hsp] at this
    · left
      have hall : ∀ y ∈ l, p y = false := by
        intro y hy
        cases hpy : p y
        · rfl
        · exact absurd (List.any_eq_true.2 ⟨y, hy, hpy⟩) h
      exact ⟨firstN_none p l hall, List.filter_eq_self.2 (fun y hy => by simp [hall y hy])⟩
  rcases hlaw with ⟨h1, h2⟩ | ⟨a, x, r, hlx, ha, hx, h1⟩
  · rw [h1] at hix
    rw [h2]
    have Hix := Lib.hid hix
    have Hown := Lib.hid hown
    have Hl := Lib.hid hl
    clear hix hown hl hp hpf h1 h2
    go_enter Tryz.func51, Tryz.ntmps51
    go_wp2_with fail
    refine Hix.out.mono ?_
    rintro e w1 ⟨rfl, hb1⟩
    go_wp2_with fail
    go_ret
    exact ⟨S, n, c, rfl, Hl.out.symm, own_below Hown.out hb1, hb1.mono hbase⟩
  · have hal : a.length < n := by rw [← hl, hlx]; simp
    have hF : l.filter (fun x => !p x) = a ++ r.filter (fun x => !p x) := by
      rw [hlx, List.filter_append, List.filter_eq_self.2 (fun y hy => by simp [ha y hy]), List.filter_cons, if_neg (by simp [hx])]
    obtain ⟨Fl, hFl⟩ : ∃ Fl, Fl = l.filter (fun x => !p x) := ⟨_, rfl⟩
    rw [← hFl] at hF ⊢
    rw [h1] at hix
    obtain ⟨g, cap, hv, hgb, hgl⟩ := hown.form (by omega)
    injection hv with hS2 _ hcap
    subst hS2
    subst hcap
    have hdr : l.drop (a.length + 1) = r := by
      rw [hlx, show a ++ x :: r = (a ++ [x]) ++ r by simp]
      exact List.drop_left' (by simp)
    have hstart : DelRelN base g n c l Fl p w (.int .i64 (a.length : Nat)) (.int .i64 ((a.length + 1 : Nat) : Int)) w := by
      refine ⟨a.length, a.length + 1, a, [x], rfl, rfl, ⟨rfl, rfl, ?_⟩, by omega, by omega, ?_, Below.refl _ _⟩
      · rw [hdr, hF]
      · rw [hdr, show a ++ [x] ++ r = l by rw [hlx]; simp]; exact hown
    have hgo : ∀ w1, Below w.heap.size w w1 → DelRelN base g n c l Fl p w (.int .i64 (a.length : Nat)) (.int .i64 ((a.length + 1 : Nat) : Int)) w1 := by
      intro w1 hb
      obtain ⟨i, j, kept, junk, e1, e2, e3, e4, e5, e6, e7⟩ := hstart
      exact ⟨i, j, kept, junk, e1, e2, e3, e4, e5, own_below e6 hb, hb.mono hbase⟩
    obtain ⟨ia, hia⟩ : ∃ ia, ia = a.length := ⟨_, rfl⟩
    rw [← hia] at hix hgo hal
    have hne : ((ia : Int) == -1) = false := by simp
    have Hix := Lib.hid hix
    have HGo := Lib.hid hgo
    have HP := Lib.hid hp
    have Hl := Lib.hid hl
    unfold maxLen at hcm
    clear hix hgo hstart hdr hF hFl ha hx h1 hown hpf hp hl hia hlx
    go_enter Tryz.func51, Tryz.ntmps51
    go_wp2_with fail
    refine Hix.out.mono ?_
    rintro e w1 ⟨rfl, hb1⟩
    have HR := Lib.hid (HGo.out w1 hb1)
    clear HGo Hix hb1
    go_wp2_with fail
    go_loopw [5, 6] (DelRelN base g n c l Fl p w) (fun _ jv _ => n - (intOf jv).toNat)
    case atStart => have := HR.out; simpa using this
    case round =>
      clear HR
      obtain ⟨i, j, kept, junk, rfl, rfl, hE, hij, hjn, hown, hbel⟩ := hrel
      by_cases hj : j < n
      · have hsl := Sl.of_own hown
        obtain ⟨b, off, y, hA, _, hy, y0, y1⟩ := hsl.name j hj
        injection hA with hA
        injection hA with hA1 hA2 _
        subst hA1
        subst hA2
        have hjl : j < l.length := by rw [Hl.out]; exact hj
        have hyl : l.drop j = y :: l.drop (j + 1) := by
          have h2 : (kept ++ junk ++ l.drop j).drop j = l.drop j := List.drop_left' (by rw [List.length_append]; exact hE.out.2.1)
          rw [h2] at hy
          have h3 := List.drop_eq_getElem_cons hjl
          rw [h3] at hy
          injection hy with hy _
          rw [h3, hy]
        have hym : y ∈ l := List.mem_of_mem_drop (i := j) (by rw [hyl]; simp)
        have hszb := Nat.le_trans hbase (Nat.le_refl _)
        have hbs : base ≤ wr.heap.size := Nat.le_trans hbase hbel.size
        have hbA : Below base w (wr.alloc (.cells #[.int .i64 y.part, str y.name] 79)) := hbel.alloc hbs _
        have hcl := HP.out (wr.alloc (.cells #[.int .i64 y.part, str y.name] 79)) y hym hbA
        have hbx := box2_newN wr 79 (.int .i64 y.part) (str y.name)
        have hownA := own_below hown ((Below.refl wr.heap.size wr).alloc (Nat.le_refl _) (.cells #[.int .i64 y.part, str y.name] 79))
        have hE2 := hE.out
        rw [hyl] at hE2
        have hrow : kept ++ junk ++ l.drop j = kept ++ junk ++ y :: l.drop (j + 1) := by rw [hyl]
        rw [hrow] at hownA
        have Hrow := Lib.hid hownA
        have hjI : (0 : Int) ≤ j := by omega
        have hjI2 : (j : Int) < n := by omega
        have z0 : wr.cell? ⟨g, j * 2, none⟩ = some (.int .i64 y.part) := by rw [Nat.zero_add] at y0; exact y0
        have z1 : wr.cell? ⟨g, j * 2 + 1, none⟩ = some (str y.name) := by rw [Nat.zero_add] at y1; exact y1
        clear hown hsl hy hyl hownA hrow y0 y1 hym
        cases hpy : p y
        case true =>
          rw [hpy] at hcl
          have Hcl := Lib.hid hcl
          have hF3 : Hid (kept.length = i ∧ kept.length + (junk ++ [y]).length = j + 1 ∧ kept ++ (l.drop (j + 1)).filter (fun x => !p x) = Fl) := by
            refine ⟨hE2.1, by rw [List.length_append]; simp; have := hE2.2.1; omega, ?_⟩
            have := hE2.2.2
            rw [List.filter_cons, if_neg (by simp [hpy])] at this
            exact this
          clear hcl hpy hE2 hE
          go_wp2_with (go_at_fn g0; refine Hcl.out.mono ?_; rintro e w2 ⟨rfl, hb2⟩)
          have hbel2 := hbA.trans (hb2.mono (Nat.le_trans hbase hbA.size))
          have hown2 := own_below Hrow.out hb2
          exact ⟨⟨i, j + 1, kept, junk ++ [y], rfl, by go_num, hF3, by omega, by omega, by simpa using hown2, hbel2⟩, by simp [intOf]; omega⟩
        case false =>
          rw [hpy] at hcl
          have Hcl := Lib.hid hcl
          obtain ⟨k0, js, rfl⟩ : ∃ k0 js, junk = k0 :: js := by
            cases junk with
            | nil => have h1 := hE2.1; have h2 := hE2.2.1; simp at h2; omega
            | cons k0 js => exact ⟨k0, js, rfl⟩
          have hF3 : Hid ((kept ++ [y]).length = i + 1 ∧ (kept ++ [y]).length + (js ++ [y]).length = j + 1 ∧ (kept ++ [y]) ++ (l.drop (j + 1)).filter (fun x => !p x) = Fl) := by
            refine ⟨by simp [hE2.1], ?_, ?_⟩
            · have := hE2.2.1
              simp only [List.length_append, List.length_cons, List.length_nil] at this ⊢
              omega
            · have := hE2.2.2
              rw [List.filter_cons, if_pos (by simp [hpy])] at this
              rw [← this]; simp
          have hsw := nameC_swap kept (js ++ y :: l.drop (j + 1)) k0 y
          rw [hE2.1] at hsw
          have Hsw := Lib.hid hsw
          clear hcl hpy hE2 hE hsw
          have hiI : (0 : Int) ≤ i := by omega
          have hiI2 : (i : Int) < n := by omega
          go_wp2_with (go_at_fn g0; refine Hcl.out.mono ?_; rintro e w2 ⟨rfl, hb2⟩; have hown2 := own_below Hrow.out hb2; have q0 := (hb2.cell (p := ⟨wr.heap.size, 0, none⟩) (by simp)).trans hbx.1; have q1 := (hb2.cell (p := ⟨wr.heap.size, 1, none⟩) (by simp)).trans hbx.2; have f0 := hown2.frozenAt (i * 2); have f1 := hown2.frozenAt (i * 2 + 1); obtain ⟨u0, hu0⟩ : ∃ u, w2.cell? ⟨g, i * 2, none⟩ = some u := ⟨_, (hown2.cellAt (i * 2) (by omega)).trans (List.getElem?_eq_getElem (by rw [hown2.1]; omega))⟩; obtain ⟨u1, hu1⟩ : ∃ u, w2.cell? ⟨g, i * 2 + 1, none⟩ = some u := ⟨_, (hown2.cellAt (i * 2 + 1) (by omega)).trans (List.getElem?_eq_getElem (by rw [hown2.1]; omega))⟩)
          have hbel2 := hbA.trans (hb2.mono (Nat.le_trans hbase hbA.size))
          have hown3 := ((hown2.stored (i * 2) (.int .i64 y.part)).1.stored (i * 2 + 1) (str y.name)).1
          rw [show kept ++ k0 :: js ++ y :: l.drop (j + 1) = kept ++ k0 :: (js ++ y :: l.drop (j + 1)) by simp, Hsw.out] at hown3
          refine ⟨⟨i + 1, j + 1, kept ++ [y], js ++ [y], by go_num, by go_num, hF3, by omega, by omega, ?_, (hbel2.setCell hgb _).setCell hgb _⟩, by simp [intOf]; omega⟩
          simpa using hown3
      · obtain rfl : j = n := by omega
        have hE2 := hE.out
        rw [List.drop_of_length_le (by rw [Hl.out]; exact Nat.le_refl _)] at hown hE2
        simp only [List.filter_nil, List.append_nil] at hown hE2
        obtain ⟨e1, e2, e3⟩ := hE2
        obtain ⟨vs, hclr⟩ : ∃ vs, ∀ ty, (Builtin.clear_ #[26] ty #[.slice (some ⟨g, i * 2, none⟩) (j - i) (c - i)]).run Tryz.prog wr = .ok (.tuple #[]) (wr.setCells g (i * 2) vs) := by
          have h := fun ty => clear_names wr ty g (i * 2) (j - i) (c - i) (by omega) (fun t ht => by rw [hown.cellAt (i * 2 + t) (by omega), List.getElem?_eq_getElem (by rw [hown.1]; omega)]; rfl) (fun t => hown.frozenAt t)
          obtain ⟨vs, h0⟩ := h 0
          exact ⟨vs, fun ty => h0⟩
        have hown2 := own_headN (own_setCellsN vs _ (i * 2) wr hown) (i := i) (by omega)
        rw [setLN_take _ _ _ _ (Nat.le_refl _)] at hown2
        have htk : (nameC (kept ++ junk)).take (i * 2) = nameC Fl := by
          rw [nameC_app, ← e3]
          exact List.take_left' (by rw [nameC_len, e1])
        rw [htk] at hown2
        have hbel2 := below_setCellsN (g := g) hgb vs (i * 2) wr hbel
        have Hown2 := Lib.hid hown2
        have Hk := Lib.hid (show i = Fl.length by rw [← e3, e1])
        have hij0 : (0 : Int) ≤ i := by omega
        have hij1 : (i : Int) ≤ j := by omega
        have hic : (i : Int) < c := by omega
        clear hown hown2 htk e1 e2 e3 hE
        go_wp2_with fail
        go_ret
        exact ⟨some ⟨g, 0, none⟩, i, c, rfl, Hk.out, Hown2.out, hbel2⟩
end Go.Proofs.YtlbdnohnngkapaaGreatDoor

namespace Go.Proofs.YtlbdnohnngkapaaGreatDoor
open Go.RowKit

/-- What holds two parts against one another: of parts ps and qs. -/
def HoldsP (g : Nat) (f : PartD → PartD → Bool) (ps qs : List PartD) (w : World) : Prop :=
  ∀ (W : World) (i : Nat) (p q : PartD) (v u : List Value), ps[i]? = some p → qs[i]? = some q → PartAt (· < W.heap.size) W p v → PartAt (· < W.heap.size) W q u → Below w.heap.size w W →
    Calls Tryz.prog g #[.agg v.toArray, .agg u.toArray] W fun e w' => e = .returned (.bool (f p q)) ∧ Below W.heap.size W w'
theorem drop_get {ps : List PartD} {i : Nat} {p : PartD} (h : ps.drop i = p :: ps.drop (i + 1)) : ps[i]? = some p := by
  have := congrArg (fun l => l[0]?) h
  simpa using this
set_option maxRecDepth 100000 in
set_option maxHeartbeats 1000000 in
theorem EqualFunc_parts (g : Nat) (eg : ∀ args w, (callFunc g args).run Tryz.prog w = .ok (.enter g args) w) (f : PartD → PartD → Bool) (A A' : Option Addr) (n c n' c' B : Nat) (ps qs : List PartD) (w : World)
    (hP : SlP (· < B) w A n ps) (hQ : SlP (· < B) w A' n' qs) (hB : B ≤ w.heap.size) (hm : n ≤ maxLen) (hg : HoldsP g f ps qs w) :
    Calls Tryz.prog 121 #[.slice A n c, .slice A' n' c', .func (.func g) #[] #[]] w fun e w' => e = .returned (.bool (all2 f ps qs)) ∧ Below w.heap.size w w' := by
  have hl := hP.len
  have hl' := hQ.len
  have h1 := all2_len f ps qs
  have h2 := all2_miss f ps qs
  have h3 := all2_hit f ps qs
  generalize all2 f ps qs = R at h1 h2 h3 ⊢
  unfold maxLen at hm
  by_cases hnn : n = n'
  · subst hnn
    have Hl := Lib.hid hl
    have Hl' := Lib.hid hl'
    have H2 := Lib.hid h2
    have H3 := Lib.hid h3
    have Hg := Lib.hid hg
    have HP := Lib.hid hP
    have HQ := Lib.hid hQ
    have hne : ((n : Int) != n) = false := by simp
    clear h1 h2 h3 hl hl' hg hP hQ
    go_enter Tryz.func121, Tryz.ntmps121
    go_wp2_with fail
    go_loopw [17] (fun iv wr => ∃ i : Nat, iv = .int .i64 (i : Nat) ∧ i ≤ n ∧ Below w.heap.size w wr ∧ Hid (∀ (j : Nat) (p q : PartD), j < i → ps[j]? = some p → qs[j]? = some q → f p q = true)) (fun iv _ => n - (intOf iv).toNat)
    case atStart => exact ⟨0, rfl, Nat.zero_le _, Below.refl _ _, Lib.hid fun j p q h => absurd h (by omega)⟩
    case round =>
      obtain ⟨i, rfl, hi, hbel, hz⟩ := hrel
      by_cases hin : i < n
      · have hPr := HP.out.below (hbel.mono hB)
        obtain ⟨b, off, p, B1, m1, d1, B2, m2, d2, rfl, hbS, hp, hpa, x0, x1, x2, x3, x4, x5, x6⟩ := hPr.cells7 hin
        have hbs := hbel.size
        have hbelA := hbel.alloc hbs (.cells #[str p.type, str p.cs, str p.id, str p.loc, .int .i64 p.how, .slice B1 m1 d1, .slice B2 m2 d2] 25)
        have hQr := HQ.out.below (hbelA.mono hB)
        obtain ⟨b', off', q, B3, m3, d3, B4, m4, d4, rfl, hbS', hq, hqa, y0, y1, y2, y3, y4, y5, y6⟩ := hQr.cells7 hin
        have hp := drop_get hp
        have hq := drop_get hq
        have hbelB := (hbel.alloc hbs (.cells #[str p.type, str p.cs, str p.id, str p.loc, .int .i64 p.how, .slice B1 m1 d1, .slice B2 m2 d2] 25)).alloc (Nat.le_trans hbs (by simp)) (.cells #[str q.type, str q.cs, str q.id, str q.loc, .int .i64 q.how, .slice B3 m3 d3, .slice B4 m4 d4] 25)
        have hbB2 := ((Below.refl wr.heap.size wr).alloc (Nat.le_refl _) (.cells #[str p.type, str p.cs, str p.id, str p.loc, .int .i64 p.how, .slice B1 m1 d1, .slice B2 m2 d2] 25)).alloc (by simp) (.cells #[str q.type, str q.cs, str q.id, str q.loc, .int .i64 q.how, .slice B3 m3 d3, .slice B4 m4 d4] 25)
        have hbsB := hbelB.size
        have cS := Hg.out _ i p q _ _ hp hq ((hpa.belowN hbB2 (Nat.le_trans hB hbs)).more (Nat.le_trans hB hbsB)) ((hqa.belowN ((Below.refl _ _).alloc (Nat.le_refl _) _) (Nat.le_trans hB hbelA.size)).more (Nat.le_trans hB hbsB)) hbelB
        have hmiss := H2.out i p q hp hq
        have Hp := Lib.hid hp
        have Hq := Lib.hid hq
        clear hp hq hpa hqa hPr hQr
        by_cases hf : f p q = true
        · rw [hf] at cS
          have Hf := Lib.hid hf
          have CS := Lib.hid cS
          clear hf cS hmiss
          go_wp2_with (go_at_fn g; refine CS.out.mono ?_; rintro e w1 ⟨rfl, hb1⟩)
          refine ⟨⟨i + 1, by go_num, by omega, hbelB.trans (hb1.mono hbelB.size), Lib.hid fun j p' q' hj hp' hq' => ?_⟩, by simp [intOf]; omega⟩
          rcases Nat.lt_or_ge j i with h | h
          · exact hz.out j p' q' h hp' hq'
          · obtain rfl : j = i := by omega
            rw [Hp.out] at hp'
            rw [Hq.out] at hq'
            injection hp' with hp'
            injection hq' with hq'
            rw [← hp', ← hq']; exact Hf.out
        · have hf' : f p q = false := by simpa using hf
          rw [hf'] at cS
          have hr : Hid (R = false) := hmiss hf'
          have CS := Lib.hid cS
          clear hf hf' cS hmiss
          go_wp2_with (go_at_fn g; refine CS.out.mono ?_; rintro e w1 ⟨rfl, hb1⟩)
          go_ret
          exact ⟨by rw [hr.out]; rfl, hbelB.trans (hb1.mono hbelB.size)⟩
      · obtain rfl : i = n := by omega
        have hr : Hid (R = true) := H3.out (by rw [Hl.out, Hl'.out]) fun j p q hp hq => hz.out j p q (by
          rcases Nat.lt_or_ge j ps.length with h | h
          · rw [Hl.out] at h; exact h
          · rw [List.getElem?_eq_none h] at hp; cases hp) hp hq
        go_wp2_with fail
        go_ret
        exact ⟨by rw [hr.out]; rfl, hbel⟩
  · have hr : Hid (R = false) := h1 (by rw [hl, hl']; exact hnn)
    have hne : ((n : Int) != n') = true := by simp; omega
    clear h1 h2 h3 hg hP hQ hl hl'
    go_enter Tryz.func121, Tryz.ntmps121
    go_wp2_with fail
    go_ret
    exact ⟨by rw [hr.out]; rfl, Below.refl _ _⟩
end Go.Proofs.YtlbdnohnngkapaaGreatDoor

namespace Go.Proofs.YtlbdnohnngkapaaGreatDoor

/-- The 64 letters. -/
def letters : List UInt8 := [65, 66, 67, 68, 69, 70, 71, 72, 73, 74, 75, 76, 77, 78, 79, 80, 81, 82, 83, 84, 85, 86, 87, 88, 89, 90, 97, 98, 99, 100, 101, 102, 103, 104, 105, 106, 107, 108, 109, 110, 111, 112, 113, 114, 115, 116, 117, 118, 119, 120, 121, 122, 48, 49, 50, 51, 52, 53, 54, 55, 56, 57, 43, 47]
theorem letters_len : letters.length = 64 := by decide

/-- Three bytes as one number; what lacks is 0. -/
def val3 (l : List UInt8) : Nat := nth l 0 * 65536 + nth l 1 * 256 + nth l 2
/-- The number behind i rounds. -/
def valTo (l : List UInt8) : Nat → Nat
  | 0 => 0
  | i + 1 => valTo l i * 256 + nth l i
theorem valTo_three (l : List UInt8) : valTo l 3 = val3 l := by simp only [valTo, val3]; omega
theorem valTo_lt (l : List UInt8) (i : Nat) : valTo l i < 256 ^ i := by
  induction i with
  | zero => simp [valTo]
  | succ i ih =>
    have := nth_lt l i
    simp only [valTo, Nat.pow_succ]
    omega
/-- Letter i of four, of n bytes with the number v. -/
def quadL (n v i : Nat) : UInt8 := if n < i then 61 else letters.getD (v / 2 ^ (18 - 6 * i) % 64) 0
def quad (l : List UInt8) : List UInt8 := (List.range 4).map (quadL (min 3 l.length) (val3 l))
def brk (wide : Nat) : List UInt8 := if wide = 76 then [13, 10] else []
def after (wide : Nat) : Nat := if wide = 76 then 4 else wide + 4
/-- base.Text, where so many letters stand in the line already. -/
def enc (wide : Nat) (l : List UInt8) : List UInt8 :=
  match l with
  | [] => []
  | a :: t => brk wide ++ quad (a :: t) ++ enc (after wide) (t.drop 2)
termination_by l.length
decreasing_by simp; omega
theorem enc_nil (wide : Nat) : enc wide [] = [] := by rw [enc]
theorem enc_step (wide : Nat) (l : List UInt8) (h : 0 < l.length) : enc wide l = brk wide ++ quad l ++ enc (after wide) (l.drop (min 3 l.length)) := by
  cases l with
  | nil => simp at h
  | cons a t =>
    rw [enc]
    congr 2
    match t with
    | [] => rfl
    | [_] => rfl
    | _ :: _ :: t' => simp [Nat.min_def]
theorem quad_len (l : List UInt8) : (quad l).length = 4 := by simp [quad]
theorem quad_take (l : List UInt8) (i : Nat) (h : i < 4) : (quad l).take (i + 1) = (quad l).take i ++ [quadL (min 3 l.length) (val3 l) i] := by
  rw [List.take_succ_eq_append_getElem (by rw [quad_len]; exact h)]
  simp [quad]
theorem quadL_gt {n v i : Nat} (h : n < i) : quadL n v i = 61 := by simp [quadL, h]
theorem quadL_le {n v i : Nat} (h : ¬ n < i) : quadL n v i = UInt8.ofNat (nth letters (v / 2 ^ (18 - 6 * i) % 64)) := by simp [quadL, h, nth]
theorem enc_len (k : Nat) : ∀ (wide : Nat) (l : List UInt8), l.length ≤ k → (enc wide l).length ≤ 6 * l.length := by
  induction k with
  | zero => intro wide l h; have : l = [] := List.eq_nil_of_length_eq_zero (by omega); subst this; simp [enc_nil]
  | succ k ih =>
    intro wide l h
    rcases Nat.eq_zero_or_pos l.length with h0 | h0
    · have : l = [] := List.eq_nil_of_length_eq_zero h0; subst this; simp [enc_nil]
    · rw [enc_step wide l h0]
      have hb : (brk wide).length ≤ 2 := by unfold brk; split <;> simp
      have := ih (after wide) (l.drop (min 3 l.length)) (by simp; omega)
      simp only [List.length_append, quad_len, List.length_drop] at this ⊢
      omega
end Go.Proofs.YtlbdnohnngkapaaGreatDoor

namespace Go.Proofs.YtlbdnohnngkapaaGreatDoor
open Go.RowKit

/-- 'b[k:]' at []byte. -/
theorem cut_bytes (w : World) (A : Option Addr) (n c : Nat) (ki : IntKind) (k : Int) (h0 : 0 ≤ k) (h1 : k ≤ n) :
    (Instr.slice 22 (.slice A n c) (some (.int ki k)) none none).run Tryz.prog w = .ok (.slice (cutA A c k.toNat 1) (n - k.toNat) (c - k.toNat)) w :=
  run_cut w _ _ 1 Tryz.underlying22 (Tryz.sizeOf5 w) A n c ki k h0 h1

attribute [local go_sem high] cut_bytes

/-! ### slices.Equal at []byte -/
theorem take_step (l l' : List UInt8) (k : Nat) (h : k < l.length) (h' : k < l'.length) (ht : l.take k = l'.take k) (hn : nth l k = nth l' k) : l.take (k + 1) = l'.take (k + 1) := by
  rw [List.take_succ_eq_append_getElem h, List.take_succ_eq_append_getElem h', ht]
  rw [nth_of l k h, nth_of l' k h'] at hn
  rw [UInt8.toNat_inj.1 hn]
theorem ne_of_nth (l l' : List UInt8) (k : Nat) (hn : nth l k ≠ nth l' k) : (l == l') = false := by
  rw [beq_eq_false_iff_ne]; rintro rfl; exact hn rfl
set_option maxHeartbeats 400000 in
theorem Equal_bytes (A A' : Option Addr) (n c n' c' : Nat) (B B' : Nat) (l l' : List UInt8) (w : World) (hb : By w B A n l) (hb' : By w B' A' n' l') (hm : n ≤ maxLen) :
    Calls Tryz.prog 31 #[.slice A n c, .slice A' n' c'] w fun e w' => e = .returned (.bool (l == l')) ∧ ∃ q, w' = w.drewN q := by
  unfold maxLen at hm
  by_cases hnn : n = n'
  · subst hnn
    have hl := hb.len
    have hl' := hb'.len
    have Hl := Lib.hid hl; have Hl' := Lib.hid hl'
    clear hl hl'
    go_enter Tryz.func31, Tryz.ntmps31
    go_wp2_with fail
    go_loopw [13] (fun iv wr => ∃ k q : Nat, k ≤ n ∧ iv = .int .i64 k ∧ Hid (l.take k = l'.take k) ∧ wr = w.drewN q) (fun iv _ => n - (intOf iv).toNat)
    case atStart => exact ⟨0, 0, by omega, rfl, rfl, rfl⟩
    case round =>
      obtain ⟨k, q, hk, rfl, ht, rfl⟩ := hrel
      by_cases hkn : k < n
      · obtain ⟨b, off, rfl, _, hc⟩ := hb.at_ hkn
        obtain ⟨b', off', rfl, _, hc'⟩ := hb'.at_ hkn
        by_cases hx : nth l k = nth l' k
        · have hd : ((nth l k : Int) != (nth l' k : Int)) = false := by simp [hx]
          have Hx := Lib.hid hx; clear hx
          go_wp2_with fail
          go_quiet (fail)
          go_wp2_with fail
          exact ⟨⟨k + 1, _, by omega, by go_num, take_step l l' k (by rw [Hl.out]; exact hkn) (by rw [Hl'.out]; exact hkn) ht.out Hx.out, rfl⟩, by simp [intOf]; omega⟩
        · have hd : ((nth l k : Int) != (nth l' k : Int)) = true := by simp; omega
          have Hx := Lib.hid (ne_of_nth l l' k hx)
          clear hx
          go_wp2_with fail
          go_quiet (fail)
          go_wp2_with fail
          go_ret
          exact ⟨by rw [Hx.out]; rfl, _, World.drewN_drewN _ _ _⟩
      · go_wp2_with fail
        go_ret
        have : l = l' := by
          have h := ht.out
          rwa [List.take_of_length_le (by rw [Hl.out]; omega), List.take_of_length_le (by rw [Hl'.out]; omega)] at h
        exact ⟨by rw [this]; simp, _, rfl⟩
  · have hd : ((n : Int) != (n' : Int)) = true := by simp; omega
    have hll : (l == l') = false := by
      rw [beq_eq_false_iff_ne]
      rintro rfl
      exact hnn (hb.len.symm.trans hb'.len)
    have Hll := Lib.hid hll; clear hll
    go_enter Tryz.func31, Tryz.ntmps31
    go_wp2_with fail
    go_ret
    exact ⟨by rw [Hll.out]; rfl, 0, rfl⟩
end Go.Proofs.YtlbdnohnngkapaaGreatDoor

namespace Go.Proofs.YtlbdnohnngkapaaGreatDoor
open Go.RowKit

set_option maxRecDepth 100000 in
set_option maxHeartbeats 1000000 in
theorem Same_any (k : Nat) : ∀ (p q : PartD) (v u : List Value) (w : World), (flatD p).length ≤ k → PartAt (· < w.heap.size) w p v → PartAt (· < w.heap.size) w q u →
    Calls Tryz.prog 47 #[.agg v.toArray, .agg u.toArray] w fun e w' => e = .returned (.bool (sameD p q)) ∧ Below w.heap.size w w' := by
  induction k with
  | zero => intro p q v u w h; rw [flatD_eq] at h; simp at h
  | succ k ih =>
    intro p q v u w hk hp hq
    have hs := sameD_eq p q
    have hfl : ∀ x ∈ p.parts, (flatD x).length ≤ k := by
      intro x hx
      obtain ⟨i, hi, rfl⟩ := List.getElem_of_mem hx
      have h1 := (flatsD_get p.parts i hi).1
      rw [flatD_eq] at hk
      simp at hk
      omega
    obtain ⟨A, c, A2, c2, rfl, hbd, hby, hbc, hcm, hP, hc2, hcm2⟩ := hp.open
    obtain ⟨A', c', A2', c2', rfl, hbd', hby', hbc', hcm', hP', hc2', hcm2'⟩ := hq.open
    have cE := fun (W : World) (hb : Below w.heap.size w W) => Equal_bytes A A' p.body.length c q.body.length c' w.heap.size w.heap.size p.body q.body W (Sl.below hby hb) (Sl.below hby' hb) (Nat.le_trans hbc hcm)
    have cF := fun (W : World) (hb : Below w.heap.size w W) => EqualFunc_parts 47 (enters_of Tryz.func47 (by kernel_rfl) rfl) sameD A2 A2' p.parts.length c2 q.parts.length c2' w.heap.size p.parts q.parts W (hP.below hb) (hP'.below hb) hb.size (Nat.le_trans hc2 hcm2)
      (fun W1 i x y vx vy hx hy hxa hya hb1 => ih x y vx vy W1 (hfl x (List.mem_of_getElem? hx)) hxa hya)
    rw [hs]
    unfold oneSame
    generalize all2 sameD p.parts q.parts = r7 at cF ⊢
    have CE := Lib.hid cE
    have CF := Lib.hid cF
    clear ih hfl hk hs cE cF hp hq hP hP' hby hby' hbd hbd'
    go_enter Tryz.func47, Tryz.ntmps47
    go_wp2_with fail
    case' _ =>
      refine (CE.out _ (((Below.refl _ w).alloc (Nat.le_refl _) _).alloc (by simp) _)).mono ?_
      generalize h6 : (p.body == q.body) = r6
      have H6 := Lib.hid h6
      clear h6
      rintro e w1 ⟨rfl, q1, rfl⟩
      cases r6
    all_goals try go_wp2_with fail
    case' _ =>
      go_ret
      exact ⟨by rw [H6.out]; simp, belN (((Below.refl _ w).alloc (Nat.le_refl _) _).alloc (by simp) _) q1⟩
    case' _ =>
      have hb := belN (((Below.refl _ w).alloc (Nat.le_refl _) (.cells #[str q.type, str q.cs, str q.id, str q.loc, .int .i64 q.how, .slice A p.body.length c, .slice A2 p.parts.length c2] 25)).alloc (by simp) (.cells #[str q.type, str q.cs, str q.id, str q.loc, .int .i64 q.how, .slice A' q.body.length c', .slice A2' q.parts.length c2'] 25)) q1
      refine (CF.out _ hb).mono ?_
      rintro e w2 ⟨rfl, hb2⟩
      go_wp2_with fail
      go_ret
      refine ⟨?_, hb.trans (hb2.mono hb.size)⟩
      rw [H6.out]
      simp [*]
    all_goals
      go_ret
      refine ⟨?_, (((Below.refl _ w).alloc (Nat.le_refl _) _).alloc (by simp) _)⟩
      simp [*]
end Go.Proofs.YtlbdnohnngkapaaGreatDoor

namespace Go.Proofs.YtlbdnohnngkapaaGreatDoor
open Go.RowKit

theorem rn11 (x : GoalD) (b : Nat) (k : Int) (w : World) (hc : w.cell? ⟨b, 0, none⟩ = some (.int .i64 k)) (hlt : b < w.heap.size) :
    Calls Tryz.prog 55 #[.agg (goalCells x).toArray, .pointer (some ⟨b, 0, none⟩)] w fun e w' => e = .returned (.bool (x.find == k)) ∧ Below w.heap.size w w' := by
  have hbl : Below w.heap.size w (w.alloc (.cells #[.int .i64 (x.part : Nat), .int .i64 (x.l.frm : Nat), .int .i64 (x.l.til : Nat), str x.l.text, str x.goal, .int .i64 x.find] 55)) := (Below.refl _ w).alloc (Nat.le_refl _) _
  obtain ⟨W, hW⟩ : ∃ W, W = w.alloc (.cells #[.int .i64 (x.part : Nat), .int .i64 (x.l.frm : Nat), .int .i64 (x.l.til : Nat), str x.l.text, str x.goal, .int .i64 x.find] 55) := ⟨_, rfl⟩
  have gb : GB W w.heap.size x := by rw [hW]; exact heap_alloc_new w _
  rw [← hW] at hbl
  have c0 : W.cell? ⟨b, 0, none⟩ = some (.int .i64 k) := (hbl.cell (by exact hlt)).trans hc
  have ⟨g0, g1, g2, g3, g4, g5⟩ := gb.box
  show Calls _ _ #[.agg #[.int .i64 (x.part : Nat), .int .i64 (x.l.frm : Nat), .int .i64 (x.l.til : Nat), str x.l.text, str x.goal, .int .i64 x.find], _] w _
  have Hbl := Lib.hid hbl
  clear hbl gb hc
  go_enter Tryz.func55, Tryz.ntmps55
  go_upto_region 1 with fail
  rw [← hW]
  clear hW
  go_wp2_with fail
  go_ret
  exact ⟨rfl, Hbl.out⟩
theorem rn1 (n : NameD) (gb : Nat) (S : Option Addr) (m c B : Nat) (gs : List GoalD) (w : World) (hc : w.cell? ⟨gb, 0, none⟩ = some (.slice S m c)) (hlt : gb < w.heap.size) (hs : Sl w B 6 S m (goalC gs)) (hB : B ≤ w.heap.size) (hm : m ≤ maxLen) :
    Calls Tryz.prog 53 #[.agg #[.int .i64 n.part, str n.name], .pointer (some ⟨gb, 0, none⟩)] w fun e w' => e = .returned (.bool (gs.any (fun g => g.find == n.part))) ∧ Below w.heap.size w w' := by
  obtain ⟨W, hW⟩ : ∃ W, W = w.alloc (.cells #[.int .i64 n.part, str n.name] 79) := ⟨_, rfl⟩
  have hbl : Below w.heap.size w W := by rw [hW]; exact (Below.refl _ w).alloc (Nat.le_refl _) _
  have hsz : w.heap.size < W.heap.size := by rw [hW]; simp
  have x0 : W.cell? ⟨w.heap.size, 0, none⟩ = some (.int .i64 n.part) := by rw [hW]; exact (box2_newN w _ _ _).1
  have c0 : W.cell? ⟨gb, 0, none⟩ = some (.slice S m c) := (hbl.cell (by exact hlt)).trans hc
  have hk := ContainsFunc_Goal 55 #[.pointer (some ⟨w.heap.size, 0, none⟩)] (enters_of Tryz.func55 (by kernel_rfl) rfl) (fun g => g.find == n.part) S m c w.heap.size gs W ((Sl.more hs hB).below hbl) hbl.size hm
    (fun W' x hb => rn11 x w.heap.size n.part W' ((hb.cell (by exact hsz)).trans x0) (Nat.lt_of_lt_of_le hsz hb.size))
  have Hk := Lib.hid hk
  have Hbl := Lib.hid hbl
  clear hk hbl hs hc x0
  go_enter Tryz.func53, Tryz.ntmps53
  go_upto_region 1 with fail
  rw [← hW]
  clear hW
  go_wp2_with fail
  refine Hk.out.mono ?_
  rintro e w1 ⟨rfl, hb1⟩
  go_wp2_with fail
  go_ret
  exact ⟨rfl, Hbl.out.trans (hb1.mono Hbl.out.size)⟩
end Go.Proofs.YtlbdnohnngkapaaGreatDoor

namespace Go.Proofs.YtlbdnohnngkapaaGreatDoor
open Go.RowKit

theorem few_none (gs : List GoalD) (ns : List NameD) : ∀ g ∈ gs, ofN (ns.filter (fun n => !(gs.any (fun g => g.find == n.part)))) g.find = [] := by
  intro g hg
  refine ofN_none _ _ fun n hn hk => ?_
  have := (List.mem_filter.1 hn).2
  rw [show gs.any (fun g => g.find == n.part) = true from List.any_eq_true.2 ⟨g, hg, by simp [hk]⟩] at this
  cases this
theorem few_codes (p : PartD) (gs : List GoalD) (ns : List NameD) (hc : checkD p = 0) (hg : goalsE p = (gs, 0)) : ∃ q k, namesE p (ns.filter (fun n => !(gs.any (fun g => g.find == n.part)))) = (q, k) ∧ (k = 5 ∨ k = 1 ∨ k = 6 ∨ (k = 0 ∧ q = p)) := by
  have h := names_none p (ns.filter (fun n => !(gs.any (fun g => g.find == n.part)))) hc (by rw [hg]) (by rw [hg]; exact few_none gs ns)
  have h2 := namesF_codes (flatD p).length (ns.filter (fun n => !(gs.any (fun g => g.find == n.part)))) []
  refine ⟨(namesE p (ns.filter (fun n => !(gs.any (fun g => g.find == n.part))))).1, (namesE p (ns.filter (fun n => !(gs.any (fun g => g.find == n.part))))).2, rfl, ?_⟩
  rw [h]
  split
  · exact .inr (.inr (.inr ⟨rfl, rfl⟩))
  · rcases h2 with h2 | h2 | h2 | h2
    · rename_i h3; exact absurd h2 h3
    · exact .inl h2
    · exact .inr (.inl h2)
    · exact .inr (.inr (.inl h2))
theorem none_ok (p : PartD) (h : (namesE p []).2 = 0) : namesE p [] = (p, 0) ∧ checkD p = 0 ∧ ∃ gs, goalsE p = (gs, 0) := by
  obtain ⟨hc, _, hg, _⟩ := namesE_parts h
  refine ⟨?_, hc, (goalsE p).1, ?_⟩
  · rw [names_none p [] hc hg (fun _ _ => rfl)]; rfl
  · rw [← hg]
theorem NamesOk.filter {ns : List NameD} (h : NamesOk ns) (f : NameD → Bool) : NamesOk (ns.filter f) := fun x hx => h x (List.mem_filter.1 hx).1
set_option maxRecDepth 100000 in
set_option maxHeartbeats 4000000 in
theorem rewriteNone_walk (p : PartD) (v : List Value) (NA : Option Addr) (nn nc : Nat) (ns : List NameD) (w : World) (hM : MaxLenOk w) (hp : PartAt (· < w.heap.size) w p v) (hns : Sl w w.heap.size 2 NA nn (nameC ns)) (hnn : nn * 24 ≤ 140737488351232) (hok0 : NamesOk ns) :
    Calls Tryz.prog 9 #[.agg v.toArray, .slice NA nn nc] w fun e w' => e = .returned (.bool true) ∧ Below w.heap.size w w' := by
  have hN0 := fun W h1 h2 => Names_any p v none 0 0 [] W h1 h2 (Sl.nil_ _ _ _ _) (Nat.le_refl _) (by decide) (by intro x hx; cases hx)
  have hgl := fun W hM h => Goals_any p v W hM h
  unfold NamesOut at hN0
  unfold GoalsOut at hgl
  obtain ⟨A, c, A2, c2, rfl, _⟩ := hp.open
  obtain ⟨W, hW⟩ : ∃ W, W = w.alloc (.cells #[str p.type, str p.cs, str p.id, str p.loc, .int .i64 p.how, .slice A p.body.length c, .slice A2 p.parts.length c2] 25) := ⟨_, rfl⟩
  have hbW : Below w.heap.size w W := by rw [hW]; exact (Below.refl _ w).alloc (Nat.le_refl _) _
  have hbx : Box7 W w.heap.size (str p.type) (str p.cs) (str p.id) (str p.loc) (.int .i64 p.how) (.slice A p.body.length c) (.slice A2 p.parts.length c2) := by rw [hW]; exact Box7.new w _ _ _ _ _ _ _ _
  have hwW : w.heap.size < W.heap.size := by rw [hW]; simp
  have HN0 := Lib.hid hN0
  have Hgl := Lib.hid hgl
  have Hp := Lib.hid hp
  have HM := Lib.hid hM
  have Hns := Lib.hid hns
  have Hok0 := Lib.hid hok0
  clear hN0 hgl hp hM hns hok0
  by_cases he : (namesE p []).2 = 0
  · obtain ⟨e0, hc, gs, hg⟩ := none_ok p he
    obtain ⟨q8, k8, hq8, hk8⟩ := few_codes p gs ns hc hg
    rw [e0] at HN0
    rw [hg] at Hgl
    simp only at HN0 Hgl
    have hgcap : gs.length ≤ 720 := by
      have hgd := goalsE_zero (p := p) hc (by rw [hg])
      rw [hg] at hgd
      have h12 := (checkD_ok p hc).1
      have := goalsF_len _ _ _ _ _ _ _ (show goalsF (flatD p) (whereD p) (flatD p) (whereD p) 0 [] = some gs from hgd)
      simp only [List.length_nil] at this
      omega
    obtain ⟨few, hfew⟩ : ∃ few, few = ns.filter (fun n => !(gs.any (fun g => g.find == n.part))) := ⟨_, rfl⟩
    rw [← hfew] at hq8
    have hnm8 := fun (W : World) A' n c' h1 h2 h3 h4 h5 => Names_any p [str p.type, str p.cs, str p.id, str p.loc, .int .i64 p.how, .slice A p.body.length c, .slice A2 p.parts.length c2] A' n c' few W h1 h2 h3 h4 h5 (by rw [hfew]; exact Hok0.out.filter _)
    unfold NamesOut at hnm8
    rw [hq8] at hnm8
    simp only at hnm8
    have Hnm8 := Lib.hid hnm8
    have Hfew := Lib.hid hfew
    have Hk8 := Lib.hid hk8
    obtain ⟨m, hm⟩ : ∃ m, m = gs.length := ⟨_, rfl⟩
    rw [← hm] at Hgl hgcap
    have ⟨x0, x1, x2, x3, x4, x5, x6⟩ := hbx
    clear hnm8 hfew hk8 hq8 e0 hc hg he hm
    go_enter Tryz.func9, Tryz.ntmps9
    go_wp2_with fail
    rw [← hW]
    clear hW
    refine (HN0.out W (HM.out.below hbW) ((Hp.out.below hbW).more hbW.size)).mono ?_
    rintro e w1 ⟨v1, rfl, hp1, hb1⟩
    obtain ⟨A1, c1, A3, c3, rfl, _⟩ := hp1.open
    have hb1' := hbW.trans (hb1.mono hbW.size)
    have hw1' : w.heap.size < w1.heap.size := Nat.lt_of_lt_of_le hwW hb1.size
    have Hw1 := Lib.hid hw1'
    have hbx1 := hbx.below hb1
    obtain ⟨W1, hW1⟩ : ∃ W1, W1 = w1.alloc (.cells #[str p.type, str p.cs, str p.id, str p.loc, .int .i64 p.how, .slice A1 p.body.length c1, .slice A3 p.parts.length c3] 25) := ⟨_, rfl⟩
    have hbA : Below w1.heap.size w1 W1 := by rw [hW1]; exact (Below.refl _ _).alloc (Nat.le_refl _) _
    have hby1 : BoxF W1 w1.heap.size (str p.type) (str p.cs) (str p.id) (str p.loc) (.int .i64 p.how) (.slice A1 p.body.length c1) (.slice A3 p.parts.length c3) := BoxF.of_block (t := 25) (by rw [hW1]; exact heap_alloc_new w1 _)
    have hsA : w1.heap.size < W1.heap.size := by rw [hW1]; simp
    have hbx2 := hbx1.below hbA
    have hb2 := hb1'.trans (hbA.mono hb1'.size)
    have hr2 := Lib.hid (renamed_any W1 (HM.out.below hb2))
    have Hb2 := Lib.hid hb2
    have Hp1 := Lib.hid (PartAt.change (S' := fun b => b < W1.heap.size) (w' := W1) (fun b hb => by omega) (fun q hq => hbA.cell hq.2) _ _ hp1)
    clear x0 x1 x2 x3 x4 x5 x6 hbx hb1 hb1' hbA hb2 hp1 hbx1 hbW HN0
    go_upto_region 2 with fail
    rw [← hW1]
    clear hW1
    go_wp2_with fail
    refine hr2.out.mono ?_
    rintro e w2 ⟨rfl, hb3⟩
    have hb4 := Hb2.out.trans (hb3.mono Hb2.out.size)
    have hbx3 := hbx2.below hb3
    have hby3 := hby1.below hb3 hsA
    have ⟨x0, x1, x2, x3, x4, x5, x6⟩ := hbx3
    have Hp2 := Lib.hid ((Hp1.out.below hb3).more hb3.size)
    have hs2 : w1.heap.size < w2.heap.size := Nat.lt_of_lt_of_le hsA hb3.size
    have HglW := Lib.hid (Hgl.out w2 (HM.out.below hb4) ((Hp.out.below hb4).more hb4.size))
    have Hb4 := Lib.hid hb4
    clear hb3 hb4 hbx2 hby1 hsA hr2 Hp1 Hb2 Hgl
    go_wp2_with fail
    refine HglW.out.mono ?_
    rintro e w3 ⟨S2, cg, rfl, hown3, hb5⟩
    obtain ⟨W3, hW3⟩ : ∃ W3, W3 = w3.alloc (.cells #[.slice S2 m cg] 45) := ⟨_, rfl⟩
    have hbA : Below w3.heap.size w3 W3 := by rw [hW3]; exact (Below.refl _ _).alloc (Nat.le_refl _) _
    have hg3 : W3.cell? ⟨w3.heap.size, 0, none⟩ = some (.slice S2 m cg) := by
      rw [hW3]
      unfold World.cell?
      rw [heap_alloc_new w3 _]
      rfl
    have hsA : w3.heap.size < W3.heap.size := by rw [hW3]; simp
    have hb6 := hb5.trans (hbA.mono hb5.size)
    have hbx4 := hbx3.below hb6
    have hby4 := hby3.below hb6 hs2
    have Hsg := Lib.hid (Sl.below (Sl.of_own hown3) hbA)
    have hb7 := Hb4.out.trans (hb6.mono Hb4.out.size)
    have hp3 := (Hp.out.below hb7).more hb7.size
    have hq3 := (Hp2.out.below hb6).more hb6.size
    have hsm := Same_any (flatD p).length p p _ _ W3 (Nat.le_refl _) hp3 hq3
    rw [sameD_refl] at hsm
    have Hsm := Lib.hid hsm
    have hs3 : w1.heap.size < W3.heap.size := by have := hb6.size; omega
    have Hb7 := Lib.hid hb7
    clear x0 x1 x2 x3 x4 x5 x6 hbx3 hby3 hb5 hb6 hbA hb7 hp3 hq3 hsm hown3 HglW Hp2 Hb4 hs2
    go_upto_region 5 with fail
    rw [← hW3]
    clear hW3
    have ⟨x0, x1, x2, x3, x4, x5, x6⟩ := hbx4
    obtain ⟨⟨y0, y1, y2, y3, y4, y5, y6⟩, _⟩ := id hby4
    go_wp2_with fail
    refine Hsm.out.mono ?_
    rintro e w4 ⟨rfl, hb8⟩
    have hb9 := Hb7.out.trans (hb8.mono Hb7.out.size)
    have hbx5 := hbx4.below hb8
    have hby5 := hby4.below hb8 hs3
    have hg4 := (hb8.cell (p := ⟨w3.heap.size, 0, none⟩) hsA).trans hg3
    have Hsg4 := Lib.hid (Sl.below Hsg.out (hb8.mono (Nat.le_of_lt hsA)))
    have hs4 : w1.heap.size < w4.heap.size := Nat.lt_of_lt_of_le hs3 hb8.size
    have hsg4 : w3.heap.size < w4.heap.size := Nat.lt_of_lt_of_le hsA hb8.size
    have hcl := Clone_Name NA nn nc w.heap.size (nameC ns) w4 (Sl.below Hns.out hb9) hb9.size (nameC_one ns) hnn
    have Hcl := Lib.hid hcl
    have Hb9 := Lib.hid hb9
    clear x0 x1 x2 x3 x4 x5 x6 y0 y1 y2 y3 y4 y5 y6 hbx4 hby4 hb8 hb9 hcl hg3 hs3 hsA Hsm Hsg
    go_wp2_with fail
    refine Hcl.out.mono ?_
    rintro e w5 ⟨Sc, cc, rfl, hown5, hb10⟩
    have hdl := DeleteFunc_names w4.heap.size 53 #[.pointer (some ⟨w3.heap.size, 0, none⟩)] (enters_of Tryz.func53 (by kernel_rfl) rfl) (fun n => gs.any (fun g => g.find == n.part)) ns Sc nn cc w5 hown5 hb10.size hnn
      (fun X x _ hX => by
        have hb := hb10.trans hX
        exact rn1 x w3.heap.size S2 m cg w3.heap.size gs X ((hb.cell (p := ⟨w3.heap.size, 0, none⟩) hsg4).trans hg4) (by have := hb.size; omega) (Sl.below Hsg4.out (hb.mono (Nat.le_of_lt hsg4))) (by have := hb.size; omega) (by unfold maxLen; omega))
    rw [← Hfew.out] at hdl
    have Hdl := Lib.hid hdl
    have Hb10 := Lib.hid hb10
    clear hdl hown5 hb10 Hcl
    go_wp2_with fail
    refine Hdl.out.mono ?_
    rintro e w6 ⟨Sd, kd, cd, rfl, hkd, hown6, hb11⟩
    have hb12 := Hb10.out.trans hb11
    have hb13 := Hb9.out.trans (hb12.mono Hb9.out.size)
    have hbx6 := hbx5.below hb12
    have hby6 := hby5.below hb12 hs4
    have hs6 : w1.heap.size < w6.heap.size := Nat.lt_of_lt_of_le hs4 hb12.size
    have hn8 := Hnm8.out w6 Sd kd cd (HM.out.below hb13) ((Hp.out.below hb13).more hb13.size) (Sl.of_own hown6) (own_cap hown6) (own_capmax hown6)
    have Hn8 := Lib.hid hn8
    have Hb13 := Lib.hid hb13
    have ⟨x0, x1, x2, x3, x4, x5, x6⟩ := hbx6
    clear hbx5 hby5 hb11 hb12 hb13 hn8 hown6 hkd hg4 hs4 hsg4 Hdl Hb10 Hnm8
    go_wp2_with fail
    refine Hn8.out.mono ?_
    rintro e w7 ⟨v7, rfl, hp7, hb14⟩
    obtain ⟨A8, c8, A9, c9, rfl, _⟩ := hp7.open
    have hb15 := Hb13.out.trans (hb14.mono Hb13.out.size)
    have hbx7 := hbx6.below hb14
    have hby7 := hby6.below hb14 hs6
    have hw1 := Hw1.out
    obtain ⟨⟨y0, y1, y2, y3, y4, y5, y6⟩, yf⟩ := hby7
    have f0 := yf 0
    have f1 := yf 1
    have f2 := yf 2
    have f3 := yf 3
    have f4 := yf 4
    have f5 := yf 5
    have f6 := yf 6
    have Hyf := Lib.hid yf
    have Hb15 := Lib.hid hb15
    have Hp7 := Lib.hid hp7
    clear x0 x1 x2 x3 x4 x5 x6 hbx6 hby6 hb14 hb15 hp7 yf Hn8
    go_upto_region 9 with fail
    have hbx9 := BoxF.set7 (w := w7) (b := w1.heap.size) ⟨⟨y0, y1, y2, y3, y4, y5, y6⟩, Hyf.out⟩ (str q8.type) (str q8.cs) (str q8.id) (str q8.loc) (.int .i64 q8.how) (.slice A8 q8.body.length c8) (.slice A9 q8.parts.length c9)
    have hbel9 := below_seven Hb15.out (C := w.heap.size) (b := w1.heap.size) (by omega) (str q8.type) (str q8.cs) (str q8.id) (str q8.loc) (.int .i64 q8.how) (.slice A8 q8.body.length c8) (.slice A9 q8.parts.length c9)
    have far9 : ∀ b, b ≠ w1.heap.size → (((((((w7.setCell ⟨w1.heap.size, 0, none⟩ (str q8.type)).setCell ⟨w1.heap.size, 1, none⟩ (str q8.cs)).setCell ⟨w1.heap.size, 2, none⟩ (str q8.id)).setCell ⟨w1.heap.size, 3, none⟩ (str q8.loc)).setCell ⟨w1.heap.size, 4, none⟩ (.int .i64 q8.how)).setCell ⟨w1.heap.size, 5, none⟩ (.slice A8 q8.body.length c8)).setCell ⟨w1.heap.size, 6, none⟩ (.slice A9 q8.parts.length c9)).heap[b]? = w7.heap[b]? := by
      intro b hb
      simp only [World.setCell, Array.getElem?_modify]
      simp [Ne.symm hb]
    have hsz9 : (((((((w7.setCell ⟨w1.heap.size, 0, none⟩ (str q8.type)).setCell ⟨w1.heap.size, 1, none⟩ (str q8.cs)).setCell ⟨w1.heap.size, 2, none⟩ (str q8.id)).setCell ⟨w1.heap.size, 3, none⟩ (str q8.loc)).setCell ⟨w1.heap.size, 4, none⟩ (.int .i64 q8.how)).setCell ⟨w1.heap.size, 5, none⟩ (.slice A8 q8.body.length c8)).setCell ⟨w1.heap.size, 6, none⟩ (.slice A9 q8.parts.length c9)).heap.size = w7.heap.size := by simp
    clear y0 y1 y2 y3 y4 y5 y6 f0 f1 f2 f3 f4 f5 f6
    generalize (((((((w7.setCell ⟨w1.heap.size, 0, none⟩ (str q8.type)).setCell ⟨w1.heap.size, 1, none⟩ (str q8.cs)).setCell ⟨w1.heap.size, 2, none⟩ (str q8.id)).setCell ⟨w1.heap.size, 3, none⟩ (str q8.loc)).setCell ⟨w1.heap.size, 4, none⟩ (.int .i64 q8.how)).setCell ⟨w1.heap.size, 5, none⟩ (.slice A8 q8.body.length c8)).setCell ⟨w1.heap.size, 6, none⟩ (.slice A9 q8.parts.length c9)) = w9 at hbx9 hbel9 far9 hsz9 ⊢
    rcases Hk8.out with rfl | rfl | rfl | ⟨rfl, rfl⟩
    case' _ =>
      go_wp2_with fail
      go_ret
      exact ⟨rfl, hbel9⟩
    case' _ =>
      go_wp2_with fail
      go_ret
      exact ⟨rfl, hbel9⟩
    case' _ =>
      go_wp2_with fail
      go_ret
      exact ⟨rfl, hbel9⟩
    have hbx8 : Box7 w9 w.heap.size (str q8.type) (str q8.cs) (str q8.id) (str q8.loc) (.int .i64 q8.how) (.slice A q8.body.length c) (.slice A2 q8.parts.length c2) := by
      obtain ⟨z0, z1, z2, z3, z4, z5, z6⟩ := hbx7
      have hh : ∀ k, w9.cell? ⟨w.heap.size, k, none⟩ = w7.cell? ⟨w.heap.size, k, none⟩ := fun k => World.cell?_of_block (far9 w.heap.size (by omega))
      exact ⟨(hh 0).trans z0, (hh 1).trans z1, (hh 2).trans z2, (hh 3).trans z3, (hh 4).trans z4, (hh 5).trans z5, (hh 6).trans z6⟩
    have hq9 : PartAt (· < w9.heap.size) w9 q8 [str q8.type, str q8.cs, str q8.id, str q8.loc, .int .i64 q8.how, .slice A8 q8.body.length c8, .slice A9 q8.parts.length c9] := PartAt.change (fun b hb => by have h1 : b < w7.heap.size := hb.2; show b < w9.heap.size; omega) (fun b hb => World.cell?_of_block (far9 _ (by have h1 : w6.heap.size ≤ b.block := hb.1; omega))) _ _ Hp7.out
    have hsm := Same_any (flatD q8).length q8 q8 _ _ w9 (Nat.le_refl _) ((Hp.out.below hbel9).more hbel9.size) hq9
    rw [sameD_refl] at hsm
    have Hsm := Lib.hid hsm
    have Hbel9 := Lib.hid hbel9
    have ⟨x0, x1, x2, x3, x4, x5, x6⟩ := hbx8
    obtain ⟨y0, y1, y2, y3, y4, y5, y6⟩ := hbx9
    clear hsm hbel9 hbx8 hbx7 hq9 far9
    go_wp2_with fail
    refine Hsm.out.mono ?_
    rintro e w10 ⟨rfl, hb16⟩
    go_wp2_with fail
    go_ret
    exact ⟨rfl, Hbel9.out.trans (hb16.mono Hbel9.out.size)⟩
  · obtain ⟨q, k, hq⟩ : ∃ q k, namesE p [] = (q, k) := ⟨_, _, rfl⟩
    rw [hq] at HN0 he
    simp only at HN0 he
    have hK1 : ((k : Int) != 0) = true := by simp; omega
    have ⟨x0, x1, x2, x3, x4, x5, x6⟩ := hbx
    clear he hq
    go_enter Tryz.func9, Tryz.ntmps9
    go_wp2_with fail
    rw [← hW]
    clear hW
    refine (HN0.out W (HM.out.below hbW) ((Hp.out.below hbW).more hbW.size)).mono ?_
    rintro e w1 ⟨v1, rfl, hp1, hb1⟩
    obtain ⟨A1, c1, A3, c3, rfl, _⟩ := hp1.open
    have hb1' := hbW.trans (hb1.mono hbW.size)
    have hbA := (Below.refl w1.heap.size w1).alloc (Nat.le_refl _) (.cells #[str q.type, str q.cs, str q.id, str q.loc, .int .i64 q.how, .slice A1 q.body.length c1, .slice A3 q.parts.length c3] 25)
    have hb2 := hb1'.trans (hbA.mono hb1'.size)
    have hr2 := Lib.hid (renamed_any _ (HM.out.below hb2))
    have Hb2 := Lib.hid hb2
    clear x0 x1 x2 x3 x4 x5 x6 hbx hb1 hb1' hbA hb2 hp1
    go_wp2_with fail
    refine hr2.out.mono ?_
    rintro e w2 ⟨rfl, hb3⟩
    have hb4 := Hb2.out.trans (hb3.mono Hb2.out.size)
    have hr3 := Lib.hid (renamed_any w2 (HM.out.below hb4))
    have Hb4 := Lib.hid hb4
    clear hb3 hb4
    go_wp2_with fail
    refine hr3.out.mono ?_
    rintro e w3 ⟨rfl, hb5⟩
    go_wp2_with fail
    go_ret
    exact ⟨rfl, Hb4.out.trans (hb5.mono Hb4.out.size)⟩
end Go.Proofs.YtlbdnohnngkapaaGreatDoor

namespace Go.Proofs.YtlbdnohnngkapaaGreatDoor
open Go.ChangeShapes Go.WideShapes Go.ChangeAt Go.RowKit Go.Deep

theorem nameStruct : Tryz.prog.cellsOf 79 = 2 := by kernel_rfl
theorem plain_atN {w : World} {a : Addr} {v : Value} (h : w.cell? (a.add 0) = some v) : ∃ b off, a = ⟨b, off, none⟩ := by
  obtain ⟨b, off, spot⟩ := a
  have hspot : spot = none := by
    simpa [Addr.add] using World.cell?_spot h
  subst hspot
  exact ⟨b, off, rfl⟩
section
variable {H : Type} {enc : TypeId × Value → H} {w : World} {base : Nat} {held : Bool}
set_option maxRecDepth 100000 in
theorem name_of_trod (fuel : Nat) (cs : List Value) (x : DataW H × List MemPlace) (h : DataW.trod enc Tryz.prog w base (fun _ => true) held fuel 79 cs = some x) :
    ∃ f : NameD, cs = nameCells f ∧ f.name.length ≤ maxLen ∧ -9223372036854775808 ≤ f.part ∧ f.part ≤ 9223372036854775807 := by
  obtain ⟨xs, n, hfu, _, hl, hxl, hf⟩ := DataW.trod_struct Tryz.underlying79 h
  rw [nameStruct] at hl
  match cs, hl with
  | [c0, c1], _ =>
    match xs, hxl with
    | [x0, x1], _ =>
      have h0 : DataW.trod enc Tryz.prog w base (fun _ => true) held n 3 [c0] = some x0 := hf 0 _ rfl
      have h1 : DataW.trod enc Tryz.prog w base (fun _ => true) held n 9 [c1] = some x1 := hf 1 _ rfl
      obtain ⟨i0, e0, _, b0⟩ := DataW.trod_int Tryz.underlying3 h0
      obtain ⟨s1, e1, _, b1⟩ := DataW.trod_string Tryz.underlying9 h1
      simp only [List.cons.injEq, and_true] at e0 e1
      subst e0 e1
      exact ⟨⟨i0, s1.data.toList⟩, rfl, b1, bounds_i64 b0⟩
theorem nameC_of (f : Nat → NameD) : ∀ n, nameC ((List.range n).map f) = ((List.range n).map fun i => nameCells (f i)).flatten := by
  intro n
  rw [nameC, List.flatMap_map, List.flatMap]
theorem nameC_at (ls : List NameD) (i k : Nat) (hi : i < ls.length) (hk : k < 2) : (nameC ls)[i * 2 + k]? = (nameCells ls[i])[k]? := by
  have hsplit : nameC ls = nameC (ls.take i) ++ nameC (ls.drop i) := by rw [← nameC_app, List.take_append_drop]
  have e : (nameC (ls.take i)).length = i * 2 := by rw [nameC_len, List.length_take, Nat.min_eq_left (by omega)]
  rw [hsplit, List.getElem?_append_right (by omega), e, Nat.add_sub_cancel_left, List.drop_eq_getElem_cons hi]
  show ((nameCells ls[i]) ++ nameC (ls.drop (i + 1)))[k]? = _
  rw [List.getElem?_append_left (by show k < 2; exact hk)]
set_option maxRecDepth 100000 in
/-- Fields that came in. -/
theorem open_names {r : Reach} {b0 : Nat} {v : Value} {d : DataW H} {pl : List MemPlace} (hv : Value.okWide Tryz.prog w r b0 26 v) (h : DataW.Trod enc Tryz.prog w base (fun _ => true) held 26 v d pl) :
    ∃ A n c ls, v = .slice A n c ∧ Sl w w.heap.size 2 A n (nameC ls) ∧ n ≤ c ∧ c ≤ maxLen ∧ NamesOk ls := by
  obtain ⟨a0, len0, cap0, rfl⟩ := okWide_slice Tryz.underlying26 hv
  obtain ⟨fuel, hf⟩ := h
  rcases DataW.trod_slice Tryz.underlying26 hf with ⟨hcs, _⟩ | ⟨a, len, cap, elems, rest, n', hfu', hcs, _, hb, hl, hm, hlen, hel, hsp, hns⟩
  · simp only [Value.cells, List.cons.injEq, and_true] at hcs
    refine ⟨_, _, _, [], rfl, ?_⟩
    simp at hcs
    obtain ⟨rfl, rfl, rfl⟩ := hcs
    exact ⟨Sl.nil_ _ _ _ _, Nat.le_refl _, Nat.zero_le _, fun f h => by cases h⟩
  · simp [Value.cells] at hcs
    obtain ⟨rfl, rfl, rfl⟩ := hcs
    have hone : ∀ i, i < len0 → ∃ f : NameD, w.cells? base (a.add (i * 2)) 2 = some (nameCells f) ∧ f.name.length ≤ maxLen ∧ -9223372036854775808 ≤ f.part ∧ f.part ≤ 9223372036854775807 := by
      intro i hi
      have h1 := hel i hi
      rw [nameStruct, List.getElem?_eq_getElem (by omega)] at h1
      obtain ⟨cs', hc', ht'⟩ := Option.bind_eq_some_iff.1 h1
      obtain ⟨f, rfl, g1, g2⟩ := name_of_trod n' cs' _ ht'
      exact ⟨f, hc', g1, g2⟩
    haveI : Inhabited NameD := ⟨⟨0, []⟩⟩
    obtain ⟨f, hfp⟩ := choose_lt hone
    refine ⟨some a, len0, cap0, (List.range len0).map f, rfl, ⟨by rw [nameC_len]; simp, fun h0 => ?_⟩, hl, hm, ?_⟩
    · obtain ⟨_, hl0, hat0⟩ := World.cells?_some (hfp 0 h0).1
      have hx0 := hat0 0 (by omega)
      rw [List.getElem?_eq_getElem (by show 0 < 2; omega)] at hx0
      obtain ⟨b, off, hab⟩ : ∃ b off, a = ⟨b, off, none⟩ := by
        have e : (a.add (0 * 2)).add 0 = a.add 0 := by rw [Go.Deep.add_add]
        rw [e] at hx0
        exact plain_atN hx0
      subst hab
      refine ⟨b, off, rfl, ?_, fun j u hu => ?_⟩
      · have e : ((⟨b, off, none⟩ : Addr).add (0 * 2)).add 0 = ⟨b, off, none⟩ := by rw [Go.Deep.add_add]; simp [Addr.add]
        rw [e] at hx0
        exact cell_lt hx0
      · have hj : j < len0 * 2 := by
          rcases Nat.lt_or_ge j (len0 * 2) with h | h
          · exact h
          · rw [List.getElem?_eq_none (by rw [nameC_len]; simp; omega)] at hu; cases hu
        have hi : j / 2 < len0 := by omega
        have hjj : j = j / 2 * 2 + j % 2 := by omega
        obtain ⟨_, hli, hati⟩ := World.cells?_some (hfp (j / 2) hi).1
        have hx := hati (j % 2) (by omega)
        rw [Go.Deep.add_add, ← hjj] at hx
        rw [hjj, nameC_at _ (j / 2) (j % 2) (by simpa using hi) (by omega)] at hu
        simp only [List.getElem_map, List.getElem_range] at hu
        rw [hu] at hx
        have e : (⟨b, off, none⟩ : Addr).add j = ⟨b, off + j, none⟩ := Go.WideShapes.add_plain ..
        rw [e] at hx
        exact hx
    · intro x hx
      obtain ⟨i, hi, rfl⟩ := List.mem_map.1 hx
      exact (hfp i (List.mem_range.1 hi)).2
end
theorem bytesName : Tryz.prog.bytesOf 79 = 24 := by kernel_rfl
/-- What was read takes at most 2^47 - 4096 bytes. -/
theorem reach_names {H : Type} {enc : TypeId × Value → H} {W : World} {ts : List TypeId} {ds : List (DataW H)} {j : Nat} {d : DataW H} {pl : List MemPlace} {A : Option Addr} {n c : Nat}
    (hsz : (DataW.weightsEach Tryz.prog ts ds).all (· ≤ reachBytes) = true) (ht : ts[j]? = some 26) (hd : ds[j]? = some d) (h : DataW.Trod enc Tryz.prog W 0 (fun _ => true) true 26 (.slice A n c) d pl) : c * 24 ≤ 140737488351232 := by
  obtain ⟨fuel, hf⟩ := h
  rcases DataW.trod_slice Tryz.underlying26 hf with ⟨hcs, _⟩ | ⟨a, len, cap, elems, rest, n', hfu', hcs, hx, hb, hl, hm, hlen, hel, hsp, hns⟩
  · simp [Value.cells] at hcs
    omega
  · simp [Value.cells] at hcs
    obtain ⟨rfl, rfl, rfl⟩ := hcs
    simp only [Prod.mk.injEq] at hx
    rw [hx.1] at hd
    have := sized_slice hsz ht hd Tryz.underlying26
    rw [bytesName] at this
    simp only [List.length_map, reachBytes] at this
    have h2 := (hsp rfl).1
    omega
end Go.Proofs.YtlbdnohnngkapaaGreatDoor

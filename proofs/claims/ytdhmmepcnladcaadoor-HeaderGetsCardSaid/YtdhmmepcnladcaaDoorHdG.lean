import Derived.Test.YtdhmmepcnladcaaDoorHdM
import Derived.Lib.Fold
import Derived.Lib.Case
namespace Go.Proofs.YtdhmmepcnladcaaDoor

/-! ### The first field of a name -/
/-- header.Get. -/
def getF : List FieldD → List UInt8 → List UInt8
  | [], _ => []
  | f :: r, n => if Lib.equalFold f.name n then f.value else getF r n
theorem foldEq_iff (x y : UInt8) : Lib.foldEq x y = true ↔ lowB x = lowB y := by
  unfold Lib.foldEq
  rw [decide_eq_true_eq]
  constructor
  · intro h
    apply UInt8.toNat_inj.1
    rw [lowB_nat, lowB_nat]
    split <;> split <;> omega
  · intro h
    have h := congrArg UInt8.toNat h
    rw [lowB_nat, lowB_nat] at h
    split at h <;> split at h <;> omega
theorem fold_iff : ∀ (a b : List UInt8), Lib.equalFold a b = true ↔ lowL a = lowL b
  | [], [] => by simp [Lib.equalFold]
  | [], _ :: _ => by simp [Lib.equalFold, lowL]
  | _ :: _, [] => by simp [Lib.equalFold, lowL]
  | x :: a, y :: b => by
    have ih := fold_iff a b
    have h1 := foldEq_iff x y
    unfold lowL at ih ⊢
    simp only [Lib.equalFold, Bool.and_eq_true, List.map_cons, List.cons.injEq]
    rw [ih, h1]
theorem up_low : ∀ x : Fin 256, lowB (Lib.upperB (UInt8.ofNat x.val)) = lowB (UInt8.ofNat x.val) := by decide +kernel
theorem lower_low : ∀ x : Fin 256, lowB (Lib.lowerB (UInt8.ofNat x.val)) = lowB (UInt8.ofNat x.val) := by decide +kernel
theorem low_upper (l : List UInt8) : lowL (Lib.toUpperA l) = lowL l := by
  unfold lowL Lib.toUpperA
  rw [List.map_map]
  refine List.map_congr_left fun b _ => ?_
  have := up_low ⟨b.toNat, b.toNat_lt⟩
  rw [ofNat_toNat8] at this
  exact this
theorem low_lower (l : List UInt8) : lowL (Lib.toLowerA l) = lowL l := by
  unfold lowL Lib.toLowerA
  rw [List.map_map]
  refine List.map_congr_left fun b _ => ?_
  have := lower_low ⟨b.toNat, b.toNat_lt⟩
  rw [ofNat_toNat8] at this
  exact this
def sameN (n : List UInt8) (f : FieldD) : Bool := Lib.equalFold f.name n
theorem get_first (f : FieldD) (r : List FieldD) (n : List UInt8) (h : lowL n = lowL f.name) : getF (f :: r) n = f.value := by
  unfold getF
  rw [if_pos ((fold_iff _ _).2 h.symm)]
theorem get_none : ∀ (l : List FieldD) (n : List UInt8), (∀ f ∈ l, lowL f.name ≠ lowL n) → getF l n = []
  | [], _, _ => rfl
  | f :: r, n, h => by
    unfold getF
    rw [if_neg (fun e => h f (by simp) ((fold_iff _ _).1 e))]
    exact get_none r n (fun g hg => h g (by simp [hg]))
theorem get_behind (l : List FieldD) (f : FieldD) (n : List UInt8) (h : ∀ g ∈ l, lowL g.name ≠ lowL n) : getF (l ++ [f]) n = getF [f] n := by
  induction l with
  | nil => rfl
  | cons g r ih =>
    rw [List.cons_append, getF, if_neg (fun e => h g (by simp) ((fold_iff _ _).1 e))]
    exact ih (fun x hx => h x (by simp [hx]))
/-- What is left where those of a name are struck. -/
def leftF (l : List FieldD) (n : List UInt8) : List FieldD := l.filter (fun x => !sameN n x)
theorem left_not (l : List FieldD) (n : List UInt8) : ∀ g ∈ leftF l n, lowL g.name ≠ lowL n := by
  intro g hg
  have := (List.mem_filter.1 hg).2
  unfold sameN at this
  simp only [Bool.not_eq_true'] at this
  intro e
  rw [(fold_iff _ _).2 e] at this
  cases this
theorem gets_law (l : List FieldD) (f : FieldD) : getF (f :: l) (Lib.toUpperA f.name) = f.value ∧ getF (f :: l) (Lib.toLowerA f.name) = f.value ∧ getF (leftF l f.name ++ [f]) (Lib.toUpperA f.name) = f.value ∧ getF (leftF l f.name) (Lib.toLowerA f.name) = [] := by
  refine ⟨get_first _ _ _ (low_upper _), get_first _ _ _ (low_lower _), ?_, ?_⟩
  · rw [get_behind _ _ _ (fun g hg => by rw [low_upper]; exact left_not l f.name g hg)]
    exact get_first _ _ _ (low_upper _)
  · exact get_none _ _ (fun g hg => by rw [low_lower]; exact left_not l f.name g hg)
end Go.Proofs.YtdhmmepcnladcaaDoor

import Derived.Test.YtdhmmepcnladcaaDoorPart8
import Derived.Test.YtdhmmepcnladcaaDoorInts
import Derived.Lib.SlBytesConst
namespace Go.Proofs.YtdhmmepcnladcaaDoor
open Go.RowKit

def pageD : PartD := { type := [116, 101, 120, 116, 47, 104, 116, 109, 108], cs := [117, 116, 102, 45, 56], id := [], loc := [], how := 2, body := [60, 97, 32, 104, 114, 101, 102, 61, 39, 99, 39, 62, 60, 105, 109, 103, 32, 83, 82, 67, 61, 99, 105, 100, 58, 120, 62, 60, 97, 32, 104, 114, 101, 102, 61, 35, 100, 62], parts := [] }
def pictD : PartD := { type := [105, 109, 97, 103, 101, 47, 112, 110, 103], cs := [], id := [120], loc := [99], how := 1, body := [1, 2, 3], parts := [] }
def smallD : PartD := { type := [109, 117, 108, 116, 105, 112, 97, 114, 116, 47, 114, 101, 108, 97, 116, 101, 100], cs := [], id := [], loc := [104, 116, 116, 112, 58, 47, 47, 104, 47, 97, 47, 98], how := 0, body := [], parts := [pageD, pictD] }
theorem sl_block {w : World} {g n size : Nat} {t : TypeId} {fr : Nat × Nat} (xs : List Value) (hg : w.heap[g]? = some (.cells xs.toArray t fr)) (hl : xs.length = n * size) : SlS (· < w.heap.size) w size (some ⟨g, 0, none⟩) n xs :=
  Sl.of_block hg hl (fun j u hu => by rw [Nat.zero_add]; simpa using hu)
theorem leaf_at {w : World} (p : PartD) (hp : p.parts = []) (A : Option Addr) (c : Nat) (hb : SlS (· < w.heap.size) w 1 A p.body.length (Lib.byteCells p.body)) (hc : p.body.length ≤ c) (hm : c ≤ 1000) (h1 : p.type.length ≤ 1000) (h2 : p.cs.length ≤ 1000) (h3 : p.id.length ≤ 1000) (h4 : p.loc.length ≤ 1000) (h5 : 0 ≤ p.how) (h6 : p.how ≤ 2) :
    PartAt (· < w.heap.size) w p [str p.type, str p.cs, str p.id, str p.loc, .int .i64 p.how, .slice A p.body.length c, .slice none 0 0] := by
  obtain ⟨t, cs, id, loc, how, body, parts⟩ := p
  simp only at hp hb hc h1 h2 h3 h4 h5 h6
  subst hp
  refine ⟨A, _, c, none, 0, 0, [], rfl, ?_, hb, hc, by unfold maxLen; omega, ⟨rfl, fun h => absurd h (by omega)⟩, Nat.le_refl _, Nat.zero_le _, rfl⟩
  unfold maxLen
  omega
def SmallRes (w : World) (e : Ending) (w' : World) : Prop := ∃ v : List Value, e = .returned (.agg v.toArray) ∧ PartAt (· < w'.heap.size) w' smallD v ∧ Below w.heap.size w w'
set_option maxRecDepth 100000 in
set_option maxHeartbeats 2000000 in
theorem smallP_any (w : World) : Calls Tryd.prog 79 #[] w (SmallRes w) := by
  have kc : ∀ (w : World) (o : Obj) (C : Array Value) (n c : Nat), (convert 22 22 (.slice (some ⟨w.heap.size + 1, 0, none⟩) n c)).run Tryd.prog ((w.alloc o).alloc (.cells C 5)) = .ok (.slice (some ⟨w.heap.size + 1, 0, none⟩) n c) ((w.alloc o).alloc (.cells C 5 (C.size, C.size + 1))) := by
    intro w o C n c
    have := Lib.run_convert_bytes_const (P := Tryd.prog) (w.alloc o) 22 5 C n c Tryd.underlying22 Tryd.underlying5
    simpa using this
  go_enter Tryd.func79, Tryd.ntmps79
  go_wp2_with fail
  generalize hW : ((((w.alloc _).alloc _).alloc _).alloc _ : World) = W
  have hb : Below w.heap.size w W := by
    rw [← hW]
    exact ((((Below.refl _ w).alloc (Nat.le_refl _) _).alloc (by simp) _).alloc (by simp <;> omega) _).alloc (by simp <;> omega) _
  have hsz : W.heap.size = w.heap.size + 4 := by rw [← hW]; simp
  have g0 : W.heap[w.heap.size]? = some (.cells #[str smallD.type, str smallD.cs, str smallD.id, str smallD.loc, .int .i64 0, .slice none 0 0, .slice (some ⟨w.heap.size + 1 + 1 + 1, 0, none⟩) 2 2] 25) := by
    rw [← hW, Lib.alloc_old _ _ _ (by simp <;> omega), Lib.alloc_old _ _ _ (by simp <;> omega), Lib.alloc_old _ _ _ (by simp)]
    exact heap_alloc_new w _
  have g1 : W.heap[w.heap.size + 1]? = some (.cells (Lib.byteCells pageD.body).toArray 5 (38, 39)) := by
    rw [← hW, Lib.alloc_old _ _ _ (by simp <;> omega), Lib.alloc_old _ _ _ (by simp)]
    have := fun o => heap_alloc_new (w.alloc o)
    simp only [World.size_alloc] at this
    exact this _ _
  have g2 : W.heap[w.heap.size + 1 + 1]? = some (.cells (Lib.byteCells pictD.body).toArray 5) := by
    rw [← hW, Lib.alloc_old _ _ _ (by simp)]
    have := fun o o' => heap_alloc_new ((w.alloc o).alloc o')
    simp only [World.size_alloc] at this
    exact this _ _ _
  have g3 : W.heap[w.heap.size + 1 + 1 + 1]? = some (.cells ([[str pageD.type, str pageD.cs, str pageD.id, str pageD.loc, .int .i64 2, .slice (some ⟨w.heap.size + 1, 0, none⟩) 38 38, .slice none 0 0], [str pictD.type, str pictD.cs, str pictD.id, str pictD.loc, .int .i64 1, .slice (some ⟨w.heap.size + 1 + 1, 0, none⟩) 3 3, .slice none 0 0]] : List (List Value)).flatten.toArray 25) := by
    rw [← hW]
    have := fun o o' o'' => heap_alloc_new (((w.alloc o).alloc o').alloc o'')
    simp only [World.size_alloc] at this
    exact this _ _ _ _
  clear hW
  have h1 := leaf_at pageD rfl _ 38 (sl_block (n := 38) _ g1 rfl) (by decide) (by omega) (by decide) (by decide) (by decide) (by decide) (by decide) (by decide)
  have h2 := leaf_at pictD rfl _ 3 (sl_block (n := 3) _ g2 rfl) (by decide) (by omega) (by decide) (by decide) (by decide) (by decide) (by decide) (by decide)
  obtain ⟨c0, c1, c2, c3, c4, c5, c6⟩ := (BoxF.of_block g0).1
  refine bodyPost_ret (v := .agg #[str smallD.type, str smallD.cs, str smallD.id, str smallD.loc, .int .i64 0, .slice none 0 0, .slice (some ⟨w.heap.size + 1 + 1 + 1, 0, none⟩) 2 2]) (by simp [results, Tryd.results79, go_sem, c0, c1, c2, c3, c4, c5, c6]) rfl ⟨[str smallD.type, str smallD.cs, str smallD.id, str smallD.loc, .int .i64 0, .slice none 0 0, .slice (some ⟨w.heap.size + 1 + 1 + 1, 0, none⟩) 2 2], rfl, ?_, hb⟩
  exact ⟨none, 0, 0, _, 2, 2, _, rfl, by refine ⟨?_, ?_, ?_, ?_, ?_, ?_⟩ <;> decide, ⟨rfl, fun h => absurd h (by omega)⟩, Nat.le_refl _, Nat.zero_le _, sl_block (n := 2) (size := 7) _ g3 rfl, Nat.le_refl _, by unfold maxLen; omega, ⟨_, _, rfl, h1, _, _, rfl, h2, rfl⟩⟩
end Go.Proofs.YtdhmmepcnladcaaDoor

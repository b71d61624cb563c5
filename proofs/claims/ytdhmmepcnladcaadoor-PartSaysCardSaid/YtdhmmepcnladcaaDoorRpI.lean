import Derived.Test.YtdhmmepcnladcaaDoorPartX
namespace Go.Proofs.YtdhmmepcnladcaaDoor

mutual
/-- The document's InWhich. -/
def inwD : PartD → List Int
  | ⟨_, _, _, _, _, _, parts⟩ => inwsD [-1] parts
def inwsD (out : List Int) : List PartD → List Int
  | [] => out
  | p :: ps => inwsD (out ++ (inwD p).map (fun x => if x < 0 then 0 else x + (out.length : Int))) ps
end
theorem wthD_move (p : PartD) (d : Nat) (x : Int) : wthD p d x = x :: (wthsD p.parts 1 0).map (fun y => y + (d : Int)) := by
  have := wths_shift d p.parts 1 0
  rw [show 1 + d = d + 1 from by omega, Nat.zero_add] at this
  rw [wthD_eq, this]
theorem wths_ge (ps : List PartD) : ∀ x ∈ wthsD ps 1 0, 0 ≤ x := by
  intro x hx
  obtain ⟨j, hj, he⟩ := List.getElem_of_mem hx
  rcases (wths_facts ps 1 0 (by omega)).1 j x (by rw [List.getElem?_eq_getElem hj, he]) with h | h
  · omega
  · omega
mutual
theorem inwD_eq : ∀ p : PartD, inwD p = wthD p 0 (-1)
  | ⟨t, cs, id, loc, how, body, parts⟩ => by
    rw [inwD, inwsD_eq parts [-1], wthD]
    rfl
theorem inwsD_eq : ∀ (ps : List PartD) (out : List Int), inwsD out ps = out ++ wthsD ps out.length 0
  | [], out => by rw [inwsD, wthsD, List.append_nil]
  | p :: ps, out => by
    have h1 : (inwD p).map (fun x => if x < 0 then 0 else x + (out.length : Int)) = wthD p out.length 0 := by
      rw [inwD_eq p, wthD_eq, wthD_move p out.length 0, List.map_cons]
      congr 1
      refine List.map_congr_left fun x hx => ?_
      have := wths_ge _ x hx
      rw [if_neg (by omega)]
    have hl : (wthD p out.length 0).length = (flatD p).length := wthD_len p _ _
    rw [inwsD, h1, inwsD_eq ps, wthsD, List.length_append, hl, List.append_assoc]
    rfl
end
theorem inwD_parts (p : PartD) : inwD p = inwsD [-1] p.parts := by cases p; rw [inwD]
theorem inwsD_cons (out : List Int) (p : PartD) (ps : List PartD) : inwsD out (p :: ps) = inwsD (out ++ (inwD p).map (fun x => if x < 0 then 0 else x + (out.length : Int))) ps := by rw [inwsD]
theorem inwD_len (p : PartD) : (inwD p).length = (flatD p).length := by rw [inwD_eq, wthD_len]
theorem inwsD_len (out : List Int) (ps : List PartD) : (inwsD out ps).length = out.length + (flatsD ps).length := by rw [inwsD_eq, List.length_append, wthsD_len]
theorem inwD_bd (p : PartD) : ∀ x ∈ inwD p, -1 ≤ x ∧ x < (flatD p).length := by
  intro x hx
  rw [inwD_eq, wthD_eq] at hx
  rcases List.mem_cons.1 hx with rfl | hx
  · omega
  · have hf : (flatD p).length = (flatsD p.parts).length + 1 := by rw [flatD_eq, List.length_cons]
    obtain ⟨j, hj, he⟩ := List.getElem_of_mem hx
    rw [wthsD_len] at hj
    rcases (wths_facts p.parts 1 0 (by omega)).1 j x (by rw [List.getElem?_eq_getElem (by rw [wthsD_len]; exact hj), he]) with h | h
    · omega
    · omega
end Go.Proofs.YtdhmmepcnladcaaDoor

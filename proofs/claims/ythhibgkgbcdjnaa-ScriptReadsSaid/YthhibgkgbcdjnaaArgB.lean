/- How a row of bytes reads as an argument, its room within what an int64 counts. -/
import Derived.Test.YthhibgkgbcdjnaaArgs
namespace Go.Proofs.Ythhibgkgbcdjnaa.Openers
open Go.Joins Go.ChangeShapes Go.WideShapes Go.RowKit Go.Deep Go.Proofs.YthhibgkgbcdjnaaW.PrintWords
set_option linter.unusedVariables false

section
variable {H : Type} {enc : TypeId × Value → H} {P : Program} {W : World} {t e : TypeId} {A : Option Addr} {len cap : Nat} {d : DataW H} {ps : List MemPlace}

/-- A slice of whole numbers. -/
theorem open_nums_cap {k : IntKind} (ht : P.underlying t = some (.slice e)) (he : P.underlying e = some (.int k)) (hc : P.cellsOf e = 1) {B : Nat} (hB : P.bytesOf e = B)
    (hl : Light P t d) (h : ∃ fuel, DataW.trod enc P W 0 (fun _ => true) true fuel t [.slice A len cap] = some (d, ps)) :
    ∃ xs : List Int, len = xs.length ∧ len ≤ cap ∧ ReadsInt W k A xs.length xs ∧ (∀ x ∈ xs, (Lit.int k x).wf = true) ∧ xs.length * B ≤ 140737488351232 ∧ cap ≤ 9223372036854775807 := by
  obtain ⟨fuel, hf⟩ := h
  rcases open_ints ht he hc hf with ⟨hcs, _⟩ | ⟨x, l, c, zs, hcs, _, hlc, hm, hz, hx, hcell, hwz⟩
  · simp at hcs
    obtain ⟨rfl, rfl, rfl⟩ := hcs
    exact ⟨[], rfl, Nat.le_refl _, ⟨rfl, by simp, (fun h => by simp at h)⟩, (fun _ h => by cases h), by simp, by omega⟩
  · simp at hcs
    obtain ⟨rfl, rfl, rfl⟩ := hcs
    obtain ⟨hx, _⟩ := Prod.mk.inj hx
    subst hx
    have z := (light_slice hl ht).1
    rw [hB] at z
    simp only [if_true] at hz
    have h1 : (lits (H := H) k (zs.take len)).length + (lits (H := H) k (zs.drop len)).length = zs.length := by simp [lits]; omega
    rw [h1] at z
    have hll : (zs.take len).length = len := by simp; omega
    refine ⟨zs.take len, hll.symm, hlc, ⟨rfl, by unfold maxLen at hm; omega, fun h0 => ⟨x, rfl, fun j hj => ?_⟩⟩, fun n hn => hwz n (List.mem_of_mem_take hn), ?_, by unfold maxLen at hm; omega⟩
    · rw [hll] at hj
      rw [hcell j (by omega)]
      congr 2
      simp [List.getD, hj]
    · rw [hll]
      exact Nat.le_trans (Nat.mul_le_mul_right _ (by omega)) z

end
end Go.Proofs.Ythhibgkgbcdjnaa.Openers

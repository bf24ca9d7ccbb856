/- How the arguments of a law read: structs, slices of numbers, of texts, of slices of bytes; and that none of them is longer than the form's reach. -/
import Derived.Lib.SmallJoins
import Derived.Deep.Slices
import Derived.Deep.Fields
import Derived.ChangeSame
import Derived.SizedLaws
import Derived.SliceStrings
import Derived.Test.YthhibgkgbcdjnaaWWords
namespace Go.Proofs.Ythhibgkgbcdjnaa.Openers
open Go.Joins Go.ChangeShapes Go.WideShapes Go.RowKit Go.Deep Go.Proofs.YthhibgkgbcdjnaaW.PrintWords
set_option linter.unusedVariables false

theorem open_agg8 {H : Type} {enc : TypeId × Value → H} {P : Program} {w : World} {base : Nat} {spare : Nat → Bool} {held : Bool} {r : Reach} {b0 : Nat} {t : TypeId} {f0 f1 f2 f3 f4 f5 f6 f7 : Field} {v : Value} {d : DataW H} {p : List MemPlace} (hs : P.underlying t = some (.struct #[f0, f1, f2, f3, f4, f5, f6, f7])) (hone : oneCellFields P #[f0, f1, f2, f3, f4, f5, f6, f7] = true) (hC : P.cellsOf t = 8)
    (hv : Value.okWide P w r b0 t v) (h : DataW.Trod enc P w base spare held t v d p) :
    ∃ (v0 v1 v2 v3 v4 v5 v6 v7 : Value) (y0 y1 y2 y3 y4 y5 y6 y7 : DataW H × List MemPlace) (n : Nat), v = .agg #[v0, v1, v2, v3, v4, v5, v6, v7] ∧
      DataW.trod enc P w base spare held n f0.type [v0] = some y0 ∧ DataW.trod enc P w base spare held n f1.type [v1] = some y1 ∧ DataW.trod enc P w base spare held n f2.type [v2] = some y2 ∧ DataW.trod enc P w base spare held n f3.type [v3] = some y3 ∧ DataW.trod enc P w base spare held n f4.type [v4] = some y4 ∧ DataW.trod enc P w base spare held n f5.type [v5] = some y5 ∧ DataW.trod enc P w base spare held n f6.type [v6] = some y6 ∧ DataW.trod enc P w base spare held n f7.type [v7] = some y7 := by
  obtain ⟨cs, rfl, hsz⟩ := okWide_struct hs hv
  obtain ⟨l⟩ := cs
  match l, hsz.trans hC with
  | [c0, c1, c2, c3, c4, c5, c6, c7], _ =>
    obtain ⟨fuel, hf⟩ := h
    obtain ⟨xs, n, _, hx, _, hlen, hg⟩ := DataW.trod_struct hs hf
    obtain ⟨o0, k0⟩ := hone_of hone 0 f0 rfl
    obtain ⟨o1, k1⟩ := hone_of hone 1 f1 rfl
    obtain ⟨o2, k2⟩ := hone_of hone 2 f2 rfl
    obtain ⟨o3, k3⟩ := hone_of hone 3 f3 rfl
    obtain ⟨o4, k4⟩ := hone_of hone 4 f4 rfl
    obtain ⟨o5, k5⟩ := hone_of hone 5 f5 rfl
    obtain ⟨o6, k6⟩ := hone_of hone 6 f6 rfl
    obtain ⟨o7, k7⟩ := hone_of hone 7 f7 rfl
    match xs, hlen with
    | [y0, y1, y2, y3, y4, y5, y6, y7], _ =>
      exact ⟨c0, c1, c2, c3, c4, c5, c6, c7, y0, y1, y2, y3, y4, y5, y6, y7, n, rfl, by simpa [Value.cells, o0, k0] using hg 0 f0 rfl, by simpa [Value.cells, o1, k1] using hg 1 f1 rfl, by simpa [Value.cells, o2, k2] using hg 2 f2 rfl, by simpa [Value.cells, o3, k3] using hg 3 f3 rfl, by simpa [Value.cells, o4, k4] using hg 4 f4 rfl, by simpa [Value.cells, o5, k5] using hg 5 f5 rfl, by simpa [Value.cells, o6, k6] using hg 6 f6 rfl, by simpa [Value.cells, o7, k7] using hg 7 f7 rfl⟩


/-- No part of the datum is longer than the form's reach. -/
def Light {H : Type} (P : Program) (t : TypeId) (d : DataW H) : Prop := ∀ n ∈ d.weights P t, n ≤ reachBytes
theorem light_arg {H : Type} {P : Program} {ts : List TypeId} {ds : List (DataW H)} (h : (DataW.weightsEach P ts ds).all (· ≤ reachBytes) = true) {j : Nat} {t : TypeId} {d : DataW H} (ht : ts[j]? = some t) (hd : ds[j]? = some d) : Light P t d := by
  intro n hn
  have := List.all_eq_true.1 h _ (DataW.weights_mem_each ht hd n hn)
  simpa using this
theorem weightsAll_mem {H : Type} {P : Program} {e : TypeId} : ∀ {ds : List (DataW H)} {d : DataW H}, d ∈ ds → ∀ n ∈ d.weights P e, n ∈ DataW.weightsAll P e ds
  | d0 :: ds, d, hd, n, hn => by
    simp only [DataW.weightsAll, List.mem_append]
    cases hd with
    | head => exact .inl hn
    | tail _ h => exact .inr (weightsAll_mem h n hn)
theorem light_slice {H : Type} {P : Program} {t e : TypeId} {elems spare : List (DataW H)} (h : Light P t (.slice elems spare)) (hu : P.underlying t = some (.slice e)) :
    (elems.length + spare.length) * P.bytesOf e ≤ reachBytes ∧ ∀ d ∈ elems, Light P e d := by
  refine ⟨h _ (by simp [DataW.weights, hu]), fun d hd n hn => h n ?_⟩
  simp only [DataW.weights, hu, List.mem_cons, List.mem_append]
  exact .inr (.inl (weightsAll_mem hd n hn))
theorem light_string {H : Type} {P : Program} {t : TypeId} {bytes : List UInt8} (h : Light (H := H) P t (.lit (.string bytes))) : bytes.length ≤ reachBytes := h _ (by simp [DataW.weights])

section
variable {H : Type} {enc : TypeId × Value → H} {P : Program} {W : World} {t e : TypeId} {A : Option Addr} {len cap : Nat} {d : DataW H} {ps : List MemPlace}

/-- A slice of whole numbers. -/
theorem open_nums {k : IntKind} (ht : P.underlying t = some (.slice e)) (he : P.underlying e = some (.int k)) (hc : P.cellsOf e = 1) {B : Nat} (hB : P.bytesOf e = B)
    (hl : Light P t d) (h : ∃ fuel, DataW.trod enc P W 0 (fun _ => true) true fuel t [.slice A len cap] = some (d, ps)) :
    ∃ xs : List Int, len = xs.length ∧ len ≤ cap ∧ ReadsInt W k A xs.length xs ∧ (∀ x ∈ xs, (Lit.int k x).wf = true) ∧ xs.length * B ≤ 140737488351232 := by
  obtain ⟨fuel, hf⟩ := h
  rcases open_ints ht he hc hf with ⟨hcs, _⟩ | ⟨x, l, c, zs, hcs, _, hlc, hm, hz, hx, hcell, hwz⟩
  · simp at hcs
    obtain ⟨rfl, rfl, rfl⟩ := hcs
    exact ⟨[], rfl, Nat.le_refl _, ⟨rfl, by simp, (fun h => by simp at h)⟩, (fun _ h => by cases h), by simp⟩
  · simp at hcs
    obtain ⟨rfl, rfl, rfl⟩ := hcs
    obtain ⟨hx, _⟩ := Prod.mk.inj hx
    subst hx
    have z := (light_slice hl ht).1
    rw [hB] at z
    simp only [if_true] at hz
    have h1 : (lits (H := H) k (zs.take len)).length + (lits (H := H) k (zs.drop len)).length = zs.length := by simp [lits]; omega
    rw [h1] at z
    have hll : (zs.take len).length = len := by simp; omega
    refine ⟨zs.take len, hll.symm, hlc, ⟨rfl, by unfold maxLen at hm; omega, fun h0 => ⟨x, rfl, fun j hj => ?_⟩⟩, fun n hn => hwz n (List.mem_of_mem_take hn), ?_⟩
    · rw [hll] at hj
      rw [hcell j (by omega)]
      congr 2
      simp [List.getD, hj]
    · rw [hll]
      exact Nat.le_trans (Nat.mul_le_mul_right _ (by omega)) z

/-- A slice of texts. -/
theorem open_texts (ht : P.underlying t = some (.slice e)) (he : P.underlying e = some .string) (hc : P.cellsOf e = 1)
    (hl : Light P t d) (h : ∃ fuel, DataW.trod enc P W 0 (fun _ => true) true fuel t [.slice A len cap] = some (d, ps)) :
    ∃ xs : List ByteArray, len = xs.length ∧ len ≤ cap ∧ ReadsOf Value.string ByteArray.empty W A xs.length xs ∧ (∀ x ∈ xs, x.size ≤ 140737488351232) ∧ xs.length ≤ 9223372036854775807 := by
  obtain ⟨fuel, hf⟩ := h
  rcases open_strings ht he hc hf with ⟨hcs, _⟩ | ⟨x, l, c, zs, hcs, _, hlc, hm, hz, hx, hcell, hwz⟩
  · simp at hcs
    obtain ⟨rfl, rfl, rfl⟩ := hcs
    exact ⟨[], rfl, Nat.le_refl _, ⟨rfl, by simp, (fun h => by simp at h)⟩, (fun _ h => by cases h), by simp⟩
  · simp at hcs
    obtain ⟨rfl, rfl, rfl⟩ := hcs
    obtain ⟨hx, _⟩ := Prod.mk.inj hx
    subst hx
    have z := (light_slice hl ht).2
    simp only [if_true] at hz
    have hll : (zs.take len).length = len := by simp; omega
    have hle : len ≤ 9223372036854775807 := by unfold maxLen at hm; omega
    refine ⟨zs.take len, hll.symm, hlc, ⟨rfl, by omega, fun h0 => ⟨x, rfl, fun j hj => ?_⟩⟩, fun n hn => ?_, by omega⟩
    · rw [hll] at hj
      rw [hcell j (by omega)]
      congr 2
      simp [List.getD, hj]
    · have := light_string (P := P) (t := e) (z (.lit (.string n.data.toList)) (by
        simp only [strs, List.mem_map]
        exact ⟨n, hn, rfl⟩))
      rw [Array.length_toList] at this
      exact this

/-- A slice of slices of bytes that can be read. -/
def ReadsRows (W : World) (A : Option Addr) (L : List (List Int)) : Prop :=
  0 < L.length → ∃ ad, A = some ad ∧ ∀ j, j < L.length → ∃ Aj cj, W.cell? (ad.add j) = some (.slice Aj (L.getD j []).length cj) ∧ (L.getD j []).length ≤ cj ∧ ReadsInt W .u8 Aj (L.getD j []).length (L.getD j []) ∧ (L.getD j []).length ≤ 140737488351232
theorem open_rows {e2 : TypeId} (ht : P.underlying t = some (.slice e)) (he : P.underlying e = some (.slice e2)) (hc : P.cellsOf e = 1) (he2 : P.underlying e2 = some (.int .u8)) (hc2 : P.cellsOf e2 = 1) (hB : P.bytesOf e2 = 1)
    (hl : Light P t d) (h : ∃ fuel, DataW.trod enc P W 0 (fun _ => true) true fuel t [.slice A len cap] = some (d, ps)) :
    ∃ L : List (List Int), len = L.length ∧ len ≤ cap ∧ ReadsRows W A L ∧ L.length ≤ 9223372036854775807 := by
  obtain ⟨fuel, hf⟩ := h
  rcases open_slice ht hf with ⟨hcs, _⟩ | ⟨x, l, c, m, n, D, Pl, hcs, _, hlc, hm, hmm, hx, hi⟩
  · simp at hcs
    obtain ⟨rfl, rfl, rfl⟩ := hcs
    exact ⟨[], rfl, Nat.le_refl _, fun h => by simp at h, by simp⟩
  · simp at hcs
    obtain ⟨rfl, rfl, rfl⟩ := hcs
    obtain ⟨hx, _⟩ := Prod.mk.inj hx
    subst hx
    have z := (light_slice hl ht).2
    simp only [if_true] at hmm
    have hle : len ≤ 9223372036854775807 := by unfold maxLen at hm; omega
    have each : ∀ j, j < len → ∃ xs : List Int, ∃ Aj cj, W.cell? (x.add j) = some (.slice Aj xs.length cj) ∧ xs.length ≤ cj ∧ ReadsInt W .u8 Aj xs.length xs ∧ xs.length ≤ 140737488351232 := by
      intro j hj
      obtain ⟨cs', hcs', ht'⟩ := hi j (by omega)
      rw [hc, Nat.mul_one] at hcs'
      obtain ⟨_, hlen, hcell⟩ := World.cells?_some hcs'
      match cs', hlen with
      | [v], _ =>
        have hv := hcell 0 (by omega)
        have hadd : (x.add j).add 0 = x.add j := by simp [Addr.add]
        rw [hadd] at hv
        simp only [List.getElem?_cons_zero] at hv
        have hslice : ∃ Aj lj cj, v = .slice Aj lj cj := by
          rcases open_ints he he2 hc2 ht' with ⟨hh, _⟩ | ⟨y, l2, c2, zs, hh, _⟩
          · exact ⟨none, 0, 0, by simpa using hh⟩
          · exact ⟨some y, l2, c2, by simpa using hh⟩
        obtain ⟨Aj, lj, cj, rfl⟩ := hslice
        obtain ⟨xs, hxl, hxc, hxr, _, hxb⟩ := open_nums he he2 hc2 hB (z (D j) (List.mem_map.2 ⟨j, List.mem_range.2 hj, rfl⟩)) ⟨n, ht'⟩
        subst hxl
        exact ⟨xs, Aj, cj, hv, hxc, hxr, by omega⟩
    refine ⟨(List.range len).map fun j => if hj : j < len then (each j hj).choose else [], by simp, hlc, fun h0 => ⟨x, rfl, fun j hj => ?_⟩, by simp; exact hle⟩
    simp at hj
    have hg : ((List.range len).map fun j => if hj : j < len then (each j hj).choose else []).getD j [] = (each j hj).choose := by
      simp [hj]
    rw [hg]
    exact (each j hj).choose_spec
end
end Go.Proofs.Ythhibgkgbcdjnaa.Openers

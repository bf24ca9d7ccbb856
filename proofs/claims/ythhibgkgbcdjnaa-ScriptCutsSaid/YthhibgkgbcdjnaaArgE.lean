/- How an event, and a row of events, read as arguments. -/
import Derived.Test.YthhibgkgbcdjnaaArgs
import Derived.Test.YthhibgkgbcdjnaaScrE
namespace Go.Proofs.Ythhibgkgbcdjnaa.Openers
open Go.Joins Go.ChangeShapes Go.WideShapes Go.RowKit Go.Deep Go.Proofs.YthhibgkgbcdjnaaW.PrintWords Go.Proofs.Ythhibgkgbcdjnaa.ScrP Go.Proofs.Ythhibgkgbcdjnaa.ScrW
set_option linter.unusedVariables false

section
variable {H : Type} {enc : TypeId × Value → H} {P : Program} {w : World} {base : Nat} {spare : Nat → Bool} {held : Bool}
theorem open_slice_fields {t e : TypeId} {fs : Array Field} {fuel : Nat} {cs : List Value} {x : DataW H × List MemPlace} (ht : P.underlying t = some (.slice e)) (he : P.underlying e = some (.struct fs))
    (hone : oneCellFields P fs = true) (hC : P.cellsOf e = fs.size) (h : DataW.trod enc P w base spare held fuel t cs = some x) :
    (cs = [.slice none 0 0] ∧ x = (.nil, [])) ∨
    ∃ (a : Addr) (len cap m : Nat) (D : Nat → DataW H) (Pl : Nat → List MemPlace), cs = [.slice (some a) len cap] ∧ base ≤ a.block ∧ len ≤ cap ∧ cap ≤ maxLen ∧ m = (if spare a.block then cap else len) ∧
      x = (.slice ((List.range len).map D) ((List.range (m - len)).map fun j => D (len + j)), MemPlace.row a (m * fs.size) ++ (List.range m).flatMap Pl) ∧
      ∀ i, i < m → ∃ (ys : List (DataW H × List MemPlace)) (n : Nat), D i = .agg (ys.map (·.1)) ∧ Pl i = ys.flatMap (·.2) ∧ ys.length = fs.size ∧
        ∀ (j : Nat) (f : Field), fs[j]? = some f → ∃ (v : Value) (y : DataW H × List MemPlace), w.cell? (a.add (i * fs.size + j)) = some v ∧ ys[j]? = some y ∧ DataW.trod enc P w base spare held n f.type [v] = some y := by
  rcases open_slice ht h with h0 | ⟨a, len, cap, m, n, D, Pl, hcs, hb, hl, hm, hmm, hx, hi⟩
  · exact .inl h0
  · refine .inr ⟨a, len, cap, m, D, Pl, hcs, hb, hl, hm, hmm, by rw [hC] at hx; exact hx, fun i him => ?_⟩
    obtain ⟨cs', hc, ht'⟩ := hi i him
    rw [hC] at hc
    obtain ⟨ys, n', hn', hy, hlen, hyl, hf⟩ := DataW.trod_struct he ht'
    obtain ⟨_, hcl, hat⟩ := World.cells?_some hc
    simp only [Prod.mk.injEq] at hy
    refine ⟨ys, n', hy.1, hy.2, hyl, fun j f hj => ?_⟩
    obtain ⟨ho, hk⟩ := hone_of hone j f hj
    have hjl : j < fs.size := (Array.getElem?_eq_some_iff.1 hj).1
    have hcell := hat j hjl
    have hv : cs'[j]? = some (cs'[j]'(by omega)) := List.getElem?_eq_getElem (by omega)
    have h1 := hf j f hj
    rw [ho, hk] at h1
    have hone' : (cs'.drop j).take 1 = [cs'[j]'(by omega)] := by
      rw [List.drop_eq_getElem_cons (by omega)]
      rfl
    rw [hone'] at h1
    have hys : ys[j]? = some (ys[j]'(by omega)) := List.getElem?_eq_getElem (by omega)
    refine ⟨_, _, ?_, hys, h1.trans hys⟩
    rw [← Go.Deep.add_add, hcell, hv]
end

section
variable {H : Type} {enc : TypeId × Value → H} {P : Program} {W : World} {t e : TypeId} {A : Option Addr} {len cap : Nat} {d : DataW H} {ps : List MemPlace} {f0 f1 f2 f3 : Field}
theorem weights_part {t : TypeId} {fs : Array Field} {ds : List (DataW H)} (hu : P.underlying t = some (.struct fs)) (h : Light P t (.agg ds)) : ∀ n ∈ DataW.weightsEach P (fs.toList.map (·.type)) ds, n ≤ reachBytes := by
  intro n hn
  refine h n ?_
  simp only [DataW.weights, hu]
  exact hn
theorem open_events (ht : P.underlying t = some (.slice e)) (he : P.underlying e = some (.struct #[f0, f1, f2, f3])) (hone : oneCellFields P #[f0, f1, f2, f3] = true) (hC : P.cellsOf e = 4) (hB : P.bytesOf e = 40)
    (k0 : P.underlying f0.type = some (.int .i64)) (k1 : P.underlying f1.type = some (.int .i64)) (k2 : P.underlying f2.type = some (.int .i64)) (k3 : P.underlying f3.type = some .string)
    (hl : Light P t d) (h : ∃ fuel, DataW.trod enc P W 0 (fun _ => true) true fuel t [.slice A len cap] = some (d, ps)) :
    ∃ L : List Ev, len = L.length ∧ len ≤ cap ∧ ReadsEv W A L := by
  obtain ⟨fuel, hf⟩ := h
  rcases open_slice_fields ht he hone hC hf with ⟨hcs, _⟩ | ⟨x, l, c, m, D, Pl, hcs, _, hlc, hm, hmm, hx, hi⟩
  · simp at hcs
    obtain ⟨rfl, rfl, rfl⟩ := hcs
    exact ⟨[], rfl, Nat.le_refl _, by simp, fun h => by simp at h⟩
  · simp at hcs
    obtain ⟨rfl, rfl, rfl⟩ := hcs
    obtain ⟨hx, _⟩ := Prod.mk.inj hx
    subst hx
    have z := light_slice hl ht
    simp only [if_true] at hmm
    have zl := z.1
    rw [hB] at zl
    simp only [List.length_map, List.length_range] at zl
    have hle : len ≤ 140737488351232 := by unfold reachBytes at zl; omega
    have each : ∀ j, j < len → ∃ ev : Ev, W.cell? (x.add (j * 4)) = some (.int .i64 ev.k) ∧ W.cell? (x.add (j * 4 + 1)) = some (.int .i64 ev.i) ∧ W.cell? (x.add (j * 4 + 2)) = some (.int .i64 ev.n) ∧ W.cell? (x.add (j * 4 + 3)) = some (.string ev.d) ∧ ev.d.size ≤ 140737488351232 := by
      intro j hj
      obtain ⟨ys, n, hD, _, hyl, hfs⟩ := hi j (by omega)
      obtain ⟨v0, y0, c0, g0, t0⟩ := hfs 0 f0 rfl
      obtain ⟨v1, y1, c1, g1, t1⟩ := hfs 1 f1 rfl
      obtain ⟨v2, y2, c2, g2, t2⟩ := hfs 2 f2 rfl
      obtain ⟨v3, y3, c3, g3, t3⟩ := hfs 3 f3 rfl
      obtain ⟨a0, e0, _, _⟩ := DataW.trod_int k0 t0
      obtain ⟨a1, e1, _, _⟩ := DataW.trod_int k1 t1
      obtain ⟨a2, e2, _, _⟩ := DataW.trod_int k2 t2
      obtain ⟨a3, e3, q3, _⟩ := DataW.trod_string k3 t3
      obtain rfl := (List.cons.inj e0).1
      obtain rfl := (List.cons.inj e1).1
      obtain rfl := (List.cons.inj e2).1
      obtain rfl := (List.cons.inj e3).1
      refine ⟨⟨a0, a1, a2, a3⟩, c0, c1, c2, c3, ?_⟩
      have zj := z.2 (D j) (List.mem_map.2 ⟨j, List.mem_range.2 hj, rfl⟩)
      rw [hD] at zj
      have hw := weights_part he zj
      have h3 : (ys.map (·.1))[3]? = some (.lit (.string a3.data.toList)) := by rw [List.getElem?_map, g3, q3]; rfl
      have := light_string (H := H) (P := P) (t := f3.type) (bytes := a3.data.toList) (fun n hn => hw n (DataW.weights_mem_each (j := 3) rfl h3 n hn))
      rw [Array.length_toList] at this
      exact this
    refine ⟨(List.range len).map fun j => if hj : j < len then (each j hj).choose else ev0, by simp, hlc, by simpa using hle, fun h0 => ⟨x, rfl, fun j hj => ?_⟩⟩
    simp at hj
    have hg : ((List.range len).map fun j => if hj : j < len then (each j hj).choose else ev0).getD j ev0 = (each j hj).choose := by
      simp [hj]
    rw [hg]
    exact (each j hj).choose_spec
end
end Go.Proofs.Ythhibgkgbcdjnaa.Openers

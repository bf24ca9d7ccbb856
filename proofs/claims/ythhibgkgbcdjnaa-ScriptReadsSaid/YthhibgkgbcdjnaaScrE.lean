/- How a row of events lies in memory; Few, Same. -/
import Derived.Test.YthhibgkgbcdjnaaScrN
import Derived.Test.YthhibgkgbcdjnaaScrR
namespace Go.Proofs.Ythhibgkgbcdjnaa.ScrW
open Go.RowKit Go.Proofs.YthhibgkgbcdjnaaW.PrintWords Go.Proofs.YthhibgkgbcdjnaaW.PrintMore Go.Proofs.Ythhibgkgbcdjnaa.Fr Go.Proofs.Ythhibgkgbcdjnaa.ScrP Go.Proofs.Ythhibgkgbcdjnaa.Openers
set_option linter.unusedVariables false
set_option linter.unusedSimpArgs false

/-- A slice of events that can be read. -/
def ReadsEv (W : World) (A : Option Addr) (L : List Ev) : Prop :=
  L.length ≤ 140737488351232 ∧ (0 < L.length → ∃ ad, A = some ad ∧ ∀ j, j < L.length → W.cell? (ad.add (j * 4)) = some (.int .i64 (L.getD j ev0).k) ∧ W.cell? (ad.add (j * 4 + 1)) = some (.int .i64 (L.getD j ev0).i) ∧ W.cell? (ad.add (j * 4 + 2)) = some (.int .i64 (L.getD j ev0).n) ∧ W.cell? (ad.add (j * 4 + 3)) = some (.string (L.getD j ev0).d) ∧ (L.getD j ev0).d.size ≤ 140737488351232)

def sz (L : List Ev) : Nat := (L.map fun e => e.d.size).sum
theorem sz_take (L : List Ev) (k : Nat) (h : k < L.length) (e : Ev) (he : L.getD k ev0 = e) : sz (L.take (k + 1)) = sz (L.take k) + e.d.size := by
  have : L.take (k + 1) = L.take k ++ [e] := by
    rw [List.take_succ_eq_append_getElem h, ← he]
    simp [h]
  rw [this]
  unfold sz
  simp only [List.map_append, List.sum_append, List.map_cons, List.map_nil, List.sum_cons, List.sum_nil, Nat.add_zero]

set_option maxHeartbeats 1000000 in
theorem few_calls (L : List Ev) (A : Option Addr) (cp : Nat) (w : World) (hr : ReadsEv w A L) :
    Calls Try.prog 8 #[.slice A L.length cp] w fun e w' => ∃ b, e = .returned (.bool b) ∧ (b = true → L.length ≤ 120 ∧ sz L ≤ 6000) ∧ Below w.heap.size w w' := by
  have hlm := hr.1
  have HR := Aside0.mk hr
  clear hr
  by_cases h120 : L.length ≤ 120
  · have H120 := Aside0.mk h120
    go_enter Try.func8, Try.ntmps8
    go_wp2
    go_loopw [3, 8] (fun v3 v8 wr => ∃ (k n : Nat), v8 = .int .i64 k ∧ k ≤ L.length ∧ v3 = .int .i64 n ∧ Aside0 (n = sz (L.take k)) ∧ n ≤ 140737488351232 * k ∧ Aside0 (Fr nope w wr)) (fun _ i _ => L.length - (intOf i).toNat)
    case atStart => exact ⟨0, 0, rfl, Nat.zero_le _, rfl, ⟨rfl⟩, by omega, ⟨Fr.refl _ _⟩⟩
    case round =>
      obtain ⟨k, n, rfl, hk, rfl, HN, hn, HF⟩ := hrel
      by_cases hlt : k < L.length
      · obtain ⟨ad, rfl, hcs⟩ := HR.out.2 (by omega)
        obtain ⟨h0, h1, h2, h3, h4⟩ := hcs k hlt
        obtain ⟨e, he⟩ : ∃ e, L.getD k ev0 = e := ⟨_, rfl⟩
        have HT := Aside0.mk (sz_take L k hlt e he)
        rw [he] at h0 h1 h2 h3 h4
        have back : ∀ {a : Addr} {v : Value}, w.cell? a = some v → wr.cell? a = some v := fun {a v} h => by
          rw [World.cell?_of_block (HF.out.block _ (World.block_lt_of_cell? w _ h) (fun h => h))]; exact h
        have g0 := back h0
        have g1 := back h1
        have g2 := back h2
        have g3 := back h3
        rw [add_field _ _ _ (by decide)] at g1 g2 g3
        clear back h0 h1 h2 h3 hcs he
        go_wp2
        go_roundw
        case rel => exact ⟨k + 1, n + e.d.size, by go_num, hlt, by go_num, ⟨by rw [HT.out, ← HN.out]⟩, by omega, ⟨(HF.out.alloc _)⟩⟩
        case measure => simp [intOf]; omega
      · have hk' : k = L.length := by omega
        have HN3 : Aside0 (n = sz L) := ⟨by rw [HN.out, hk', List.take_length]⟩
        have t1 : decide ((L.length : Int) ≤ 120) = true := decide_eq_true (by omega)
        clear h120 hk'
        go_wp2
        go_returns
        exact ⟨_, rfl, fun h => ⟨H120.out, by rw [← HN3.out]; have := of_decide_eq_true h; omega⟩, HF.out.to_below (Nat.le_refl _) (fun i h => h.elim)⟩
  · have t1 : decide ((L.length : Int) ≤ 120) = false := decide_eq_false (by omega)
    clear h120
    go_enter Try.func8, Try.ntmps8
    go_wp2
    go_loopw [3, 8] (fun v3 v8 wr => ∃ (k : Nat) (n : Int), v8 = .int .i64 k ∧ k ≤ L.length ∧ v3 = .int .i64 n ∧ Aside0 (Fr nope w wr)) (fun _ i _ => L.length - (intOf i).toNat)
    case atStart => exact ⟨0, 0, rfl, Nat.zero_le _, rfl, ⟨Fr.refl _ _⟩⟩
    case round =>
      obtain ⟨k, n, rfl, hk, rfl, HF⟩ := hrel
      by_cases hlt : k < L.length
      · obtain ⟨ad, rfl, hcs⟩ := HR.out.2 (by omega)
        obtain ⟨h0, h1, h2, h3, h4⟩ := hcs k hlt
        obtain ⟨e, he⟩ : ∃ e, L.getD k ev0 = e := ⟨_, rfl⟩
        rw [he] at h0 h1 h2 h3 h4
        have back : ∀ {a : Addr} {v : Value}, w.cell? a = some v → wr.cell? a = some v := fun {a v} h => by
          rw [World.cell?_of_block (HF.out.block _ (World.block_lt_of_cell? w _ h) (fun h => h))]; exact h
        have g0 := back h0
        have g1 := back h1
        have g2 := back h2
        have g3 := back h3
        rw [add_field _ _ _ (by decide)] at g1 g2 g3
        clear back h0 h1 h2 h3 hcs he
        go_wp2
        go_roundw
        case rel => exact ⟨k + 1, _, by go_num, hlt, rfl, ⟨(HF.out.alloc _)⟩⟩
        case measure => simp [intOf]; omega
      · go_wp2
        go_returns
        exact ⟨_, rfl, (fun h => by cases h), HF.out.to_below (Nat.le_refl _) (fun i h => h.elim)⟩
end Go.Proofs.Ythhibgkgbcdjnaa.ScrW

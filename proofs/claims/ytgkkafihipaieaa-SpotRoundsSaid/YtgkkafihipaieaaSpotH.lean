/- What head and few of the statements answer. -/
import Derived.Test.YtgkkafihipaieaaSpotM
namespace Go.Proofs.Ytgkkafihipaieaa.SpotW
open Go.RowKit Go.Proofs.YtgkkafihipaieaaW.PrintWords Go.Proofs.YtgkkafihipaieaaW.PrintMore Go.Proofs.Ytgkkafihipaieaa.Fr Go.Proofs.Ytgkkafihipaieaa.SpotP Go.Proofs.Ytgkkafihipaieaa.Flt Go.Proofs.Ytgkkafihipaieaa.Openers
set_option linter.unusedVariables false
set_option linter.unusedSimpArgs false

theorem good_sp0 (n : Int) : SpGood (sp0 (wd n)) := by unfold SpGood sp0 wd; simp only; omega

theorem head_calls (w : World) :
    Calls Try.prog 7 #[] w fun e w' => e = .returned (.bool true) ∧ Below w.heap.size w w' := by
  have kc := fun (w : World) (C : Array Value) (n c : Nat) => Lib.run_convert_bytes_const (P := Try.prog) w 29 5 C n c Try.underlying29 Try.underlying5
  go_enter Try.func7, Try.ntmps7
  go_wp2_with (first | (go_at_call 9; refine (new_calls 4 _).mono ?_; rintro e w1 ⟨rfl, hs1, hb1⟩; have HS1 := Aside0.mk hs1; have HB1 := Aside0.mk hb1; clear hs1 hb1) | (go_at_call 11; refine (put_calls (sp0 (wd 4)) [97, 98, 99, 100, 101] _ _ w.heap.size _ (blk_alloc HS1.out _) (good_sp0 4) (by decide) (reads_lit _ .u8 [97, 98, 99, 100, 101] 5 _ (by decide)) ?aA).mono ?_; (case aA => (intro _ ad e; cases e; have := blk_lt HS1.out; show w1.heap.size ≠ _; omega)); rintro e w2 ⟨rfl, hs2, hf2⟩; have HS2 := Aside0.mk hs2; have HF2 := Aside0.mk hf2; clear hs2 hf2) | (go_at_call 13; refine (at_calls w.heap.size _ _ (good_all _ _ (good_sp0 4)) (by decide) HS2.out).mono ?_; rintro e w3 ⟨rfl, n3, rfl⟩))
  go_ret
  refine ⟨by kernel_rfl, ?_⟩
  exact ((((Fr.of_below HB1.out).alloc _).trans HF2.out (S := only w.heap.size) (fun _ _ h => h)).drewN n3).to_below (Nat.le_refl _) (fun i h => Nat.le_of_eq h.symm)

def tally (L : List (List Int)) : Nat := (L.map List.length).sum
theorem tally_take (L : List (List Int)) (k : Nat) (h : k < L.length) (b : List Int) (hb : L.getD k [] = b) : tally (L.take (k + 1)) = tally (L.take k) + b.length := by
  have : L.take (k + 1) = L.take k ++ [b] := by
    rw [List.take_succ_eq_append_getElem h, ← hb]
    simp [h]
  rw [this]
  unfold tally
  simp only [List.map_append, List.sum_append, List.map_cons, List.map_nil, List.sum_cons, List.sum_nil, Nat.add_zero]

set_option maxHeartbeats 1000000 in
theorem few_calls (L : List (List Int)) (A : Option Addr) (cp : Nat) (w : World) (hr : ReadsRows w A L) (hLm : L.length ≤ 9223372036854775807) :
    Calls Try.prog 8 #[.slice A L.length cp] w fun e w' => ∃ b, e = .returned (.bool b) ∧ (b = true → L.length ≤ 100 ∧ tally L ≤ 2000) ∧ Below w.heap.size w w' := by
  have HR := Aside0.mk hr
  clear hr
  by_cases h100 : L.length ≤ 100
  · go_enter Try.func8, Try.ntmps8
    go_wp2
    go_loopw [3, 8] (fun v3 v8 wr => ∃ (k n : Nat), v8 = .int .i64 k ∧ k ≤ L.length ∧ v3 = .int .i64 n ∧ Aside0 (n = tally (L.take k)) ∧ n ≤ 140737488351232 * k ∧ wr = w) (fun _ i _ => L.length - (intOf i).toNat)
    case atStart => exact ⟨0, 0, rfl, Nat.zero_le _, rfl, ⟨rfl⟩, by omega, rfl⟩
    case round =>
      obtain ⟨k, n, rfl, hk, rfl, HN, hn, rfl⟩ := hrel
      by_cases hlt : k < L.length
      · obtain ⟨b, hb⟩ : ∃ b, L.getD k [] = b := ⟨_, rfl⟩
        obtain ⟨ad, rfl, hcs⟩ := HR.out (by omega)
        obtain ⟨Aj, cj, hcell, hcj, hrj, hbl⟩ := hcs k hlt
        have HT := Aside0.mk (tally_take L k hlt b hb)
        rw [hb] at hcell hcj hrj hbl
        clear hcs hb hrj
        go_wp2
        go_roundw
        case rel => exact ⟨k + 1, n + b.length, by go_num, hlt, by go_num, ⟨by rw [HT.out, ← HN.out]⟩, by omega, trivial⟩
        case measure => simp [intOf]; omega
      · have hk' : k = L.length := by omega
        have HN2 : n = tally L := by rw [HN.out, hk', List.take_length]
        have HN3 := Aside0.mk HN2
        have t100 : decide ((L.length : Int) ≤ 100) = true := decide_eq_true (by omega)
        clear HN2
        go_wp2
        go_ret
        exact ⟨_, rfl, fun h => ⟨h100, by rw [← HN3.out]; have := of_decide_eq_true h; omega⟩, Below.refl _ _⟩
  · have t100 : decide ((L.length : Int) ≤ 100) = false := decide_eq_false (by omega)
    go_enter Try.func8, Try.ntmps8
    go_wp2
    go_loopw [3, 8] (fun v3 v8 wr => ∃ (k : Nat) (n : Int), v8 = .int .i64 k ∧ k ≤ L.length ∧ v3 = .int .i64 n ∧ wr = w) (fun _ i _ => L.length - (intOf i).toNat)
    case atStart => exact ⟨0, 0, rfl, Nat.zero_le _, rfl, rfl⟩
    case round =>
      obtain ⟨k, n, rfl, hk, rfl, rfl⟩ := hrel
      by_cases hlt : k < L.length
      · obtain ⟨b, hb⟩ : ∃ b, L.getD k [] = b := ⟨_, rfl⟩
        obtain ⟨ad, rfl, hcs⟩ := HR.out (by omega)
        obtain ⟨Aj, cj, hcell, hcj, hrj, hbl⟩ := hcs k hlt
        rw [hb] at hcell hcj hrj hbl
        clear hcs hb hrj
        go_wp2
        go_roundw
        case rel => exact ⟨k + 1, _, by go_num, hlt, rfl, trivial⟩
        case measure => simp [intOf]; omega
      · go_wp2
        go_ret
        exact ⟨_, rfl, (fun h => by cases h), Below.refl _ _⟩
end Go.Proofs.Ytgkkafihipaieaa.SpotW

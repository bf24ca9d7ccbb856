/- The law SpotPuts, walked: true. -/
import Derived.Test.YtgkkafihipaieaaSpotH
namespace Go.Proofs.Ytgkkafihipaieaa.SpotW
open Go.RowKit Go.Proofs.YtgkkafihipaieaaW.PrintWords Go.Proofs.YtgkkafihipaieaaW.PrintMore Go.Proofs.Ytgkkafihipaieaa.Fr Go.Proofs.Ytgkkafihipaieaa.SpotP Go.Proofs.Ytgkkafihipaieaa.Flt Go.Proofs.Ytgkkafihipaieaa.Openers
set_option linter.unusedVariables false
set_option linter.unusedSimpArgs false

theorem fr_readsRows {S : Nat → Prop} {w w1 : World} {A : Option Addr} {L : List (List Int)} (h : Fr S w w1) (hr : ReadsRows w A L) (hS : ∀ i, i < w.heap.size → ¬ S i) : ReadsRows w1 A L := by
  intro h0
  obtain ⟨ad, hA, hx⟩ := hr h0
  refine ⟨ad, hA, fun j hj => ?_⟩
  obtain ⟨Aj, cj, hc, hle, hri, hb⟩ := hx j hj
  have hlt := World.block_lt_of_cell? w _ hc
  refine ⟨Aj, cj, ?_, hle, ?_, hb⟩
  · rw [World.cell?_of_block (h.block _ hlt (hS _ hlt))]; exact hc
  · refine ⟨hri.1, hri.2.1, fun h0 => ?_⟩
    obtain ⟨ad2, hA2, hc2⟩ := hri.2.2 h0
    refine ⟨ad2, hA2, fun i hi => ?_⟩
    have hl2 := World.block_lt_of_cell? w _ (hc2 i hi)
    rw [World.cell?_of_block (h.block _ hl2 (hS _ hl2))]
    exact hc2 i hi

/-- a spot and a model at the same place, both younger than the world w -/
structure PI (w : World) (g m : Nat) (s : Sp) (wr : World) : Prop where
  spot : IsSpot wr g s
  mod : IsModel wr m s
  fr : Fr nope w wr
  gg : w.heap.size ≤ g
  gm : w.heap.size ≤ m
  ne : g ≠ m

theorem flat_take (L : List (List Int)) (k : Nat) (h : k < L.length) (b : List Int) (hb : L.getD k [] = b) : (L.take (k + 1)).flatten = (L.take k).flatten ++ b := by
  rw [List.take_succ_eq_append_getElem h, List.flatten_append, ← hb]
  simp [h]
theorem tally_flat (L : List (List Int)) : L.flatten.length = tally L := by simp [tally, List.length_flatten]
theorem tally_le (L : List (List Int)) (k : Nat) : tally (L.take k) ≤ tally L := by
  have h : tally L = tally (L.take k) + tally (L.drop k) := by
    unfold tally
    rw [← List.sum_append, ← List.map_append, List.take_append_drop]
  omega
theorem rd_apart {w : World} {b : List Int} {A : Option Addr} {g : Nat} (hr : ReadsInt w .u8 A b.length b) (hg : w.heap.size ≤ g) : 0 < b.length → ∀ ad, A = some ad → ad.block ≠ g := by
  intro h0 ad e
  obtain ⟨ad2, e2, hc⟩ := hr.2.2 h0
  rw [e] at e2
  cases e2
  have := World.block_lt_of_cell? w _ (hc 0 h0)
  have hb : (ad.add 0).block = ad.block := by unfold Addr.add; split <;> rfl
  omega

set_option maxHeartbeats 2000000 in
set_option maxRecDepth 100000 in
theorem puts_calls (n : Int) (L : List (List Int)) (A : Option Addr) (cp : Nat) (w : World) (hr : ReadsRows w A L) (hLm : L.length ≤ 9223372036854775807) :
    Calls Try.prog 3 #[.int .i64 n, .slice A L.length cp] w fun e w' => e = .returned (.bool true) ∧ Below w.heap.size w w' := by
  have HR := Aside0.mk hr
  clear hr
  go_enter Try.func3, Try.ntmps3
  go_wp2_with fail
  refine (head_calls _).mono ?_
  rintro e w1 ⟨rfl, hb1⟩
  have HB1 := Aside0.mk hb1
  clear hb1
  have HR1 : Aside0 (ReadsRows w1 A L) := ⟨fr_readsRows (Fr.of_below (S := nope) HB1.out) HR.out (fun _ _ h => h)⟩
  go_wp2_with fail
  refine (few_calls L A cp _ HR1.out hLm).mono ?_
  rintro e w2 ⟨b, rfl, hbt, hb2⟩
  have HB2 := Aside0.mk hb2
  clear hb2
  cases b
  · clear hbt
    go_wp2
    go_ret
    exact ⟨rfl, ((Fr.of_below (S := nope) HB1.out).below HB2.out).to_below (Nat.le_refl _) (fun i h => h.elim)⟩
  · obtain ⟨h100, htal⟩ := hbt rfl
    clear hbt
    go_wp2_with fail
    refine (new_calls n _).mono ?_
    rintro e w3 ⟨rfl, hs3, hb3⟩
    have HS3 := Aside0.mk hs3
    have HB3 := Aside0.mk hb3
    clear hs3 hb3
    go_wp2_with fail
    refine (model_new n _).mono ?_
    rintro e w4 ⟨rfl, hm4, hb4⟩
    have HM4 := Aside0.mk hm4
    have HB4 := Aside0.mk hb4
    clear hm4 hb4
    have hw1 : w.heap.size ≤ w1.heap.size := HB1.out.size
    have hw2 : w1.heap.size ≤ w2.heap.size := HB2.out.size
    have hw3 : w2.heap.size < w3.heap.size := blk_lt HS3.out
    have HI0 : Aside0 (PI w w2.heap.size w3.heap.size (sp0 (wd n)) w4) := ⟨{ spot := blk_below HS3.out HB4.out, mod := HM4.out, fr := (((Fr.of_below HB1.out).below HB2.out).below HB3.out).below HB4.out, gg := by omega, gm := by omega, ne := by omega }⟩
    have HTAL := Aside0.mk htal
    generalize w2.heap.size = g at *
    generalize w3.heap.size = m at *
    clear HR1 HB1 HB2 HS3 HB3 HM4 HB4 hw1 hw2 hw3 htal
    go_wp2
    go_loopw [24] (fun v24 wr => ∃ (k : Nat) (s : Sp), v24 = .int .i64 k ∧ k ≤ L.length ∧ Aside0 (allS (sp0 (wd n)) (L.take k).flatten = s) ∧ Aside0 (PI w g m s wr)) (fun i _ => L.length - (intOf i).toNat)
    case atStart => exact ⟨0, sp0 (wd n), rfl, Nat.zero_le _, ⟨rfl⟩, HI0⟩
    case round =>
      obtain ⟨k, s, rfl, hk, HE, HI⟩ := hrel
      clear HI0
      by_cases hlt : k < L.length
      · obtain ⟨b, hb⟩ : ∃ b, L.getD k [] = b := ⟨_, rfl⟩
        have HRR := (fr_readsRows HI.out.fr HR.out (fun _ _ h => h))
        obtain ⟨ad, rfl, hcs⟩ := HRR (by omega)
        obtain ⟨Aj, cj, hcell, hcj, hrj, hbl⟩ := hcs k hlt
        obtain ⟨ad', e', hcs0⟩ := HR.out (by omega)
        cases e'
        obtain ⟨Aj', cj', hcell0, hcj0, hrj0, hbl0⟩ := hcs0 k hlt
        have hsame : Aj' = Aj := by
          have h1 := HI.out.fr.block _ (World.block_lt_of_cell? w _ hcell0) (fun h => h)
          have h2 := World.cell?_of_block h1
          rw [hcell, hcell0] at h2
          simp only [Option.some.injEq, Value.slice.injEq] at h2
          exact h2.1.symm
        rw [hsame] at hrj0
        rw [hb] at hcell hcj hrj hbl hrj0
        have hT : tally (L.take k) + b.length ≤ 2000 := by
          have h1 := tally_take L k hlt b hb
          have h2 := tally_le L (k + 1)
          have := HTAL.out
          omega
        have hbl2 : b.length ≤ 2000 := by omega
        have HN : Aside0 (allS (sp0 (wd n)) (L.take (k + 1)).flatten = allS s b) := ⟨by rw [flat_take L k hlt b hb, allS_append, HE.out]⟩
        have HG : Aside0 (SpGood s) := ⟨by rw [← HE.out]; exact good_all _ _ (good_sp0 n)⟩
        have HROW : Aside0 (s.r + b.length ≤ 4000) := ⟨by
          have h1 := row_all (L.take k).flatten (sp0 (wd n))
          rw [HE.out, tally_flat] at h1
          have : (sp0 (wd n)).r = 0 := rfl
          omega⟩
        have HRJ := Aside0.mk hrj
        have HRJ0 := Aside0.mk hrj0
        clear HRR hcs hcs0 hb hcell0 hcj0 hbl0 hsame hrj hrj0 hT
        go_wp2_with (first | (go_at_call 11; refine (put_calls s b _ _ g _ HI.out.spot HG.out (by have := HROW.out; omega) HRJ.out (rd_apart HRJ0.out HI.out.gg)).mono ?_; rintro e w5 ⟨rfl, hs5, hf5⟩; have HS5 := Aside0.mk hs5; have HF5 := Aside0.mk hf5; clear hs5 hf5))
        go_loopw [33] (fun v33 wi => ∃ (i : Nat) (sm : Sp), v33 = .int .i64 i ∧ i ≤ b.length ∧ Aside0 (allS s (b.take i) = sm) ∧ Aside0 (IsModel wi m sm) ∧ Aside0 (Fr (fun j => j = g ∨ j = m) wr wi) ∧ Aside0 (IsSpot wi g (allS s b))) (fun i _ => b.length - (intOf i).toNat)
        case atStart => exact ⟨0, s, rfl, Nat.zero_le _, ⟨rfl⟩, ⟨HF5.out.blk HI.out.mod (fun h => HI.out.ne h.symm)⟩, ⟨HF5.out.mono (fun i _ h => .inl h)⟩, HS5⟩
        case round =>
          obtain ⟨i, sm, rfl, hi, HES, HM, HF, HS⟩ := hrel
          have HFN : Aside0 (Fr nope w wr) := ⟨HI.out.fr.trans HF.out (fun i hi h => by
            have h1 := HI.out.gg
            have h2 := HI.out.gm
            rcases h with rfl | rfl <;> omega)⟩
          by_cases hlt2 : i < b.length
          · obtain ⟨adj, eAj, hcb⟩ := (HFN.out.reads HRJ0.out (fun _ _ h => h)).2.2 (by omega)
            have hcellb := hcb i hlt2
            obtain ⟨c, hc⟩ : ∃ c, b.getD i 0 = c := ⟨_, rfl⟩
            rw [hc] at hcellb
            have HNS : Aside0 (allS s (b.take (i + 1)) = byteS sm c) := ⟨by rw [allS_take b s i hlt2, HES.out, hc]⟩
            have HGS : Aside0 (SpGood sm) := ⟨by rw [← HES.out]; exact good_all _ _ HG.out⟩
            have HRS : Aside0 (sm.r < 4100) := ⟨by
              have h1 := row_all (b.take i) s
              rw [HES.out, List.length_take] at h1
              have := HROW.out
              omega⟩
            subst eAj
            clear hcb hc hcell
            go_wp2_with (first | (go_at_call 12; refine (byte_calls m c sm _ HGS.out HRS.out HM.out).mono ?_; rintro e w6 ⟨rfl, hm6, hf6⟩; have HM6 := Aside0.mk hm6; have HF6 := Aside0.mk hf6; clear hm6 hf6))
            go_roundw
            case rel => exact ⟨i + 1, _, by go_num, hlt2, HNS, HM6, ⟨HF.out.trans HF6.out (fun _ _ h => .inr h)⟩, ⟨HF6.out.blk HS.out HI.out.ne⟩⟩
            case measure => simp [intOf]; omega
          · have hi2 : i = b.length := by omega
            have hes : sm = allS s b := by rw [← HES.out, hi2, List.take_length]
            subst hes
            obtain ⟨s2, hs2⟩ : ∃ s2, s2 = allS s b := ⟨_, rfl⟩
            rw [← hs2] at HM HS
            have hg2 : SpGood s2 := by rw [hs2]; exact good_all _ _ HG.out
            have hr2 : s2.r < 4200 := by
              have h1 := row_all b s
              rw [← hs2] at h1
              have := HROW.out
              omega
            have d0 : wr.cell? ⟨m, 0, none⟩ = some (.int .i64 s2.w) := (blk_cell HM.out 0).trans rfl
            have d1 : wr.cell? ⟨m, 1, none⟩ = some (.int .i64 s2.c) := (blk_cell HM.out 1).trans rfl
            have d2 : wr.cell? ⟨m, 2, none⟩ = some (.int .i64 s2.r) := (blk_cell HM.out 2).trans rfl
            have t1 : decide ((s2.c : Int) < 0) = false := decide_eq_false (by omega)
            have t2 : decide ((s2.r : Int) < 0) = false := decide_eq_false (by omega)
            have t3 : s2.c < s2.w := hg2.1
            have HN2 : Aside0 (allS (sp0 (wd n)) (L.take (k + 1)).flatten = s2) := ⟨by rw [HN.out, hs2]⟩
            have HG2 := Aside0.mk hg2
            have HR2 := Aside0.mk hr2
            clear hs2 hg2 hr2 hcell HES
            go_wp2_with (first | (go_at_call 13; refine (at_calls g s2 _ HG2.out HR2.out HS.out).mono ?_; rintro e w6 ⟨rfl, n6, rfl⟩))
            go_roundw
            case rel => exact ⟨k + 1, s2, by go_num, hlt, HN2, ⟨{ spot := HS.out, mod := HM.out, fr := HFN.out.drewN n6, gg := HI.out.gg, gm := HI.out.gm, ne := HI.out.ne }⟩⟩
            case measure => simp [intOf]; omega
      · go_wp2
        go_ret
        exact ⟨rfl, HI.out.fr.to_below (Nat.le_refl _) (fun i h => h.elim)⟩
theorem SpotPuts_walk (W : World) (n : Int) (_hn : (Lit.int .i64 n).wf = true) (A : Option Addr) (cp : Nat) (L : List (List Int)) (_hc : L.length ≤ cp) (hr : ReadsRows W A L) (hl : L.length ≤ 9223372036854775807) :
    Calls Try.prog 3 #[.int .i64 n, .slice A L.length cp] W fun e w' => e = .returned (.bool true) ∧ Below W.heap.size W w' := puts_calls n L A cp W hr hl
end Go.Proofs.Ytgkkafihipaieaa.SpotW

/- What Put of spot does: byte after byte. -/
import Derived.Test.YtgkkafihipaieaaSpotV
namespace Go.Proofs.Ytgkkafihipaieaa.SpotW
open Go.RowKit Go.Proofs.YtgkkafihipaieaaW.PrintWords Go.Proofs.YtgkkafihipaieaaW.PrintMore Go.Proofs.Ytgkkafihipaieaa.Fr Go.Proofs.Ytgkkafihipaieaa.SpotP Go.Proofs.Ytgkkafihipaieaa.Flt
set_option linter.unusedVariables false
set_option linter.unusedSimpArgs false
attribute [local go_sem] run_store_float run_store_complex

theorem st_three {s : Sp} (h : SpGood s) : s.st = 0 ∨ s.st = 1 ∨ s.st = 2 := by have := h.2.2; omega

theorem put_calls (s0 : Sp) (bs : List Int) (A : Option Addr) (cp g : Nat) (w : World) (hS : IsSpot w g s0) (hg : SpGood s0) (hrow : s0.r + bs.length ≤ 4100)
    (hr : ReadsInt w .u8 A bs.length bs) (hA : 0 < bs.length → ∀ ad, A = some ad → ad.block ≠ g) :
    Calls Try.prog 11 #[.pointer (some ⟨g, 0, none⟩), .slice A bs.length cp] w fun e w' => e = .returned (.tuple #[]) ∧ IsSpot w' g (allS s0 bs) ∧ Fr (only g) w w' := by
  have hlen : bs.length ≤ 4100 := by omega
  have hlen1 : (bs.length : Int) ≤ 4100 := by omega
  have i0 : ∀ w, (Instr.index 47 (.agg #[.int .i64 3, .int .i64 1, .int .i64 0, .int .i64 2]) (.int .u8 0)).run Try.prog w = .ok (.int .i64 3) w := fun _ => by kernel_rfl
  have i1 : ∀ w, (Instr.index 47 (.agg #[.int .i64 3, .int .i64 1, .int .i64 0, .int .i64 2]) (.int .u8 1)).run Try.prog w = .ok (.int .i64 1) w := fun _ => by kernel_rfl
  have i2 : ∀ w, (Instr.index 47 (.agg #[.int .i64 3, .int .i64 1, .int .i64 0, .int .i64 2]) (.int .u8 2)).run Try.prog w = .ok (.int .i64 0) w := fun _ => by kernel_rfl
  have i3 : ∀ w, (Instr.index 47 (.agg #[.int .i64 3, .int .i64 1, .int .i64 0, .int .i64 2]) (.int .u8 3)).run Try.prog w = .ok (.int .i64 2) w := fun _ => by kernel_rfl
  have HS := Aside0.mk hS
  have HG := Aside0.mk hg
  have HROW := Aside0.mk hrow
  have HR := Aside0.mk hr
  have HA := Aside0.mk hA
  clear hS hg hrow hr hA
  go_enter Try.func11, Try.ntmps11
  go_wp2
  go_loopw [8] (fun v8 wr => ∃ (k : Nat) (s : Sp), v8 = .int .i64 k ∧ k ≤ bs.length ∧ Aside0 (allS s0 (bs.take k) = s) ∧ Aside0 (IsSpot wr g s) ∧ Aside0 (Fr (only g) w wr)) (fun i _ => bs.length - (intOf i).toNat)
  case atStart => exact ⟨0, s0, rfl, Nat.zero_le _, ⟨rfl⟩, HS, ⟨Fr.refl _ _⟩⟩
  case round =>
    obtain ⟨k, s, rfl, hk, HE, HI, HF⟩ := hrel
    clear HS
    by_cases hlt : k < bs.length
    · have hrd := HF.out.reads HR.out (fun ad e h => HA.out (by omega) ad e h)
      obtain ⟨ad, hAe, hcells⟩ := hrd.2.2 (by omega)
      obtain rfl := hAe
      obtain ⟨c, hc⟩ : ∃ c, bs.getD k 0 = c := ⟨_, rfl⟩
      have hcell := hcells k hlt
      rw [hc] at hcell
      have HN : Aside0 (allS s0 (bs.take (k + 1)) = byteS s c) := ⟨by rw [allS_take bs s0 k hlt, HE.out, hc]⟩
      have hgs : SpGood s := by rw [← HE.out]; exact good_all _ _ HG.out
      have hrs : s.r < 4100 := by
        have h1 := row_all (bs.take k) s0
        rw [HE.out, List.length_take] at h1
        have := HROW.out
        omega
      have HG0 : Aside0 (SpGood { s with st := 0 }) := ⟨⟨hgs.1, hgs.2.1, Nat.zero_le _⟩⟩
      have HG1 := Aside0.mk hgs
      have HR1 := Aside0.mk hrs
      have h3 := st_three hgs
      have c2 : wr.cell? ⟨g, 2, none⟩ = some (.int .i64 s.st) := (blk_cell HI.out 2).trans rfl
      have f2 : wr.frozen? ⟨g, 2, none⟩ = false := blk_frozen HI.out 2
      clear hrd hcells hc hgs hrs
      rcases h3 with h2 | h2 | h2
      · have HE := Aside0.mk (show byteS s c = oneS s c by simp [byteS, h2])
        have t0 : ((s.st : Int) == 0) = true := by rw [h2]; rfl
        clear h2
        go_wp2_with (first | (go_at_call 14; refine (one_calls g c s _ HG1.out HR1.out HI.out).mono ?_; rintro e w1 ⟨rfl, hs1, hf1⟩; have HS1 := Aside0.mk hs1; have HF1 := Aside0.mk hf1; clear hs1 hf1))
        go_roundw
        case rel => exact ⟨k + 1, _, by go_num, hlt, HN, ⟨by rw [HE.out]; exact HS1.out⟩, ⟨HF.out.trans HF1.out (fun _ _ h => h)⟩⟩
        case measure => simp [intOf]; omega
      · rw [h2] at c2
        by_cases h91 : c = 91
        · subst h91
          have HE := Aside0.mk (show byteS s 91 = { s with st := 2 } by simp [byteS, h2])
          clear h2
          go_wp2
          go_roundw
          case rel => exact ⟨k + 1, _, by go_num, hlt, HN, ⟨by rw [HE.out]; exact spot_st (spot_st HI.out 0) 2⟩, ⟨(HF.out.set (fun _ => only_self g) 2 _).set (fun _ => only_self g) 2 _⟩⟩
          case measure => simp [intOf]; omega
        · have t91 : (c == 91) = false := beq_eq_false_iff_ne.2 h91
          have HE := Aside0.mk (show byteS s c = { s with st := 0 } by simp [byteS, h2, h91])
          clear h2 h91
          go_wp2
          go_roundw
          case rel => exact ⟨k + 1, _, by go_num, hlt, HN, ⟨by rw [HE.out]; exact spot_st HI.out 0⟩, ⟨HF.out.set (fun _ => only_self g) 2 _⟩⟩
          case measure => simp [intOf]; omega
      · rw [h2] at c2
        by_cases h65 : c = 65
        · subst h65
          have HE := Aside0.mk (show byteS s 65 = mvS { s with st := 0 } 3 by simp [byteS, moveS, mvS, h2])
          clear h2
          go_wp2_with (first | (go_at_call 16; refine (turns_calls 3 (by decide) _).mono ?_; rintro e w1 ⟨rfl, rfl⟩) | (go_at_call 15; refine (move_calls g 3 { s with st := 0 } _ (by decide) HG0.out HR1.out (spot_st HI.out 0)).mono ?_; rintro e w1 ⟨rfl, hs1, hf1⟩; have HS1 := Aside0.mk hs1; have HF1 := Aside0.mk hf1; clear hs1 hf1))
          go_roundw
          case rel => exact ⟨k + 1, _, by go_num, hlt, HN, ⟨by rw [HE.out]; exact HS1.out⟩, ⟨(HF.out.set (fun _ => only_self g) 2 _).trans HF1.out (fun _ _ h => h)⟩⟩
          case measure => simp [intOf]; omega
        have t65 : (c == 65) = false := beq_eq_false_iff_ne.2 h65
        by_cases h66 : c = 66
        · subst h66
          have HE := Aside0.mk (show byteS s 66 = mvS { s with st := 0 } 1 by simp [byteS, moveS, mvS, h2])
          clear h2 t65
          go_wp2_with (first | (go_at_call 16; refine (turns_calls 1 (by decide) _).mono ?_; rintro e w1 ⟨rfl, rfl⟩) | (go_at_call 15; refine (move_calls g 1 { s with st := 0 } _ (by decide) HG0.out HR1.out (spot_st HI.out 0)).mono ?_; rintro e w1 ⟨rfl, hs1, hf1⟩; have HS1 := Aside0.mk hs1; have HF1 := Aside0.mk hf1; clear hs1 hf1))
          go_roundw
          case rel => exact ⟨k + 1, _, by go_num, hlt, HN, ⟨by rw [HE.out]; exact HS1.out⟩, ⟨(HF.out.set (fun _ => only_self g) 2 _).trans HF1.out (fun _ _ h => h)⟩⟩
          case measure => simp [intOf]; omega
        have t66 : (c == 66) = false := beq_eq_false_iff_ne.2 h66
        by_cases h67 : c = 67
        · subst h67
          have HE := Aside0.mk (show byteS s 67 = mvS { s with st := 0 } 0 by simp [byteS, moveS, mvS, h2])
          clear h2 t65 t66
          go_wp2_with (first | (go_at_call 16; refine (turns_calls 0 (by decide) _).mono ?_; rintro e w1 ⟨rfl, rfl⟩) | (go_at_call 15; refine (move_calls g 0 { s with st := 0 } _ (by decide) HG0.out HR1.out (spot_st HI.out 0)).mono ?_; rintro e w1 ⟨rfl, hs1, hf1⟩; have HS1 := Aside0.mk hs1; have HF1 := Aside0.mk hf1; clear hs1 hf1))
          go_roundw
          case rel => exact ⟨k + 1, _, by go_num, hlt, HN, ⟨by rw [HE.out]; exact HS1.out⟩, ⟨(HF.out.set (fun _ => only_self g) 2 _).trans HF1.out (fun _ _ h => h)⟩⟩
          case measure => simp [intOf]; omega
        have t67 : (c == 67) = false := beq_eq_false_iff_ne.2 h67
        by_cases h68 : c = 68
        · subst h68
          have HE := Aside0.mk (show byteS s 68 = mvS { s with st := 0 } 2 by simp [byteS, moveS, mvS, h2])
          clear h2 t65 t66 t67
          go_wp2_with (first | (go_at_call 16; refine (turns_calls 2 (by decide) _).mono ?_; rintro e w1 ⟨rfl, rfl⟩) | (go_at_call 15; refine (move_calls g 2 { s with st := 0 } _ (by decide) HG0.out HR1.out (spot_st HI.out 0)).mono ?_; rintro e w1 ⟨rfl, hs1, hf1⟩; have HS1 := Aside0.mk hs1; have HF1 := Aside0.mk hf1; clear hs1 hf1))
          go_roundw
          case rel => exact ⟨k + 1, _, by go_num, hlt, HN, ⟨by rw [HE.out]; exact HS1.out⟩, ⟨(HF.out.set (fun _ => only_self g) 2 _).trans HF1.out (fun _ _ h => h)⟩⟩
          case measure => simp [intOf]; omega
        have t68 : (c == 68) = false := beq_eq_false_iff_ne.2 h68
        have HE := Aside0.mk (show byteS s c = { s with st := 0 } by simp [byteS, moveS, h2, h65, h66, h67, h68])
        clear h2 h65 h66 h67 h68
        go_wp2
        go_roundw
        case rel => exact ⟨k + 1, _, by go_num, hlt, HN, ⟨by rw [HE.out]; exact spot_st HI.out 0⟩, ⟨HF.out.set (fun _ => only_self g) 2 _⟩⟩
        case measure => simp [intOf]; omega
    · have hk' : k = bs.length := by omega
      go_wp2
      go_end0
      have h1 := HE.out
      rw [hk', List.take_length] at h1
      rw [h1]
      exact ⟨rfl, HI.out, HF.out⟩

end Go.Proofs.Ytgkkafihipaieaa.SpotW

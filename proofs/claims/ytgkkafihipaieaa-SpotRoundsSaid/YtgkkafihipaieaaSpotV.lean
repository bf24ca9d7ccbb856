/- What New, At, one and Put of spot do. -/
import Derived.Test.YtgkkafihipaieaaSpotW
import Derived.RegionTactic
import Derived.ChangeAlike
namespace Go.Proofs.Ytgkkafihipaieaa.SpotW
open Go.RowKit Go.Proofs.YtgkkafihipaieaaW.PrintWords Go.Proofs.YtgkkafihipaieaaW.PrintMore Go.Proofs.Ytgkkafihipaieaa.Fr Go.Proofs.Ytgkkafihipaieaa.SpotP Go.Proofs.Ytgkkafihipaieaa.Flt
set_option linter.unusedVariables false
set_option linter.unusedSimpArgs false
attribute [local go_sem] run_store_float run_store_complex

/-- the width that is kept -/
def wd (n : Int) : Nat := (max 1 (min n 500)).toNat
theorem new_calls (n : Int) (w : World) :
    Calls Try.prog 9 #[.int .i64 n] w fun e w' => e = .returned (.pointer (some ⟨w.heap.size, 0, none⟩)) ∧ IsSpot w' w.heap.size (sp0 (wd n)) ∧ Below w.heap.size w w' := by
  go_enter Try.func9, Try.ntmps9
  go_wp2
  · go_ret
    have : wd n = 500 := by unfold wd; omega
    exact ⟨rfl, by rw [this]; exact blk_new w _, below_alloc (Below.refl _ _) _⟩
  · go_ret
    have : floatOfInt .f64 n = F (wd n) := by unfold F wd; congr 1; omega
    exact ⟨rfl, by unfold IsSpot; show _ = some (Obj.cells #[.float .f64 (F (wd n)), _, _] _ _); rw [← this]; exact blk_new w _, below_alloc (Below.refl _ _) _⟩
  · go_ret
    have : wd n = 1 := by unfold wd; omega
    exact ⟨rfl, by rw [this]; exact blk_new w _, below_alloc (Below.refl _ _) _⟩

theorem at_calls (g : Nat) (s : Sp) (w : World) (hg : SpGood s) (hr : s.r < 4200) (hS : IsSpot w g s) :
    Calls Try.prog 13 #[.pointer (some ⟨g, 0, none⟩)] w fun e w' => e = .returned (.tuple #[.int .i64 s.c, .int .i64 s.r]) ∧ ∃ n, w' = w.drewN n := by
  have c1 : w.cell? ⟨g, 1, none⟩ = some (.complex .f64 (F s.c) (F s.r)) := (blk_cell hS 1).trans rfl
  have k1 := fun w => run_convert_float_int (P := Try.prog) w 41 2 .f64 .i64 _ _ (by rw [Try.underlying41]; rfl) Try.underlying2 (to_int s.c (by have := hg.1; have := hg.2.1; omega))
  have k2 := fun w => run_convert_float_int (P := Try.prog) w 41 2 .f64 .i64 _ _ (by rw [Try.underlying41]; rfl) Try.underlying2 (to_int s.r hr)
  clear hS hg hr
  go_enter Try.func13, Try.ntmps13
  go_wp2_with (simp only [k1, k2])
  go_quiet (fail)
  go_wp2
  go_ret2
  exact ⟨rfl, _, rfl⟩

theorem one_calls (g : Nat) (c : Int) (s : Sp) (w : World) (hg : SpGood s) (hr : s.r < 4100) (hS : IsSpot w g s) :
    Calls Try.prog 14 #[.pointer (some ⟨g, 0, none⟩), .int .u8 c] w fun e w' => e = .returned (.tuple #[]) ∧ IsSpot w' g (oneS s c) ∧ Fr (only g) w w' := by
  have HS := Aside0.mk hS
  have c0 : w.cell? ⟨g, 0, none⟩ = some (.float .f64 (F s.w)) := (blk_cell hS 0).trans rfl
  have c1 : w.cell? ⟨g, 1, none⟩ = some (.complex .f64 (F s.c) (F s.r)) := (blk_cell hS 1).trans rfl
  have c2 : w.cell? ⟨g, 2, none⟩ = some (.int .i64 s.st) := (blk_cell hS 2).trans rfl
  have f1 : w.frozen? ⟨g, 1, none⟩ = false := blk_frozen hS 1
  have f2 : w.frozen? ⟨g, 2, none⟩ = false := blk_frozen hS 2
  have HG := Aside0.mk hg
  have HR := Aside0.mk hr
  clear hS
  by_cases h27 : c = 27
  · subst h27
    clear hg hr
    go_enter Try.func14, Try.ntmps14
    go_wp2
    go_end0
    exact ⟨rfl, spot_st HS.out 1, (Fr.refl (only g) w).set (fun _ => only_self g) 2 _⟩
  have t27 : (c == 27) = false := beq_eq_false_iff_ne.2 h27
  by_cases h13 : c = 13
  · subst h13
    clear hg hr t27
    go_enter Try.func14, Try.ntmps14
    go_wp2
    go_end0
    have h1 := spot_at HS.out 0 s.r
    rw [F_zero] at h1
    exact ⟨rfl, h1, (Fr.refl (only g) w).set (fun _ => only_self g) 1 _⟩
  have t13 : (c == 13) = false := beq_eq_false_iff_ne.2 h13
  by_cases h10 : c = 10
  · subst h10
    have k1 := fun t w => run_complex_sum (P := Try.prog) w .add (Or.inl rfl) t .f64 (F s.c) (F s.r) 0 4607182418800017408 _ _ (csum_F .add _ _ _ _ _ _ (add_zero s.c (by have := hg.1; have := hg.2.1; omega)) (add_one s.r (by omega)))
    clear hg hr t27 t13
    go_enter Try.func14, Try.ntmps14
    go_wp2_with (simp only [k1])
    go_end0
    exact ⟨rfl, spot_at HS.out s.c (s.r + 1), (Fr.refl (only g) w).set (fun _ => only_self g) 1 _⟩
  have t10 : (c == 10) = false := beq_eq_false_iff_ne.2 h10
  by_cases h8 : c = 8
  · subst h8
    clear hg hr t27 t13 t10
    go_enter Try.func14, Try.ntmps14
    go_wp2_with (first | (go_at_call 16; refine (turns_calls 2 (by decide) _).mono ?_; rintro e w1 ⟨rfl, rfl⟩) | (go_at_call 15; refine (move_calls g 2 s _ (by decide) HG.out HR.out HS.out).mono ?_; rintro e w1 ⟨rfl, hs1, hf1⟩; have HS1 := Aside0.mk hs1; have HF1 := Aside0.mk hf1; clear hs1 hf1))
    go_end0
    exact ⟨rfl, HS1.out, HF1.out⟩
  have t8 : (c == 8) = false := beq_eq_false_iff_ne.2 h8
  by_cases h9 : c = 9
  · subst h9
    have k1 := fun w => run_convert_float_int (P := Try.prog) w 41 2 .f64 .i64 _ _ (by rw [Try.underlying41]; rfl) Try.underlying2 (to_int s.c (by have := hg.1; have := hg.2.1; omega))
    have k2 := fun t w => run_float_arith (P := Try.prog) w .sub t .f64 _ _ _ (sub_w s hg)
    have k3 := fun ts t w => run_fmin (P := Try.prog) w ts t _ _ _ (fmin_F (8 * (s.c / 8 + 1)) (s.w - 1) (by have := hg.1; have := hg.2.1; omega) (by have := hg.2.1; omega))
    clear hg hr t27 t13 t10 t8
    go_enter Try.func14, Try.ntmps14
    go_wp2_with (simp only [k1, k2, k3])
    have hfl : floatOfInt .f64 (wrap64 (8 * wrap64 (wrap64 ((s.c : Int) / 8) + 1))) = F (8 * (s.c / 8 + 1)) := by
      unfold F
      congr 1
      have := HG.out.1
      have := HG.out.2.1
      unfold wrap64
      omega
    simp only [hfl]
    clear hfl k1
    go_region
    go_wp2
    go_end0
    exact ⟨rfl, spot_at HS.out (min (8 * (s.c / 8 + 1)) (s.w - 1)) s.r, ((Fr.refl (only g) w).set (fun _ => only_self g) 1 _).drew⟩
  have t9 : (c == 9) = false := beq_eq_false_iff_ne.2 h9
  by_cases h32 : 32 ≤ c
  · by_cases h127 : c = 127
    · subst h127
      clear hg hr t27 t13 t10 t8 t9 h32
      go_enter Try.func14, Try.ntmps14
      go_wp2
      go_end0
      exact ⟨rfl, HS.out, Fr.refl _ _⟩
    · have t127 : (c == 127) = false := beq_eq_false_iff_ne.2 h127
      have t32 : decide (32 ≤ c) = true := decide_eq_true h32
      have HO := Aside0.mk (show oneS s c = signS s by simp [oneS, h27, h13, h10, h8, h9, h32, h127])
      clear hg hr h27 h13 h10 h8 h9 h32 h127
      go_enter Try.func14, Try.ntmps14
      go_wp2_with (first | (go_at_call 17; refine (sign_calls g s _ HG.out HR.out HS.out).mono ?_; rintro e w1 ⟨rfl, hs1, hf1⟩; have HS1 := Aside0.mk hs1; have HF1 := Aside0.mk hf1; clear hs1 hf1))
      go_end0
      rw [HO.out]
      exact ⟨rfl, HS1.out, HF1.out⟩
  · have t32 : decide (32 ≤ c) = false := decide_eq_false h32
    have HO := Aside0.mk (show oneS s c = s by simp [oneS, h27, h13, h10, h8, h9, h32])
    clear hg hr h27 h13 h10 h8 h9 h32
    go_enter Try.func14, Try.ntmps14
    go_wp2
    go_end0
    rw [HO.out]
    exact ⟨rfl, HS.out, Fr.refl _ _⟩
end Go.Proofs.Ytgkkafihipaieaa.SpotW

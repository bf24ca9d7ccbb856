/- What the functions of spot do to memory. -/
import Derived.Test.YtgkkafihipaieaaProg
import Derived.Test.YtgkkafihipaieaaFr
import Derived.Test.YtgkkafihipaieaaSpotP
import Derived.WalkKit
import Derived.KernelRfl
import Derived.RowKit3
import Derived.Outline
import Derived.Deep.DeepMust
import Derived.BigQuiet
import Derived.Deep.QuietTactic
import Derived.WalkLawsBesides
import Derived.Laws.Entries
namespace Go.Proofs.Ytgkkafihipaieaa.SpotW
open Go.RowKit Go.Proofs.YtgkkafihipaieaaW.PrintWords Go.Proofs.YtgkkafihipaieaaW.PrintMore Go.Proofs.Ytgkkafihipaieaa.Fr Go.Proofs.Ytgkkafihipaieaa.SpotP Go.Proofs.Ytgkkafihipaieaa.Flt
set_option linter.unusedVariables false
set_option linter.unusedSimpArgs false
theorem run_store_float (P : Program) (w : World) (a : Addr) (m : Mode) (k : FloatKind) (b : Nat) : (store a (.float k b) m).run P w = stored P w a (.float k b) m := run_store P w a _ m rfl
theorem run_store_complex (P : Program) (w : World) (a : Addr) (m : Mode) (k : FloatKind) (x y : Nat) : (store a (.complex k x y) m).run P w = stored P w a (.complex k x y) m := run_store P w a _ m rfl
attribute [local go_sem] run_store_float run_store_complex

/-- a spot at block g -/
def IsSpot (W : World) (g : Nat) (s : Sp) : Prop :=
  W.heap[g]? = some (.cells #[.float .f64 (F s.w), .complex .f64 (F s.c) (F s.r), .int .i64 s.st] 44 (0, 0))

def zre : Nat → Nat | 0 => 4607182418800017408 | 1 => 0 | 2 => 13830554455654793216 | _ => 9223372036854775808
def zim : Nat → Nat | 0 => 0 | 1 => 4607182418800017408 | 2 => 0 | _ => 13830554455654793216

theorem turns_calls (n : Nat) (hn : n < 4) (w : World) :
    Calls Try.prog 16 #[.int .i64 n] w fun e w' => e = .returned (.complex .f64 (zre n) (zim n)) ∧ w' = w := by
  have hz : ∀ k, k < 3 → cMulBits (zre k) (zim k) 0 4607182418800017408 = some (zre (k + 1), zim (k + 1)) := by
    intro k hk
    obtain rfl | rfl | rfl : k = 0 ∨ k = 1 ∨ k = 2 := by omega
    · exact turn0
    · exact turn1
    · exact turn2
  have HZ := Aside0.mk hz
  clear hz
  go_enter Try.func16, Try.ntmps16
  go_wp2
  go_loopw [3, 5] (fun v3 v5 wr => ∃ k : Nat, v5 = .int .i64 k ∧ k ≤ n ∧ v3 = .complex .f64 (zre k) (zim k) ∧ wr = w) (fun _ i _ => n - (intOf i).toNat)
  case atStart => exact ⟨0, rfl, Nat.zero_le _, rfl, rfl⟩
  case round =>
    obtain ⟨k, rfl, hk, rfl, rfl⟩ := hrel
    by_cases hlt : k < n
    · have t0 := fun t w => run_complex_mul (P := Try.prog) w t _ _ _ _ _ _ (HZ.out k (by omega))
      go_wp2_with (simp only [t0])
      case roundEnd =>
        refine ⟨⟨k + 1, by push_cast; rfl, by omega, rfl, trivial⟩, ?_⟩
        simp only [intOf]
        omega
    · obtain rfl : k = n := by omega
      go_wp2
      go_ret
      exact ⟨rfl, rfl⟩

theorem spot_at {W : World} {g : Nat} {s : Sp} (h : IsSpot W g s) (c r : Nat) : IsSpot (W.setCell ⟨g, 1, none⟩ (.complex .f64 (F c) (F r))) g { s with c := c, r := r } := blk_set (w := W) h 1 _
theorem spot_st {W : World} {g : Nat} {s : Sp} (h : IsSpot W g s) (st : Nat) : IsSpot (W.setCell ⟨g, 2, none⟩ (.int .i64 st)) g { s with st := st } := blk_set (w := W) h 2 _

theorem sign_calls (g : Nat) (s : Sp) (w : World) (hg : SpGood s) (hr : s.r < 4100) (hS : IsSpot w g s) :
    Calls Try.prog 17 #[.pointer (some ⟨g, 0, none⟩)] w fun e w' => e = .returned (.tuple #[]) ∧ IsSpot w' g (signS s) ∧ Fr (only g) w w' := by
  have hb := hS
  unfold IsSpot at hb
  have HB := Aside0.mk hb
  have HS := Aside0.mk hS
  have c0 : w.cell? ⟨g, 0, none⟩ = some (.float .f64 (F s.w)) := (blk_cell hb 0).trans rfl
  have c1 : w.cell? ⟨g, 1, none⟩ = some (.complex .f64 (F s.c) (F s.r)) := (blk_cell hb 1).trans rfl
  have f1 : w.frozen? ⟨g, 1, none⟩ = false := blk_frozen hb 1
  have k1 := fun t w => run_complex_sum (P := Try.prog) w .add (Or.inl rfl) t .f64 (F s.c) (F s.r) 4607182418800017408 0 _ _ (csum_F .add _ _ _ _ _ _ (add_one s.c (by have := hg.1; have := hg.2.1; omega)) (add_zero s.r (by omega)))
  have k2 := fun t w => run_float_arith (P := Try.prog) w .add t .f64 (F s.r) 4607182418800017408 _ (add_one s.r (by omega))
  have ho : FloatKind.f64.format.order (F (s.c + 1)) (F s.w) = some (compare (s.c + 1) s.w) := order_F _ _ (by have := hg.1; have := hg.2.1; omega) (by have := hg.2.1; omega)
  have HG := Aside0.mk hg
  have HR := Aside0.mk hr
  clear hb hS hg hr
  by_cases he : s.c + 1 = s.w
  · have HE := Aside0.mk he
    rw [Nat.compare_eq_eq.2 he] at ho
    clear he
    go_enter Try.func17, Try.ntmps17
    go_wp2_with (simp only [k1, k2])
    go_quiet (fail)
    go_wp2_with (simp only [k1, k2])
    go_end0
    have hs : signS s = { s with c := 0, r := s.r + 1 } := by simp [signS, HE.out]
    rw [hs]
    have h1 := spot_at (blk_drewN (spot_at HS.out (s.c + 1) s.r) nq) 0 (s.r + 1)
    rw [F_zero] at h1
    exact ⟨rfl, h1, (((Fr.refl (only g) w).set (fun _ => only_self g) 1 _).drewN nq).set (fun _ => only_self g) 1 _⟩
  · have HE := Aside0.mk he
    have ho2 : (compare (s.c + 1) s.w == Ordering.eq) = false := by
      rw [beq_eq_false_iff_ne]; intro h; exact he (Nat.compare_eq_eq.1 h)
    clear he
    go_enter Try.func17, Try.ntmps17
    go_wp2_with (simp only [k1, k2])
    go_quiet (fail)
    go_wp2_with (simp only [k1, k2])
    go_end0
    have hs : signS s = { s with c := s.c + 1 } := by simp [signS, HE.out]
    rw [hs]
    exact ⟨rfl, blk_drewN (spot_at HS.out (s.c + 1) s.r) nq, ((Fr.refl (only g) w).set (fun _ => only_self g) 1 _).drewN nq⟩

/-- a move by the unit that is turned n times -/
def mvS (s : Sp) (n : Nat) : Sp := match n with
  | 0 => { s with c := min (s.c + 1) (s.w - 1) }
  | 1 => { s with r := s.r + 1 }
  | 2 => { s with c := s.c - 1 }
  | _ => { s with r := s.r - 1 }
theorem mvS_eq (s : Sp) (n : Nat) : mvS s n = { s with c := (mvS s n).c, r := (mvS s n).r } := by unfold mvS; split <;> rfl
theorem mv_bits (s : Sp) (n : Nat) (hn : n < 4) (hg : SpGood s) (hr : s.r < 4100) : ∃ re im mn, cSumBits .add .f64 (F s.c) (F s.r) (zre n) (zim n) = some (re, im) ∧ fmin re (F (s.w - 1)) = some mn ∧ fmax 0 mn = some (F (mvS s n).c) ∧ fmax 0 im = some (F (mvS s n).r) := by
  obtain ⟨h1, h2, h3⟩ := hg
  obtain rfl | rfl | rfl | rfl : n = 0 ∨ n = 1 ∨ n = 2 ∨ n = 3 := by omega
  · exact ⟨_, _, _, csum_F .add _ _ _ _ _ _ (add_one s.c (by omega)) (add_zero s.r (by omega)), fmin_F _ _ (by omega) (by omega), fmax_zero _ (by omega), fmax_zero _ (by omega)⟩
  · refine ⟨_, _, _, csum_F .add _ _ _ _ _ _ (add_zero s.c (by omega)) (add_one s.r (by omega)), fmin_F _ _ (by omega) (by omega), ?_, fmax_zero _ (by omega)⟩
    rw [fmax_zero _ (by omega), Nat.min_eq_left (by omega)]
    rfl
  · by_cases h0 : s.c = 0
    · have hc : (mvS s 2).c = 0 := by simp [mvS, h0]
      rw [hc, h0]
      exact ⟨_, _, _, csum_F .add _ _ _ _ _ _ add_minus_zero (add_zero s.r (by omega)), fmin_minus _ (by omega), fmax_minus, fmax_zero _ (by omega)⟩
    · have hc : s.c = (s.c - 1) + 1 := by omega
      have ha := add_minus (s.c - 1) (by omega)
      rw [← hc] at ha
      refine ⟨_, _, _, csum_F .add _ _ _ _ _ _ ha (add_zero s.r (by omega)), fmin_F _ _ (by omega) (by omega), ?_, fmax_zero _ (by omega)⟩
      rw [fmax_zero _ (by omega), Nat.min_eq_left (by omega)]
      rfl
  · by_cases h0 : s.r = 0
    · have hc : (mvS s 3).r = 0 := by simp [mvS, h0]
      rw [hc, h0]
      refine ⟨_, _, _, csum_F .add _ _ _ _ _ _ (add_negzero s.c (by omega)) add_minus_zero, fmin_F _ _ (by omega) (by omega), ?_, fmax_minus⟩
      rw [fmax_zero _ (by omega), Nat.min_eq_left (by omega)]
      rfl
    · have hc : s.r = (s.r - 1) + 1 := by omega
      have ha := add_minus (s.r - 1) (by omega)
      rw [← hc] at ha
      refine ⟨_, _, _, csum_F .add _ _ _ _ _ _ (add_negzero s.c (by omega)) ha, fmin_F _ _ (by omega) (by omega), ?_, fmax_zero _ (by omega)⟩
      rw [fmax_zero _ (by omega), Nat.min_eq_left (by omega)]
      rfl
theorem sub_w (s : Sp) (hg : SpGood s) : floatBits .sub .f64 (F s.w) 4607182418800017408 = some (F (s.w - 1)) := by
  obtain ⟨h1, h2, h3⟩ := hg
  have ha := sub_one (s.w - 1) (by omega)
  rwa [show s.w - 1 + 1 = s.w by omega] at ha

theorem move_calls (g n : Nat) (s : Sp) (w : World) (hn : n < 4) (hg : SpGood s) (hr : s.r < 4100) (hS : IsSpot w g s) :
    Calls Try.prog 15 #[.pointer (some ⟨g, 0, none⟩), .complex .f64 (zre n) (zim n)] w fun e w' => e = .returned (.tuple #[]) ∧ IsSpot w' g (mvS s n) ∧ Fr (only g) w w' := by
  have hb := hS
  unfold IsSpot at hb
  have HS := Aside0.mk hS
  have c0 : w.cell? ⟨g, 0, none⟩ = some (.float .f64 (F s.w)) := (blk_cell hb 0).trans rfl
  have c1 : w.cell? ⟨g, 1, none⟩ = some (.complex .f64 (F s.c) (F s.r)) := (blk_cell hb 1).trans rfl
  have f1 : w.frozen? ⟨g, 1, none⟩ = false := blk_frozen hb 1
  obtain ⟨re, im, mn, e1, e2, e3, e4⟩ := mv_bits s n hn hg hr
  have k1 := fun t w => run_complex_sum (P := Try.prog) w .add (Or.inl rfl) t .f64 _ _ _ _ _ _ e1
  have k2 := fun t w => run_float_arith (P := Try.prog) w .sub t .f64 _ _ _ (sub_w s hg)
  have k3 := fun ts t w => run_fmin (P := Try.prog) w ts t _ _ _ e2
  have k4 := fun ts t w => run_fmax (P := Try.prog) w ts t _ _ _ e3
  have k5 := fun ts t w => run_fmax (P := Try.prog) w ts t _ _ _ e4
  have hm := mvS_eq s n
  generalize (mvS s n).c = cc at *
  generalize (mvS s n).r = rr at *
  have HM := Aside0.mk hm
  clear hb hS hg hr e1 e2 e3 e4 hm
  go_enter Try.func15, Try.ntmps15
  go_wp2_with (simp only [k1, k2, k3, k4, k5])
  go_end0
  rw [HM.out]
  exact ⟨rfl, spot_at HS.out cc rr, (Fr.refl (only g) w).set (fun _ => only_self g) 1 _⟩

end Go.Proofs.Ytgkkafihipaieaa.SpotW

/- What the statements' own model of a spot does: the same; and few, head. -/
import Derived.Test.YtgkkafihipaieaaSpotU
import Derived.Test.YtgkkafihipaieaaArgs
import Derived.Handy
namespace Go.Proofs.Ytgkkafihipaieaa.SpotW
open Go.RowKit Go.Proofs.YtgkkafihipaieaaW.PrintWords Go.Proofs.YtgkkafihipaieaaW.PrintMore Go.Proofs.Ytgkkafihipaieaa.Fr Go.Proofs.Ytgkkafihipaieaa.SpotP Go.Proofs.Ytgkkafihipaieaa.Flt Go.Proofs.Ytgkkafihipaieaa.Openers
set_option linter.unusedVariables false
set_option linter.unusedSimpArgs false

/-- a model at block g -/
def IsModel (W : World) (g : Nat) (s : Sp) : Prop :=
  W.heap[g]? = some (.cells #[.int .i64 s.w, .int .i64 s.c, .int .i64 s.r, .int .i64 s.st] 35 (0, 0))

theorem model_new (n : Int) (w : World) :
    Calls Try.prog 10 #[.int .i64 n] w fun e w' => e = .returned (.pointer (some ⟨w.heap.size, 0, none⟩)) ∧ IsModel w' w.heap.size (sp0 (wd n)) ∧ Below w.heap.size w w' := by
  go_enter Try.func10, Try.ntmps10
  go_wp2
  · go_ret
    have : wd n = 1 := by unfold wd; omega
    exact ⟨rfl, by rw [this]; exact blk_new w _, below_alloc (Below.refl _ _) _⟩
  · go_ret
    have : wd n = 500 := by unfold wd; omega
    exact ⟨rfl, by rw [this]; exact blk_new w _, below_alloc (Below.refl _ _) _⟩
  · go_ret
    have : n = ((wd n : Nat) : Int) := by unfold wd; omega
    refine ⟨rfl, ?_, below_alloc (Below.refl _ _) _⟩
    have h := blk_new w (.cells #[.int .i64 n, .int .i64 0, .int .i64 0, .int .i64 0] 35 (0, 0))
    generalize wd n = d at *
    subst this
    exact h

theorem mod_c {W : World} {g : Nat} {s : Sp} (h : IsModel W g s) (c : Nat) : IsModel (W.setCell ⟨g, 1, none⟩ (.int .i64 c)) g { s with c := c } := blk_set (w := W) h 1 _
theorem mod_r {W : World} {g : Nat} {s : Sp} (h : IsModel W g s) (r : Nat) : IsModel (W.setCell ⟨g, 2, none⟩ (.int .i64 r)) g { s with r := r } := blk_set (w := W) h 2 _
theorem mod_st {W : World} {g : Nat} {s : Sp} (h : IsModel W g s) (st : Nat) : IsModel (W.setCell ⟨g, 3, none⟩ (.int .i64 st)) g { s with st := st } := blk_set (w := W) h 3 _

set_option maxHeartbeats 1000000 in
set_option maxRecDepth 100000 in
theorem byte_calls (g : Nat) (c : Int) (s : Sp) (w : World) (hg : SpGood s) (hr : s.r < 4100) (hS : IsModel w g s) :
    Calls Try.prog 12 #[.pointer (some ⟨g, 0, none⟩), .int .u8 c] w fun e w' => e = .returned (.tuple #[]) ∧ IsModel w' g (byteS s c) ∧ Fr (only g) w w' := by
  have HS := Aside0.mk hS
  have c0 : w.cell? ⟨g, 0, none⟩ = some (.int .i64 s.w) := (blk_cell hS 0).trans rfl
  have c1 : w.cell? ⟨g, 1, none⟩ = some (.int .i64 s.c) := (blk_cell hS 1).trans rfl
  have c2 : w.cell? ⟨g, 2, none⟩ = some (.int .i64 s.r) := (blk_cell hS 2).trans rfl
  have c3 : w.cell? ⟨g, 3, none⟩ = some (.int .i64 s.st) := (blk_cell hS 3).trans rfl
  have f1 : w.frozen? ⟨g, 1, none⟩ = false := blk_frozen hS 1
  have f2 : w.frozen? ⟨g, 2, none⟩ = false := blk_frozen hS 2
  have f3 : w.frozen? ⟨g, 3, none⟩ = false := blk_frozen hS 3
  have HG := Aside0.mk hg
  have HR := Aside0.mk hr
  have h3 := st_three hg
  obtain ⟨hcw, hw5, _⟩ := hg
  clear hS
  rcases h3 with h2 | h2 | h2
  · rw [h2] at c3
    by_cases h27 : c = 27
    · subst h27
      have HE := Aside0.mk (show byteS s 27 = { s with st := 1 } by simp [byteS, oneS, h2])
      clear h2
      go_enter Try.func12, Try.ntmps12
      go_wp2
      first | go_end0 | go_returns | (go_quiet (fail); go_wp2; first | go_end0 | go_returns)
      rw [HE.out]
      exact ⟨rfl, mod_st HS.out 1, by repeat (first | (exact Fr.refl _ _) | (with_reducible refine Fr.drewN ?_ _) | (with_reducible refine Fr.drew ?_) | (with_reducible refine Fr.set ?_ (fun _ => only_self _) _ _))⟩
    have t27 : (c == 27) = false := beq_eq_false_iff_ne.2 h27
    by_cases h13 : c = 13
    · subst h13
      have HE := Aside0.mk (show byteS s 13 = { s with c := 0 } by simp [byteS, oneS, h2])
      clear h2 t27
      go_enter Try.func12, Try.ntmps12
      go_wp2
      first | go_end0 | go_returns | (go_quiet (fail); go_wp2; first | go_end0 | go_returns)
      rw [HE.out]
      exact ⟨rfl, mod_c HS.out 0, by repeat (first | (exact Fr.refl _ _) | (with_reducible refine Fr.drewN ?_ _) | (with_reducible refine Fr.drew ?_) | (with_reducible refine Fr.set ?_ (fun _ => only_self _) _ _))⟩
    have t13 : (c == 13) = false := beq_eq_false_iff_ne.2 h13
    by_cases h10 : c = 10
    · subst h10
      have HE := Aside0.mk (show byteS s 10 = { s with r := s.r + 1 } by simp [byteS, oneS, h2])
      clear h2 t27 t13
      go_enter Try.func12, Try.ntmps12
      go_wp2
      first | go_end0 | go_returns | (go_quiet (fail); go_wp2; first | go_end0 | go_returns)
      rw [HE.out]
      have h := mod_r HS.out (s.r + 1)
      rw [show ((s.r + 1 : Nat) : Int) = (s.r : Int) + 1 by omega] at h
      exact ⟨rfl, h, by repeat (first | (exact Fr.refl _ _) | (with_reducible refine Fr.drewN ?_ _) | (with_reducible refine Fr.drew ?_) | (with_reducible refine Fr.set ?_ (fun _ => only_self _) _ _))⟩
    have t10 : (c == 10) = false := beq_eq_false_iff_ne.2 h10
    by_cases h8 : c = 8
    · subst h8
      by_cases hz : 0 < s.c
      · have tz : decide ((0 : Int) < s.c) = true := decide_eq_true (by omega)
        have HE := Aside0.mk (show byteS s 8 = { s with c := s.c - 1 } by simp [byteS, oneS, h2])
        clear h2 t27 t13 t10
        go_enter Try.func12, Try.ntmps12
        go_wp2
        first | go_end0 | go_returns | (go_quiet (fail); go_wp2; first | go_end0 | go_returns)
        rw [HE.out]
        have h := mod_c HS.out (s.c - 1)
        rw [show ((s.c - 1 : Nat) : Int) = (s.c : Int) - 1 by omega] at h
        exact ⟨rfl, h, by repeat (first | (exact Fr.refl _ _) | (with_reducible refine Fr.drewN ?_ _) | (with_reducible refine Fr.drew ?_) | (with_reducible refine Fr.set ?_ (fun _ => only_self _) _ _))⟩
      · have tz : decide ((0 : Int) < s.c) = false := decide_eq_false (by omega)
        have HE := Aside0.mk (show byteS s 8 = s by obtain ⟨sw, sc, sr, sst⟩ := s; dsimp only at h2 hz; subst h2; simp [byteS, oneS]; omega)
        clear h2 t27 t13 t10
        go_enter Try.func12, Try.ntmps12
        go_wp2
        first | go_end0 | go_returns | (go_quiet (fail); go_wp2; first | go_end0 | go_returns)
        rw [HE.out]
        exact ⟨rfl, HS.out, by repeat (first | (exact Fr.refl _ _) | (with_reducible refine Fr.drewN ?_ _) | (with_reducible refine Fr.drew ?_) | (with_reducible refine Fr.set ?_ (fun _ => only_self _) _ _))⟩
    have t8 : (c == 8) = false := beq_eq_false_iff_ne.2 h8
    by_cases h9 : c = 9
    · subst h9
      have HE := Aside0.mk (show byteS s 9 = { s with c := min (8 * (s.c / 8 + 1)) (s.w - 1) } by simp [byteS, oneS, h2])
      clear h2 t27 t13 t10 t8
      go_enter Try.func12, Try.ntmps12
      go_wp2
      go_loopw [175] (fun v175 wr => ∃ k : Nat, s.c + 1 ≤ k ∧ k ≤ 8 * (s.c / 8 + 1) ∧ Aside0 (IsModel wr g { s with c := k }) ∧ Aside0 (Fr (only g) w wr)) (fun _ wr => 600 - (intOf ((wr.cell? ⟨g, 1, none⟩).getD (.int .i64 0))).toNat)
      case atStart => exact ⟨s.c + 1, Nat.le_refl _, by omega, ⟨by have h := mod_c HS.out (s.c + 1); rw [show ((s.c + 1 : Nat) : Int) = (s.c : Int) + 1 by omega] at h; exact h⟩, ⟨((Fr.refl (only g) w).set (fun _ => only_self g) 1 _)⟩⟩
      case round =>
        obtain ⟨k, hk1, hk2, HI, HF⟩ := hrel
        have d0 : wr.cell? ⟨g, 0, none⟩ = some (.int .i64 s.w) := (blk_cell HI.out 0).trans rfl
        have d1 : wr.cell? ⟨g, 1, none⟩ = some (.int .i64 k) := (blk_cell HI.out 1).trans rfl
        have e1 : wr.frozen? ⟨g, 1, none⟩ = false := blk_frozen HI.out 1
        clear c0 c1 c2 c3 f1 f2 f3
        by_cases hm : k % 8 = 0
        · have t8 : ((k : Int) % 8 != 0) = false := by simp; omega
          have hk3 : k = 8 * (s.c / 8 + 1) := by omega
          have HK3 := Aside0.mk hk3
          clear hk3 hm
          by_cases hw : k ≤ s.w - 1
          · have tw : decide ((s.w : Int) - 1 < k) = false := decide_eq_false (by omega)
            have HW := Aside0.mk hw
            clear hw
            go_wp2
            go_quiet (fail)
            go_wp2
            go_end0
            rw [HE.out, ← HK3.out, Nat.min_eq_left HW.out]
            exact ⟨rfl, HI.out, HF.out.drewN _⟩
          · have tw : decide ((s.w : Int) - 1 < k) = true := decide_eq_true (by omega)
            have HW := Aside0.mk hw
            clear hw
            go_wp2
            go_quiet (fail)
            go_wp2
            go_end0
            rw [HE.out, ← HK3.out, Nat.min_eq_right (by have := HW.out; omega)]
            have h := mod_c (s := { s with c := k }) (W := wr.drewN nq) HI.out (s.w - 1)
            rw [show ((s.w - 1 : Nat) : Int) = (s.w : Int) - 1 by omega] at h
            exact ⟨rfl, h, (HF.out.drewN _).set (fun _ => only_self g) 1 _⟩
        · have t8 : ((k : Int) % 8 != 0) = true := by simp; omega
          go_wp2
          case roundEnd =>
            have h := mod_c (s := { s with c := k }) HI.out (k + 1)
            rw [show ((k + 1 : Nat) : Int) = (k : Int) + 1 by omega] at h
            refine ⟨⟨k + 1, by omega, by omega, ⟨h⟩, ⟨HF.out.set (fun _ => only_self g) 1 _⟩⟩, ?_⟩
            have h2 : (wr.setCell ⟨g, 1, none⟩ (.int .i64 ((k : Int) + 1))).cell? ⟨g, 1, none⟩ = some (.int .i64 ((k + 1 : Nat) : Int)) := (blk_cell h 1).trans rfl
            rw [d1, h2]
            simp only [Option.getD_some, intOf]
            omega
    have t9 : (c == 9) = false := beq_eq_false_iff_ne.2 h9
    by_cases h32 : 32 ≤ c
    · by_cases h127 : c = 127
      · subst h127
        have HE := Aside0.mk (show byteS s 127 = s by simp [byteS, oneS, h2])
        clear h2 t27 t13 t10 t8 t9 h32
        go_enter Try.func12, Try.ntmps12
        go_wp2
        first | go_end0 | go_returns | (go_quiet (fail); go_wp2; first | go_end0 | go_returns)
        rw [HE.out]
        exact ⟨rfl, HS.out, by repeat (first | (exact Fr.refl _ _) | (with_reducible refine Fr.drewN ?_ _) | (with_reducible refine Fr.drew ?_) | (with_reducible refine Fr.set ?_ (fun _ => only_self _) _ _))⟩
      · have t127 : (c == 127) = false := beq_eq_false_iff_ne.2 h127
        have t32 : decide (c < 32) = false := decide_eq_false (by omega)
        by_cases he : s.c + 1 = s.w
        · have tw : decide ((s.w : Int) ≤ (s.c : Int) + 1) = true := decide_eq_true (by omega)
          have HE := Aside0.mk (show byteS s c = { s with c := 0, r := s.r + 1 } by simp [byteS, oneS, signS, h2, h27, h13, h10, h8, h9, h32, h127, he])
          clear h2 h27 h13 h10 h8 h9 h32 h127 he
          go_enter Try.func12, Try.ntmps12
          go_wp2
          first | go_end0 | go_returns | (go_quiet (fail); go_wp2; first | go_end0 | go_returns)
          rw [HE.out]
          have h := mod_r (mod_c (mod_c HS.out (s.c + 1)) 0) (s.r + 1)
          rw [show ((s.r + 1 : Nat) : Int) = (s.r : Int) + 1 by omega, show ((s.c + 1 : Nat) : Int) = (s.c : Int) + 1 by omega] at h
          exact ⟨rfl, h, by repeat (first | (exact Fr.refl _ _) | (with_reducible refine Fr.drewN ?_ _) | (with_reducible refine Fr.drew ?_) | (with_reducible refine Fr.set ?_ (fun _ => only_self _) _ _))⟩
        · have tw : decide ((s.w : Int) ≤ (s.c : Int) + 1) = false := decide_eq_false (by omega)
          have HE := Aside0.mk (show byteS s c = { s with c := s.c + 1 } by simp [byteS, oneS, signS, h2, h27, h13, h10, h8, h9, h32, h127, he])
          clear h2 h27 h13 h10 h8 h9 h32 h127 he
          go_enter Try.func12, Try.ntmps12
          go_wp2
          first | go_end0 | go_returns | (go_quiet (fail); go_wp2; first | go_end0 | go_returns)
          rw [HE.out]
          have h := mod_c HS.out (s.c + 1)
          rw [show ((s.c + 1 : Nat) : Int) = (s.c : Int) + 1 by omega] at h
          exact ⟨rfl, h, by repeat (first | (exact Fr.refl _ _) | (with_reducible refine Fr.drewN ?_ _) | (with_reducible refine Fr.drew ?_) | (with_reducible refine Fr.set ?_ (fun _ => only_self _) _ _))⟩
    · have t32 : decide (c < 32) = true := decide_eq_true (by omega)
      have HE := Aside0.mk (show byteS s c = s by simp [byteS, oneS, h2, h27, h13, h10, h8, h9, h32])
      clear h2 h27 h13 h10 h8 h9 h32
      go_enter Try.func12, Try.ntmps12
      go_wp2
      first | go_end0 | go_returns | (go_quiet (fail); go_wp2; first | go_end0 | go_returns)
      rw [HE.out]
      exact ⟨rfl, HS.out, by repeat (first | (exact Fr.refl _ _) | (with_reducible refine Fr.drewN ?_ _) | (with_reducible refine Fr.drew ?_) | (with_reducible refine Fr.set ?_ (fun _ => only_self _) _ _))⟩
  · rw [h2] at c3
    by_cases h91 : c = 91
    · subst h91
      have HE := Aside0.mk (show byteS s 91 = { s with st := 2 } by simp [byteS, h2])
      clear h2
      go_enter Try.func12, Try.ntmps12
      go_wp2
      first | go_end0 | go_returns | (go_quiet (fail); go_wp2; first | go_end0 | go_returns)
      rw [HE.out]
      exact ⟨rfl, mod_st (mod_st HS.out 0) 2, by repeat (first | (exact Fr.refl _ _) | (with_reducible refine Fr.drewN ?_ _) | (with_reducible refine Fr.drew ?_) | (with_reducible refine Fr.set ?_ (fun _ => only_self _) _ _))⟩
    · have t91 : (c == 91) = false := beq_eq_false_iff_ne.2 h91
      have HE := Aside0.mk (show byteS s c = { s with st := 0 } by simp [byteS, h2, h91])
      clear h2 h91
      go_enter Try.func12, Try.ntmps12
      go_wp2
      first | go_end0 | go_returns | (go_quiet (fail); go_wp2; first | go_end0 | go_returns)
      rw [HE.out]
      exact ⟨rfl, mod_st HS.out 0, by repeat (first | (exact Fr.refl _ _) | (with_reducible refine Fr.drewN ?_ _) | (with_reducible refine Fr.drew ?_) | (with_reducible refine Fr.set ?_ (fun _ => only_self _) _ _))⟩
  · rw [h2] at c3
    by_cases h65 : c = 65
    · subst h65
      by_cases hz : 0 < s.r
      · have tz : decide ((0 : Int) < s.r) = true := decide_eq_true (by omega)
        have HE := Aside0.mk (show byteS s 65 = { s with st := 0, r := s.r - 1 } by simp [byteS, moveS, h2])
        clear h2
        go_enter Try.func12, Try.ntmps12
        go_wp2
        first | go_end0 | go_returns | (go_quiet (fail); go_wp2; first | go_end0 | go_returns)
        rw [HE.out]
        have h := mod_r (mod_st HS.out 0) (s.r - 1)
        rw [show ((s.r - 1 : Nat) : Int) = (s.r : Int) - 1 by omega] at h
        exact ⟨rfl, h, by repeat (first | (exact Fr.refl _ _) | (with_reducible refine Fr.drewN ?_ _) | (with_reducible refine Fr.drew ?_) | (with_reducible refine Fr.set ?_ (fun _ => only_self _) _ _))⟩
      · have tz : decide ((0 : Int) < s.r) = false := decide_eq_false (by omega)
        have HE := Aside0.mk (show byteS s 65 = { s with st := 0 } by simp [byteS, moveS, h2]; omega)
        clear h2
        go_enter Try.func12, Try.ntmps12
        go_wp2
        first | go_end0 | go_returns | (go_quiet (fail); go_wp2; first | go_end0 | go_returns)
        rw [HE.out]
        exact ⟨rfl, mod_st HS.out 0, by repeat (first | (exact Fr.refl _ _) | (with_reducible refine Fr.drewN ?_ _) | (with_reducible refine Fr.drew ?_) | (with_reducible refine Fr.set ?_ (fun _ => only_self _) _ _))⟩
    have t65 : (c == 65) = false := beq_eq_false_iff_ne.2 h65
    by_cases h66 : c = 66
    · subst h66
      have HE := Aside0.mk (show byteS s 66 = { s with st := 0, r := s.r + 1 } by simp [byteS, moveS, h2])
      clear h2 t65
      go_enter Try.func12, Try.ntmps12
      go_wp2
      first | go_end0 | go_returns | (go_quiet (fail); go_wp2; first | go_end0 | go_returns)
      rw [HE.out]
      have h := mod_r (mod_st HS.out 0) (s.r + 1)
      rw [show ((s.r + 1 : Nat) : Int) = (s.r : Int) + 1 by omega] at h
      exact ⟨rfl, h, by repeat (first | (exact Fr.refl _ _) | (with_reducible refine Fr.drewN ?_ _) | (with_reducible refine Fr.drew ?_) | (with_reducible refine Fr.set ?_ (fun _ => only_self _) _ _))⟩
    have t66 : (c == 66) = false := beq_eq_false_iff_ne.2 h66
    by_cases h67 : c = 67
    · subst h67
      by_cases hz : s.c + 1 < s.w
      · have tz : decide ((s.c : Int) < (s.w : Int) - 1) = true := decide_eq_true (by omega)
        have HE := Aside0.mk (show byteS s 67 = { s with st := 0, c := s.c + 1 } by simp [byteS, moveS, h2]; omega)
        clear h2 t65 t66
        go_enter Try.func12, Try.ntmps12
        go_wp2
        first | go_end0 | go_returns | (go_quiet (fail); go_wp2; first | go_end0 | go_returns)
        rw [HE.out]
        have h := mod_c (mod_st HS.out 0) (s.c + 1)
        rw [show ((s.c + 1 : Nat) : Int) = (s.c : Int) + 1 by omega] at h
        exact ⟨rfl, h, by repeat (first | (exact Fr.refl _ _) | (with_reducible refine Fr.drewN ?_ _) | (with_reducible refine Fr.drew ?_) | (with_reducible refine Fr.set ?_ (fun _ => only_self _) _ _))⟩
      · have tz : decide ((s.c : Int) < (s.w : Int) - 1) = false := decide_eq_false (by omega)
        have HE := Aside0.mk (show byteS s 67 = { s with st := 0 } by simp [byteS, moveS, h2]; omega)
        clear h2 t65 t66
        go_enter Try.func12, Try.ntmps12
        go_wp2
        first | go_end0 | go_returns | (go_quiet (fail); go_wp2; first | go_end0 | go_returns)
        rw [HE.out]
        exact ⟨rfl, mod_st HS.out 0, by repeat (first | (exact Fr.refl _ _) | (with_reducible refine Fr.drewN ?_ _) | (with_reducible refine Fr.drew ?_) | (with_reducible refine Fr.set ?_ (fun _ => only_self _) _ _))⟩
    have t67 : (c == 67) = false := beq_eq_false_iff_ne.2 h67
    by_cases h68 : c = 68
    · subst h68
      by_cases hz : 0 < s.c
      · have tz : decide ((0 : Int) < s.c) = true := decide_eq_true (by omega)
        have HE := Aside0.mk (show byteS s 68 = { s with st := 0, c := s.c - 1 } by simp [byteS, moveS, h2])
        clear h2 t65 t66 t67
        go_enter Try.func12, Try.ntmps12
        go_wp2
        first | go_end0 | go_returns | (go_quiet (fail); go_wp2; first | go_end0 | go_returns)
        rw [HE.out]
        have h := mod_c (mod_st HS.out 0) (s.c - 1)
        rw [show ((s.c - 1 : Nat) : Int) = (s.c : Int) - 1 by omega] at h
        exact ⟨rfl, h, by repeat (first | (exact Fr.refl _ _) | (with_reducible refine Fr.drewN ?_ _) | (with_reducible refine Fr.drew ?_) | (with_reducible refine Fr.set ?_ (fun _ => only_self _) _ _))⟩
      · have tz : decide ((0 : Int) < s.c) = false := decide_eq_false (by omega)
        have HE := Aside0.mk (show byteS s 68 = { s with st := 0 } by simp [byteS, moveS, h2]; omega)
        clear h2 t65 t66 t67
        go_enter Try.func12, Try.ntmps12
        go_wp2
        first | go_end0 | go_returns | (go_quiet (fail); go_wp2; first | go_end0 | go_returns)
        rw [HE.out]
        exact ⟨rfl, mod_st HS.out 0, by repeat (first | (exact Fr.refl _ _) | (with_reducible refine Fr.drewN ?_ _) | (with_reducible refine Fr.drew ?_) | (with_reducible refine Fr.set ?_ (fun _ => only_self _) _ _))⟩
    have t68 : (c == 68) = false := beq_eq_false_iff_ne.2 h68
    have HE := Aside0.mk (show byteS s c = { s with st := 0 } by simp [byteS, moveS, h2, h65, h66, h67, h68])
    clear h2 h65 h66 h67 h68
    go_enter Try.func12, Try.ntmps12
    go_wp2
    first | go_end0 | go_returns | (go_quiet (fail); go_wp2; first | go_end0 | go_returns)
    rw [HE.out]
    exact ⟨rfl, mod_st HS.out 0, by repeat (first | (exact Fr.refl _ _) | (with_reducible refine Fr.drewN ?_ _) | (with_reducible refine Fr.drew ?_) | (with_reducible refine Fr.set ?_ (fun _ => only_self _) _ _))⟩
end Go.Proofs.Ytgkkafihipaieaa.SpotW

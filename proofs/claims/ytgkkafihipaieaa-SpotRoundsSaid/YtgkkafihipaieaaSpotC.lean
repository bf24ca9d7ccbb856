/- The law SpotSigns, walked: true. -/
import Derived.Test.YtgkkafihipaieaaSpotB
namespace Go.Proofs.Ytgkkafihipaieaa.SpotW
open Go.RowKit Go.Proofs.YtgkkafihipaieaaW.PrintWords Go.Proofs.YtgkkafihipaieaaW.PrintMore Go.Proofs.Ytgkkafihipaieaa.Fr Go.Proofs.Ytgkkafihipaieaa.SpotP Go.Proofs.Ytgkkafihipaieaa.Flt Go.Proofs.Ytgkkafihipaieaa.Openers
set_option linter.unusedVariables false
set_option linter.unusedSimpArgs false

theorem i64_and_low (n : Int) (k : Nat) (m : Int) (hm : (BitVec.ofInt 64 m).toNat = 2 ^ k - 1) (hk : k < 60) : bits .and .i64 n m = ((n % ((2 ^ 64 : Nat) : Int)).toNat % 2 ^ k : Nat) := by
  have key : (BitVec.ofInt 64 n &&& BitVec.ofInt 64 m).toNat = (n % ((2 ^ 64 : Nat) : Int)).toNat % 2 ^ k := by
    rw [BitVec.toNat_and, BitVec.toNat_ofInt, hm, Nat.and_two_pow_sub_one_eq_mod]
  show IntKind.i64.wrap ((BitVec.ofInt 64 n &&& BitVec.ofInt 64 m).toNat : Nat) = _
  rw [key, IntKind.wrap_i64]
  have h1 : (n % ((2 ^ 64 : Nat) : Int)).toNat % 2 ^ k < 2 ^ k := Nat.mod_lt _ (Nat.two_pow_pos _)
  have h2 : 2 ^ k ≤ 2 ^ 60 := Nat.pow_le_pow_right (by decide) (by omega)
  have h3 : (2 : Nat) ^ 60 = 1152921504606846976 := by decide
  omega
theorem i64_and4095 (n : Int) : ∃ k : Nat, bits .and .i64 n 4095 = (k : Int) ∧ k ≤ 4095 := ⟨_, i64_and_low n 12 4095 (by decide) (by decide), by have := Nat.mod_lt (n % ((2 ^ 64 : Nat) : Int)).toNat (show 0 < 2 ^ 12 by decide); omega⟩
theorem i64_and31 (n : Int) : ∃ k : Nat, bits .and .i64 n 31 = (k : Int) ∧ k ≤ 31 := ⟨_, i64_and_low n 5 31 (by decide) (by decide), by have := Nat.mod_lt (n % ((2 ^ 64 : Nat) : Int)).toNat (show 0 < 2 ^ 5 by decide); omega⟩

/-- the place behind i signs -/
def sgn (W i : Nat) : Sp := ⟨W, i % W, i / W, 0⟩
theorem sgn_good (W i : Nat) (h : 0 < W) (h5 : W ≤ 500) : SpGood (sgn W i) := ⟨Nat.mod_lt _ h, h5, Nat.zero_le _⟩
theorem sgn_step (W i : Nat) (h : 0 < W) : allS (sgn W i) [120] = sgn W (i + 1) := by
  show byteS (sgn W i) 120 = _
  unfold byteS sgn oneS signS
  simp only [if_true]
  have hm := Nat.mod_lt i h
  have e1 := Nat.div_add_mod i W
  have e2 := Nat.div_add_mod (i + 1) W
  have hm2 := Nat.mod_lt (i + 1) h
  by_cases hc : i % W + 1 = W
  · have h1 : i + 1 = W * (i / W + 1) := by rw [Nat.mul_add, Nat.mul_one]; omega
    have h2 : (i + 1) % W = 0 := by rw [h1]; exact Nat.mul_mod_right _ _
    have h3 : (i + 1) / W = i / W + 1 := by rw [h1, Nat.mul_div_cancel_left _ h]
    simp [hc, h2, h3]
  · have h1 : i + 1 = (i % W + 1) + W * (i / W) := by omega
    have h2 : (i + 1) % W = i % W + 1 := by
      rw [h1, Nat.add_mul_mod_self_left, Nat.mod_eq_of_lt (by omega)]
    have h3 : (i + 1) / W = i / W := by
      rw [h1, Nat.add_mul_div_left _ _ h, Nat.div_eq_of_lt (by omega), Nat.zero_add]
    simp [hc, h2, h3]

set_option maxHeartbeats 2000000 in
set_option maxRecDepth 100000 in
theorem signs_calls (a n : Int) (w : World) :
    Calls Try.prog 4 #[.int .i64 a, .int .i64 n] w fun e w' => e = .returned (.bool true) ∧ Below w.heap.size w w' := by
  obtain ⟨N, hN, hN2⟩ := i64_and4095 n
  have HN := Aside0.mk hN
  clear hN
  obtain ⟨V, hV, hV1, hV2⟩ : ∃ V : Nat, wrap64 (1 + wrap64 ((IntKind.u64.wrap a).tmod 500)) = (V : Int) ∧ 0 < V ∧ V ≤ 500 := by
    have h1 : 0 ≤ IntKind.u64.wrap a := by rw [IntKind.wrap_u64]; omega
    have h2 : (IntKind.u64.wrap a).tmod 500 = (IntKind.u64.wrap a) % 500 := Int.tmod_eq_emod_of_nonneg h1
    rw [h2]
    refine ⟨(1 + IntKind.u64.wrap a % 500).toNat, ?_, by omega, by omega⟩
    unfold wrap64
    omega
  have HV := Aside0.mk hV
  clear hV
  have hwd : wd (V : Int) = V := by unfold wd; omega
  have HWD := Aside0.mk hwd
  clear hwd
  have kc := fun (w : World) (C : Array Value) (n c : Nat) => Lib.run_convert_bytes_const (P := Try.prog) w 29 5 C n c Try.underlying29 Try.underlying5
  go_enter Try.func4, Try.ntmps4
  go_wp2_with fail
  refine (head_calls _).mono ?_
  rintro e w1 ⟨rfl, hb1⟩
  have HB1 := Aside0.mk hb1
  clear hb1
  go_wp2_with fail
  rw [HV.out, HN.out]
  refine (new_calls V _).mono ?_
  rintro e w2 ⟨rfl, hs2, hb2⟩
  rw [HWD.out] at hs2
  have hs0 : sp0 V = sgn V 0 := by unfold sp0 sgn; simp
  rw [hs0] at hs2
  have hw1 : w.heap.size ≤ w1.heap.size := HB1.out.size
  have HS2 := Aside0.mk hs2
  have HF2 : Aside0 (Fr nope w w2) := ⟨(Fr.of_below HB1.out).below hb2⟩
  have HGE : Aside0 (w.heap.size ≤ w1.heap.size) := ⟨hw1⟩
  clear hs2 hb2 hs0 hw1 HB1
  generalize w1.heap.size = g at *
  go_wp2
  go_loopw [6] (fun v6 wr => ∃ i : Nat, v6 = .int .i64 i ∧ i ≤ N ∧ Aside0 (IsSpot wr g (sgn V i)) ∧ Aside0 (Fr nope w wr)) (fun i _ => N - (intOf i).toNat)
  case atStart => exact ⟨0, rfl, Nat.zero_le _, HS2, HF2⟩
  case round =>
    obtain ⟨i, rfl, hi, HI, HF⟩ := hrel
    clear HS2 HF2
    have HG : Aside0 (SpGood (sgn V i)) := ⟨sgn_good V i hV1 hV2⟩
    have HROW : Aside0 ((sgn V i).r ≤ 4095) := ⟨Nat.le_trans (Nat.div_le_self _ _) (by omega)⟩
    by_cases hlt : i < N
    · have HST : Aside0 (allS (sgn V i) [120] = sgn V (i + 1)) := ⟨sgn_step V i hV1⟩
      go_wp2_with (first | (go_at_call 11; refine (put_calls (sgn V i) [120] _ _ g _ (blk_alloc HI.out _) HG.out (by have := HROW.out; show _ + 1 ≤ 4100; omega) (reads_lit _ .u8 [120] 5 _ (by decide)) ?aA).mono ?_; (case aA => (intro _ ad e; cases e; have := blk_lt HI.out; show wr.heap.size ≠ _; omega)); rintro e w3 ⟨rfl, hs3, hf3⟩; rw [HST.out] at hs3; have HS3 := Aside0.mk hs3; have HF3 := Aside0.mk hf3; clear hs3 hf3))
      go_roundw
      case rel => exact ⟨i + 1, by go_num, hlt, HS3, ⟨(HF.out.alloc _).trans HF3.out (fun j hj h => by have := HGE.out; have h2 : j = g := h; omega)⟩⟩
      case measure => simp [intOf]; omega
    · obtain rfl : i = N := by omega
      have HR : Aside0 ((sgn V i).r < 4200) := ⟨by have := HROW.out; omega⟩
      go_wp2_with fail
      refine (at_calls g (sgn V i) _ HG.out HR.out HI.out).mono ?_
      rintro e w3 ⟨rfl, n3, rfl⟩
      have t1 : (((sgn V i).c : Int) != (i : Int) % (V : Int)) = false := by
        have : ((sgn V i).c : Int) = (i : Int) % (V : Int) := by show ((i % V : Nat) : Int) = _; omega
        rw [this]; simp
      have t2 : (((sgn V i).r : Int) != wrap64 ((i : Int) / (V : Int))) = false := by
        have h1 := HROW.out
        have h2 : ((sgn V i).r : Int) = (i : Int) / (V : Int) := by show ((i / V : Nat) : Int) = _; exact Int.natCast_ediv _ _
        rw [← h2, show wrap64 ((sgn V i).r : Int) = ((sgn V i).r : Int) by unfold wrap64; omega]; simp
      have kcd := kc (wr.drewN n3) #[.int .u8 13] 1 1
      rw [show (wr.drewN n3).heap.size = wr.heap.size from rfl] at kcd
      obtain ⟨s2, hs2⟩ : ∃ s2, s2 = sgn V i := ⟨_, rfl⟩
      have HSG := Aside0.mk hs2
      rw [← hs2] at HI HG HROW HR t1 t2 ⊢
      clear hs2
      have h13 : Aside0 (allS s2 [13] = { s2 with c := 0 }) := ⟨by rw [HSG.out]; rfl⟩
      go_wp2_with fail
      refine (put_calls s2 [13] _ _ g _ (blk_alloc (blk_drewN HI.out n3) _) HG.out (by have := HROW.out; show _ + 1 ≤ 4100; omega) (reads_lit (wr.drewN n3) .u8 [13] 5 _ (by decide)) ?_).mono ?_
      · intro _ ad e; cases e; have := blk_lt HI.out; show wr.heap.size ≠ _; omega
      rintro e w4 ⟨rfl, hs4, hf4⟩
      rw [h13.out] at hs4
      have HS4 := Aside0.mk hs4
      have HF4 := Aside0.mk hf4
      have HG4 : Aside0 (SpGood { s2 with c := 0 }) := ⟨⟨by have := HG.out.1; show 0 < s2.w; omega, HG.out.2.1, HG.out.2.2⟩⟩
      clear hs4 hf4
      go_wp2_with fail
      refine (at_calls g { s2 with c := 0 } _ HG4.out HR.out HS4.out).mono ?_
      rintro e w5 ⟨rfl, n5, rfl⟩
      go_wp2
      go_ret
      refine ⟨by simp, ?_⟩
      exact (((((HF.out.drewN n3).alloc _).trans HF4.out (fun j hj h => by have := HGE.out; have h2 : j = g := h; omega)).drewN n5)).to_below (Nat.le_refl _) (fun i h => h.elim)

theorem SpotSigns_walk (W : World) (a : Int) (_ha : (Lit.int .i64 a).wf = true) (n : Int) (_hn : (Lit.int .i64 n).wf = true) :
    Calls Try.prog 4 #[.int .i64 a, .int .i64 n] W fun e w' => e = .returned (.bool true) ∧ Below W.heap.size W w' := signs_calls a n W
end Go.Proofs.Ytgkkafihipaieaa.SpotW

/- The law SpotRounds, walked: true. -/
import Derived.Test.YtgkkafihipaieaaSpotC
namespace Go.Proofs.Ytgkkafihipaieaa.SpotW
open Go.RowKit Go.Proofs.YtgkkafihipaieaaW.PrintWords Go.Proofs.YtgkkafihipaieaaW.PrintMore Go.Proofs.Ytgkkafihipaieaa.Fr Go.Proofs.Ytgkkafihipaieaa.SpotP Go.Proofs.Ytgkkafihipaieaa.Flt Go.Proofs.Ytgkkafihipaieaa.Openers
set_option linter.unusedVariables false
set_option linter.unusedSimpArgs false

/-- a place in lines of 200 -/
def pl (c r : Nat) : Sp := ⟨200, c, r, 0⟩
theorem pl_good (c r : Nat) (h : c < 200) : SpGood (pl c r) := ⟨h, show 200 ≤ 500 by decide, Nat.zero_le _⟩
theorem pl_down (c r : Nat) : allS (pl c r) [10] = pl c (r + 1) := rfl
theorem pl_right (c r : Nat) (h : c + 1 ≤ 199) : allS (pl c r) [27, 91, 67] = pl (c + 1) r := by
  show (⟨200, min (c + 1) (200 - 1), r, 0⟩ : Sp) = _
  rw [Nat.min_eq_left h]; rfl
/-- the place behind k ways of N steps, and j steps more -/
def stp (C R N : Nat) : Nat → Nat → Sp
  | 0, j => pl C (R - j)
  | 1, j => pl (C - j) (R - N)
  | 2, j => pl (C - N) (R - N + j)
  | 3, j => pl (C - N + j) R
  | _, _ => pl C R
def wayB : Nat → ByteArray
  | 0 => ⟨#[65]⟩
  | 1 => ⟨#[68]⟩
  | 2 => ⟨#[66]⟩
  | _ => ⟨#[67]⟩
def waysL : List ByteArray := [⟨#[65]⟩, ⟨#[68]⟩, ⟨#[66]⟩, ⟨#[67]⟩]
theorem ways_at (k : Nat) (h : k < 4) : waysL.getD k ByteArray.empty = wayB k := by
  obtain rfl | rfl | rfl | rfl : k = 0 ∨ k = 1 ∨ k = 2 ∨ k = 3 := by omega
  all_goals rfl
theorem way_size (k : Nat) : (wayB k).size = 1 := by unfold wayB; split <;> rfl
theorem way_len (k : Nat) : (bytesOf (wayB k)).length = 1 := by rw [bytesOf_length, way_size]
theorem stp_move (C R N k j : Nat) (hk : k < 4) (hj : j < N) (hN : N ≤ 31) (hC : 40 ≤ C) (hC2 : C ≤ 71) (hR : 40 ≤ R) : allS (allS (stp C R N k j) [27, 91]) (bytesOf (wayB k)) = stp C R N k (j + 1) := by
  obtain rfl | rfl | rfl | rfl : k = 0 ∨ k = 1 ∨ k = 2 ∨ k = 3 := by omega
  · show pl C (R - j - 1) = pl C (R - (j + 1))
    rw [Nat.sub_sub]
  · show pl (C - j - 1) (R - N) = pl (C - (j + 1)) (R - N)
    rw [Nat.sub_sub]
  · rfl
  · show (⟨200, min (C - N + j + 1) (200 - 1), R, 0⟩ : Sp) = pl (C - N + (j + 1)) R
    rw [Nat.min_eq_left (by omega)]; rfl
theorem stp_next (C R N k : Nat) (hk : k < 4) (hC : N ≤ C) (hR : N ≤ R) : stp C R N k N = stp C R N (k + 1) 0 := by
  obtain rfl | rfl | rfl | rfl : k = 0 ∨ k = 1 ∨ k = 2 ∨ k = 3 := by omega
  · rfl
  · rfl
  · show pl (C - N) (R - N + N) = pl (C - N + 0) R
    rw [Nat.sub_add_cancel hR, Nat.add_zero]
  · show pl (C - N + N) R = pl C R
    rw [Nat.sub_add_cancel hC]
theorem stp_all (C R N k j : Nat) (hj : j ≤ N) (hN : N ≤ 31) (hC : 40 ≤ C) (hC2 : C ≤ 71) (hR2 : R ≤ 71) : SpGood (stp C R N k j) ∧ (stp C R N k j).r ≤ 200 := by
  unfold stp
  split
  all_goals refine ⟨pl_good _ _ (by omega), ?_⟩
  all_goals unfold pl
  all_goals simp only
  all_goals omega
theorem stp_esc (C R N k j : Nat) (hj : j ≤ N) (hN : N ≤ 31) (hC : 40 ≤ C) (hC2 : C ≤ 71) (hR2 : R ≤ 71) : SpGood (allS (stp C R N k j) [27, 91]) ∧ (allS (stp C R N k j) [27, 91]).r ≤ 202 := by
  have h := stp_all C R N k j hj hN hC hC2 hR2
  refine ⟨good_all _ _ h.1, ?_⟩
  have := row_all [27, 91] (stp C R N k j)
  simp only [List.length_cons, List.length_nil] at this
  omega

theorem readsOf_lit (W : World) (xs : List ByteArray) (e : TypeId) (fr : Nat × Nat) (hl : xs.length ≤ 9223372036854775807) :
    ReadsOf Value.string ByteArray.empty (W.alloc (.cells (xs.map Value.string).toArray e fr)) (some ⟨W.heap.size, 0, none⟩) xs.length xs := by
  refine ⟨rfl, hl, fun _ => ⟨_, rfl, fun j hj => ?_⟩⟩
  rw [add_plain]
  have hb : (W.alloc (.cells (xs.map Value.string).toArray e fr)).heap[W.heap.size]? = some (.cells (xs.map Value.string).toArray e fr) := heap_alloc_new W _
  rw [cell_of_row _ _ _ _ _ _ hb]
  simp [hj]

theorem put_fresh (s0 s1 : Sp) (bs : List Int) (cp g h : Nat) (w w0 : World) (hS : IsSpot w0 g s0) (hw : Fr nope w0 w) (hh : g < h) (hg : SpGood s0) (hrow : s0.r + bs.length ≤ 4100) (hE : allS s0 bs = s1) (hr : ReadsInt w .u8 (some ⟨h, 0, none⟩) bs.length bs) :
    Calls Try.prog 11 #[.pointer (some ⟨g, 0, none⟩), .slice (some ⟨h, 0, none⟩) bs.length cp] w fun e w' => e = .returned (.tuple #[]) ∧ IsSpot w' g s1 ∧ Fr (only g) w0 w' :=
  (put_calls s0 bs (some ⟨h, 0, none⟩) cp g w (hw.blk hS (fun h => h)) hg hrow hr (fun _ ad e => by cases e; show h ≠ g; omega)).mono fun e w' ⟨he, hs, hf⟩ => ⟨he, hE ▸ hs, (hw.mono (S1 := only g) (fun _ _ h => h.elim)).trans hf (fun _ _ h => h)⟩

theorem fr_only {w w0 w1 : World} {g : Nat} (h : Fr nope w w0) (k : Fr (only g) w0 w1) (hg : w.heap.size ≤ g) : Fr nope w w1 :=
  h.trans k fun i hi e => by have h2 : i = g := e; omega

set_option maxHeartbeats 2000000 in
set_option maxRecDepth 100000 in
theorem rounds_calls (a b n : Int) (w : World) :
    Calls Try.prog 5 #[.int .i64 a, .int .i64 b, .int .i64 n] w fun e w' => e = .returned (.bool true) ∧ Below w.heap.size w w' := by
  obtain ⟨X, hX, hX2⟩ := i64_and31 a
  obtain ⟨Y, hY, hY2⟩ := i64_and31 b
  obtain ⟨N, hN, hN2⟩ := i64_and31 n
  have kc := fun (w : World) (C : Array Value) (n c : Nat) => Lib.run_convert_bytes_const (P := Try.prog) w 29 5 C n c Try.underlying29 Try.underlying5
  go_enter Try.func5, Try.ntmps5
  go_wp2_with fail
  refine (head_calls _).mono ?_
  rintro e w1 ⟨rfl, hb1⟩
  have HB1 := Aside0.mk hb1
  clear hb1
  go_wp2_with fail
  refine (new_calls 200 _).mono ?_
  rintro e w2 ⟨rfl, hs2, hb2⟩
  have HS2 : Aside0 (IsSpot w2 w1.heap.size (pl 0 0)) := ⟨hs2⟩
  have HF2 : Aside0 (Fr nope w w2) := ⟨(Fr.of_below HB1.out).below hb2⟩
  have HGE : Aside0 (w.heap.size ≤ w1.heap.size) := ⟨HB1.out.size⟩
  clear hs2 hb2 HB1 hX hY hN
  generalize w1.heap.size = g at *
  go_wp2
  go_loopw [8] (fun v8 wr => ∃ i : Nat, v8 = .int .i64 i ∧ i ≤ 40 + Y ∧ Aside0 (IsSpot wr g (pl 0 i)) ∧ Aside0 (Fr nope w wr)) (fun i _ => 40 + Y - (intOf i).toNat)
  case atStart => exact ⟨0, rfl, Nat.zero_le _, HS2, HF2⟩
  case round =>
    obtain ⟨i, rfl, hi, HI, HF⟩ := hrel
    clear HS2 HF2
    by_cases hlt : i < 40 + Y
    · have HG : Aside0 (g < wr.heap.size) := ⟨blk_lt HI.out⟩
      go_wp2_with (first | (go_at_call 11; refine (put_fresh (pl 0 i) (pl 0 (i + 1)) [10] _ g _ _ wr HI.out ((Fr.refl _ _).alloc _) HG.out (pl_good _ _ (by decide)) (by show i + 1 ≤ 4100; omega) (pl_down _ _) (reads_lit _ .u8 [10] 5 _ (by decide))).mono ?_; rintro e w3 ⟨rfl, hs3, hf3⟩; have HS3 := Aside0.mk hs3; have HF3 := Aside0.mk hf3; clear hs3 hf3))
      go_roundw
      case rel => exact ⟨i + 1, by go_num, hlt, HS3, ⟨fr_only HF.out HF3.out HGE.out⟩⟩
      case measure => simp [intOf]; omega
    · have HR0 : Aside0 (IsSpot wr g (pl 0 (40 + Y))) := ⟨by rw [← show i = 40 + Y by omega]; exact HI.out⟩
      go_wp2
      go_loopw [9] (fun v9 wr => ∃ i : Nat, v9 = .int .i64 i ∧ i ≤ 40 + X ∧ Aside0 (IsSpot wr g (pl i (40 + Y))) ∧ Aside0 (Fr nope w wr)) (fun i _ => 40 + X - (intOf i).toNat)
      case atStart => exact ⟨0, rfl, Nat.zero_le _, HR0, HF⟩
      case round =>
        clear HI HF HR0 hlt hi
        obtain ⟨i2, rfl, hi2, HI2, HF2⟩ := hrel
        by_cases hlt : i2 < 40 + X
        · have HG : Aside0 (g < wr.heap.size) := ⟨blk_lt HI2.out⟩
          go_wp2_with (first | (go_at_call 11; refine (put_fresh (pl i2 (40 + Y)) (pl (i2 + 1) (40 + Y)) [27, 91, 67] _ g _ _ wr HI2.out ((Fr.refl _ _).alloc _) HG.out (pl_good _ _ (by omega)) (by show 40 + Y + 3 ≤ 4100; omega) (pl_right _ _ (by omega)) (reads_lit _ .u8 [27, 91, 67] 5 _ (by decide))).mono ?_; rintro e w3 ⟨rfl, hs3, hf3⟩; have HS3 := Aside0.mk hs3; have HF3 := Aside0.mk hf3; clear hs3 hf3))
          go_roundw
          case rel => exact ⟨i2 + 1, by go_num, hlt, HS3, ⟨fr_only HF2.out HF3.out HGE.out⟩⟩
          case measure => simp [intOf]; omega
        · have HS0 : Aside0 (IsSpot wr g (stp (40 + X) (40 + Y) N 0 0)) := ⟨by show IsSpot wr g (pl (40 + X) (40 + Y - 0)); rw [← show i2 = 40 + X by omega]; exact HI2.out⟩
          have HGS : Aside0 (g < wr.heap.size) := ⟨blk_lt HI2.out⟩
          have hrs := readsOf_lit wr waysL 9 (0, 0) (by decide)
          have hf0 : Fr nope w (wr.alloc (.cells (waysL.map Value.string).toArray 9 (0, 0))) := HF2.out.alloc _
          have hi0 : IsSpot (wr.alloc (.cells (waysL.map Value.string).toArray 9 (0, 0))) g (stp (40 + X) (40 + Y) N 0 0) := blk_alloc HS0.out _
          obtain ⟨wS, hwS⟩ : ∃ x, wr.alloc (.cells (waysL.map Value.string).toArray 9 (0, 0)) = x := ⟨_, rfl⟩
          rw [hwS] at hrs hf0 hi0
          have HRS := Aside0.mk hrs
          have HF0 := Aside0.mk hf0
          have HI0 := Aside0.mk hi0
          have HWS := Aside0.mk hwS
          clear hrs hf0 hi0 hwS HS0 HI2 HF2
          go_wp2
          generalize wr.heap.size = hS at *
          go_loopw [46] (fun v46 wi => ∃ k : Nat, v46 = .int .i64 k ∧ k ≤ 4 ∧ Aside0 (Fr (only g) wS wi) ∧ Aside0 (IsSpot wi g (stp (40 + X) (40 + Y) N k 0)) ∧ Aside0 (Fr nope w wi)) (fun i _ => 4 - (intOf i).toNat)
          case atStart =>
            refine ⟨0, rfl, Nat.zero_le _, ?_⟩
            show Aside0 (Fr (only g) wS (wr.alloc (.cells (waysL.map Value.string).toArray 9 (0, 0)))) ∧ Aside0 (IsSpot (wr.alloc (.cells (waysL.map Value.string).toArray 9 (0, 0))) g _) ∧ Aside0 (Fr nope w (wr.alloc (.cells (waysL.map Value.string).toArray 9 (0, 0))))
            rw [HWS.out]
            exact ⟨⟨Fr.refl _ _⟩, HI0, HF0⟩
          case round =>
            clear HI0 HF0 HWS hlt
            obtain ⟨k, rfl, hk, HF, HI, HN⟩ := hrel
            by_cases hlt : k < 4
            · have hrd := HF.out.readsOf HRS.out (fun ad e h => by cases e; have h1 : hS = g := h; have := HGS.out; omega)
              obtain ⟨ad, e, hc⟩ := hrd.2.2 (by decide)
              cases e
              have hcell := hc k hlt
              rw [ways_at k hlt] at hcell
              obtain ⟨d, hd⟩ : ∃ d, wayB k = d := ⟨_, rfl⟩
              have hds : d.size = 1 := by rw [← hd]; exact way_size k
              have hbl : (bytesOf d).length = 1 := by rw [← hd]; exact way_len k
              have HMV : Aside0 (∀ j, j < N → allS (allS (stp (40 + X) (40 + Y) N k j) [27, 91]) (bytesOf d) = stp (40 + X) (40 + Y) N k (j + 1)) := ⟨fun j hj => by rw [← hd]; exact stp_move _ _ _ _ _ hlt hj hN2 (by omega) (by omega) (by omega)⟩
              have HNX : Aside0 (stp (40 + X) (40 + Y) N k N = stp (40 + X) (40 + Y) N (k + 1) 0) := ⟨stp_next _ _ _ _ hlt (by omega) (by omega)⟩
              have HSG : Aside0 (∀ j, j ≤ N → (SpGood (stp (40 + X) (40 + Y) N k j) ∧ (stp (40 + X) (40 + Y) N k j).r ≤ 200) ∧ SpGood (allS (stp (40 + X) (40 + Y) N k j) [27, 91]) ∧ (allS (stp (40 + X) (40 + Y) N k j) [27, 91]).r ≤ 202) := ⟨fun j hj => ⟨stp_all _ _ _ _ _ hj hN2 (by omega) (by omega) (by omega), stp_esc _ _ _ _ _ hj hN2 (by omega) (by omega) (by omega)⟩⟩
              rw [hd] at hcell
              have hcell2 := hcell
              rw [add_plain] at hcell2
              have HDS := Aside0.mk hds
              have HBL := Aside0.mk hbl
              have hcv := fun W => print_bytes (P := Try.prog) 9 29 5 Try.underlying9 Try.underlying29 Try.underlying5 d W
              rw [hds] at hcv
              clear hrd hc hd hds hbl hcell
              have tk : decide ((k : Int) < 4) = true := decide_eq_true (by omega)
              go_wp2
              clear hcell2
              go_loopw [12] (fun v12 wi => ∃ j : Nat, v12 = .int .i64 j ∧ j ≤ N ∧ Aside0 (Fr (only g) wS wi) ∧ Aside0 (IsSpot wi g (stp (40 + X) (40 + Y) N k j)) ∧ Aside0 (Fr nope w wi)) (fun i _ => N - (intOf i).toNat)
              case atStart => exact ⟨0, rfl, Nat.zero_le _, HF, HI, HN⟩
              case round =>
                clear HF HI HN
                obtain ⟨j, rfl, hj, HF, HI, HN⟩ := hrel
                by_cases hlj : j < N
                · have HG : Aside0 (g < wr.heap.size) := ⟨blk_lt HI.out⟩
                  go_wp2_with fail
                  refine (put_fresh _ _ [27, 91] _ g _ _ wr HI.out ((Fr.refl _ _).alloc _) HG.out (HSG.out j hj).1.1 (by have := (HSG.out j hj).1.2; show _ + 2 ≤ 4100; omega) rfl (reads_lit _ .u8 [27, 91] 5 _ (by decide))).mono ?_
                  rintro e w3 ⟨rfl, hs3, hf3⟩
                  have HS3 := Aside0.mk hs3
                  have HF3 := Aside0.mk hf3
                  have HG3 : Aside0 (g < w3.heap.size) := ⟨blk_lt hs3⟩
                  have hrb := bytes_reads w3 5 d (by rw [HDS.out]; decide)
                  rw [HDS.out, ← HBL.out] at hrb
                  have HRB := Aside0.mk hrb
                  clear hs3 hf3 hrb
                  go_wp2_with fail
                  have HP := put_fresh (allS (stp (40 + X) (40 + Y) N k j) [27, 91]) (stp (40 + X) (40 + Y) N k (j + 1)) (bytesOf d) (grownCap w3 1 0 5) g w3.heap.size (Lib.bytesWorld w3 5 d) w3 HS3.out (Fr.of_below (bytes_below (Below.refl _ _) (Nat.le_refl _) _ _)) HG3.out (HSG.out j hj).2.1 (by have := (HSG.out j hj).2.2; rw [HBL.out]; omega) (HMV.out j hlj) HRB.out
                  rw [HBL.out] at HP
                  refine HP.mono ?_
                  rintro e w4 ⟨rfl, hs4, hf4⟩
                  have HS4 := Aside0.mk hs4
                  have HF4 := Aside0.mk hf4
                  clear hs4 hf4 HP
                  go_wp2
                  go_roundw
                  case rel => exact ⟨j + 1, by go_num, hlj, ⟨(HF.out.trans HF3.out (fun _ _ h => h)).trans HF4.out (fun _ _ h => h)⟩, HS4, ⟨fr_only (fr_only HN.out HF3.out HGE.out) HF4.out HGE.out⟩⟩
                  case measure => simp [intOf]; omega
                · have hI2 : IsSpot wr g (stp (40 + X) (40 + Y) N (k + 1) 0) := by have h := HI.out; rw [show j = N by omega, HNX.out] at h; exact h
                  have HI2 := Aside0.mk hI2
                  clear hI2
                  go_wp2
                  go_roundw
                  case rel => exact ⟨k + 1, by go_num, hlt, HF, HI2, HN⟩
                  case measure => simp [intOf]; omega
            · have HI4 : Aside0 (IsSpot wr g (pl (40 + X) (40 + Y))) := ⟨by have := HI.out; rw [show k = 4 by omega] at this; exact this⟩
              have t1 : (((pl (40 + X) (40 + Y)).c : Int) == 40 + (X : Int)) = true := by show (((40 + X : Nat) : Int) == 40 + (X : Int)) = true; simp
              have t2 : (((pl (40 + X) (40 + Y)).r : Int) == 40 + (Y : Int)) = true := by show (((40 + Y : Nat) : Int) == 40 + (Y : Int)) = true; simp
              go_wp2_with fail
              refine (at_calls g (pl (40 + X) (40 + Y)) _ (pl_good _ _ (by omega)) (by show 40 + Y < 4200; omega) HI4.out).mono ?_
              rintro e w5 ⟨rfl, n5, rfl⟩
              go_wp2
              go_ret
              exact ⟨rfl, (HN.out.drewN n5).to_below (Nat.le_refl _) (fun i h => h.elim)⟩

theorem SpotRounds_walk (W : World) (a : Int) (_ha : (Lit.int .i64 a).wf = true) (b : Int) (_hb : (Lit.int .i64 b).wf = true) (n : Int) (_hn : (Lit.int .i64 n).wf = true) :
    Calls Try.prog 5 #[.int .i64 a, .int .i64 b, .int .i64 n] W fun e w' => e = .returned (.bool true) ∧ Below W.heap.size W w' := rounds_calls a b n W
end Go.Proofs.Ytgkkafihipaieaa.SpotW

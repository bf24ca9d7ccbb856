/- one: the event with which bytes begin. -/
import Derived.Test.YthhibgkgbcdjnaaScrE
import Derived.Deep.RegionHeld3
import Derived.Deep.DrawnRows
namespace Go.Proofs.Ythhibgkgbcdjnaa.ScrW
open Go.RowKit Go.Proofs.YthhibgkgbcdjnaaW.PrintWords Go.Proofs.YthhibgkgbcdjnaaW.PrintMore Go.Proofs.Ythhibgkgbcdjnaa.Fr Go.Proofs.Ythhibgkgbcdjnaa.ScrP Go.Proofs.Ythhibgkgbcdjnaa.Openers
set_option linter.unusedVariables false
set_option linter.unusedSimpArgs false

theorem set4 {w1 : World} {g : Nat} {x0 x1 x2 x3 : Value} {T : TypeId} (hB : w1.heap[g]? = some (.cells #[x0, x1, x2, x3] T (0, 0))) (v0 v1 v2 v3 : Value) :
    ∃ W4, W4 = (((w1.setCell ⟨g, 0, none⟩ v0).setCell ⟨g, 1, none⟩ v1).setCell ⟨g, 2, none⟩ v2).setCell ⟨g, 3, none⟩ v3 ∧ W4.cell? ⟨g, 0, none⟩ = some v0 ∧ W4.cell? ⟨g, 1, none⟩ = some v1 ∧ W4.cell? ⟨g, 2, none⟩ = some v2 ∧ W4.cell? ⟨g, 3, none⟩ = some v3 := by
  have h := blk_set (blk_set (blk_set (blk_set hB 0 v0) 1 v1) 2 v2) 3 v3
  exact ⟨_, rfl, (blk_cell h 0).trans rfl, (blk_cell h 1).trans rfl, (blk_cell h 2).trans rfl, (blk_cell h 3).trans rfl⟩

set_option maxHeartbeats 2000000 in
set_option maxRecDepth 100000 in
theorem one_calls (bs : List Int) (A : Option Addr) (cp : Nat) (w : World) (hc : bs.length ≤ cp) (hcm : cp ≤ 9223372036854775807) (hr : ReadsInt w .u8 A bs.length bs) (hb : isB bs) :
    Calls Try.prog 21 #[.slice A bs.length cp] w fun e w' => e = .returned (.tuple #[evV (oneP bs).1, .int .i64 (oneP bs).2.1, .int .i64 (oneP bs).2.2]) ∧ Fr nope w w' := by
  have HR := Aside0.mk hr
  have HB := Aside0.mk hb
  clear hr hb
  by_cases h7 : bs.length < 7
  · have HE : Aside0 (oneP bs = (ev0, 0, 5)) := ⟨by unfold oneP; rw [if_pos h7]⟩
    go_enter Try.func21, Try.ntmps21
    go_wp2
    go_returns
    rw [HE.out]
    exact ⟨rfl, (Fr.refl _ _).alloc _⟩
  · obtain ⟨i5, hi5, hz5⟩ := Option.map_eq_some_iff.1 info5
    simp only [Prod.mk.injEq] at hz5
    obtain ⟨A1, hs1, hr1, hl1⟩ := print_mid_int (P := Try.prog) (k := .u8) 32 5 Try.underlying32 hi5 hz5.2.1 A cp bs 5 7 (by decide) (by decide) (by omega) hc
    obtain ⟨m1, hm1⟩ : ∃ l, l = (bs.take (7 : Int).toNat).drop (5 : Int).toNat := ⟨_, rfl⟩
    rw [← hm1] at hs1 hr1 hl1
    have hlen1 : m1.length = 2 := by rw [hm1]; simp; omega
    have HL1 := Aside0.mk hlen1
    have HR1 := Aside0.mk (hr1 w HR.out)
    have HM1 := Aside0.mk hm1
    clear hm1 hlen1 hz5 hi5
    have hb1 : isB m1 := fun x hx => HB.out x (List.mem_of_mem_take (List.mem_of_mem_drop (by rw [← HM1.out]; exact hx)))
    have HB1 := Aside0.mk hb1
    clear hb1
    obtain ⟨n, hn⟩ : ∃ n, n = rdN m1 := ⟨_, rfl⟩
    have hnb : 0 ≤ n ∧ n ≤ 65535 := by
      match m1, HL1.out with
      | [a, b], _ =>
        have ha := HB1.out a (by simp)
        have hb := HB1.out b (by simp)
        rw [hn]; simp [rdN]; omega
    have HN := Aside0.mk hn
    clear hn
    have hnr : (rdN ((bs.take 7).drop 5)) = n := by rw [HN.out, HM1.out]; rfl
    have HNR := Aside0.mk hnr
    clear hnr
    by_cases hsh : (bs.length : Int) < 7 + n
    · have HE : Aside0 (oneP bs = (ev0, 0, 5)) := ⟨by unfold oneP; rw [if_neg h7, HNR.out]; simp only []; rw [if_pos (by omega)]⟩
      go_enter Try.func21, Try.ntmps21
      go_wp2_with (first | (go_at_call 20; refine (read_calls m1 A1 _ _ (((Fr.refl nope w).alloc _).reads HR1.out (fun _ _ h => h)) HB1.out (by rw [HL1.out]; decide)).mono ?_; rintro e w1 ⟨rfl, rfl⟩; rw [← HN.out]))
      go_returns
      rw [HE.out]
      exact ⟨rfl, (Fr.refl _ _).alloc _⟩
    · obtain ⟨ad, hAd, hcells⟩ := HR.out.2.2 (by omega)
      obtain ⟨b0, hb0⟩ : ∃ c, bs.getD 0 0 = c := ⟨_, rfl⟩
      obtain ⟨b1, hb1⟩ : ∃ c, bs.getD 1 0 = c := ⟨_, rfl⟩
      have d0 := hcells 0 (by omega)
      have d1 := hcells 1 (by omega)
      rw [hb0] at d0
      rw [hb1] at d1
      have d1b := d1
      rw [show (1 : Nat) = 0 + 1 from rfl, add_succ] at d1b
      have d0b : w.cell? ad = some (.int .u8 b0) := by rw [← d0]; simp [Addr.add]
      subst hAd
      obtain ⟨i5, hi5, hz5⟩ := Option.map_eq_some_iff.1 info5
      simp only [Prod.mk.injEq] at hz5
      obtain ⟨A2, hs2, hr2, hl2⟩ := print_mid_int (P := Try.prog) (k := .u8) 32 5 Try.underlying32 hi5 hz5.2.1 (some ad) cp bs 2 5 (by decide) (by decide) (by omega) hc
      obtain ⟨A3, hs3, hr3, hl3⟩ := print_mid_int (P := Try.prog) (k := .u8) 32 5 Try.underlying32 hi5 hz5.2.1 (some ad) cp bs 7 (7 + n) (by decide) (by omega) (by omega) hc
      obtain ⟨m2, hm2⟩ : ∃ l, l = (bs.take (5 : Int).toNat).drop (2 : Int).toNat := ⟨_, rfl⟩
      obtain ⟨m3, hm3⟩ : ∃ l, l = (bs.take (7 + n).toNat).drop (7 : Int).toNat := ⟨_, rfl⟩
      rw [← hm2] at hs2 hr2 hl2
      rw [← hm3] at hs3 hr3 hl3
      have HM2 := Aside0.mk hm2
      have HM3 := Aside0.mk hm3
      have HL2 : Aside0 (m2.length ≤ 3) := ⟨by rw [hm2]; simp; omega⟩
      have HB2 : Aside0 (isB m2) := ⟨fun x hx => HB.out x (List.mem_of_mem_take (List.mem_of_mem_drop (by rw [← hm2]; exact hx)))⟩
      have HR2 := Aside0.mk (hr2 w HR.out)
      have HR3 := Aside0.mk (hr3 w HR.out)
      have hcv : ∀ w1, ReadsInt w1 .u8 A3 m3.length m3 → (convert 32 9 (.slice A3 m3.length (cp - 7))).run Try.prog w1 = .ok (.string (strOfNums m3)) w1 := fun w1 h => string_of_reads (P := Try.prog) (c := cp - 7) Try.underlying32 Try.underlying5 Try.underlying9 h
      have HCV := Aside0.mk hcv
      clear hcv
      clear hr1 hr2 hr3 hm2 hm3 hcells hi5 hz5
      have d1c : w.cell? ⟨ad.block, ad.off + 1, none⟩ = some (.int .u8 b1) := d1b
      have HK : Aside0 (∀ w', Fr nope w w' → Fr nope w w' ∧ w'.cell? ad = some (.int .u8 b0) ∧ w'.cell? ⟨ad.block, ad.off + 1, none⟩ = some (.int .u8 b1) ∧ Aside0 (ReadsInt w' .u8 A2 m2.length m2) ∧ (convert 32 9 (.slice A3 m3.length (cp - 7))).run Try.prog w' = .ok (.string (strOfNums m3)) w') :=
        ⟨fun w' hF => by
          have up : ∀ {a : Addr} {v : Value}, w.cell? a = some v → w'.cell? a = some v := fun h => by
            rw [World.cell?_of_block (hF.block _ (World.block_lt_of_cell? w _ h) (fun h => h))]; exact h
          exact ⟨hF, up d0b, up d1c, ⟨hF.reads HR2.out (fun _ _ h => h)⟩, HCV.out _ (hF.reads HR3.out (fun _ _ h => h))⟩⟩
      clear d0 d1 d1b d0b d1c
      have q0n : 0 < bs.length := by omega
      have q1n : 1 < bs.length := by omega
      have hb0r : 0 ≤ b0 ∧ b0 ≤ 255 := by
        rw [← hb0, show bs.getD 0 0 = bs[0]'(by omega) by simp [q0n]]
        exact HB.out _ (List.getElem_mem _)
      have hb1r : 0 ≤ b1 ∧ b1 ≤ 255 := by
        rw [← hb1, show bs.getD 1 0 = bs[1]'(by omega) by simp [q1n]]
        exact HB.out _ (List.getElem_mem _)
      have hw0 : IntKind.i64.wrap b0 = b0 := by rw [IntKind.wrap_i64]; omega
      have hw1 : IntKind.i64.wrap b1 = b1 := by rw [IntKind.wrap_i64]; omega
      have HBE := Aside0.mk (And.intro hb0 hb1)
      clear hb0 hb1
      have hwr : IntKind.i64.wrap (7 + n) = 7 + n := by rw [IntKind.wrap_i64]; omega
      have q0 : (0 : Int) < (bs.length : Int) := by omega
      have q1 : (1 : Int) < (bs.length : Int) := by omega
      have HONE : Aside0 (oneP bs = if evB ⟨b0, b1, rdN m2, strOfNums m3⟩ then (⟨b0, b1, rdN m2, strOfNums m3⟩, 7 + n.toNat, 0) else (ev0, 0, 8)) := ⟨by
        have e5 : m2 = (bs.take 5).drop 2 := HM2.out
        have e7 : m3 = (bs.take (7 + n.toNat)).drop 7 := by rw [HM3.out, show (7 + n).toNat = 7 + n.toNat by omega]; rfl
        unfold oneP
        rw [if_neg h7, HNR.out]
        simp only []
        rw [if_neg (by omega), HBE.out.1, HBE.out.2, ← e5, ← e7]⟩
      have hnn : ((n.toNat : Nat) : Int) = n := by omega
      have HNN := Aside0.mk hnn
      clear hnn
      go_enter Try.func21, Try.ntmps21
      go_wp2_with (first | (go_at_call 20; refine (read_calls m1 A1 _ _ (((Fr.refl nope w).alloc _).reads HR1.out (fun _ _ h => h)) HB1.out (by rw [HL1.out]; decide)).mono ?_; rintro e w1 ⟨rfl, rfl⟩; rw [← HN.out]))
      have HF0 : Fr nope w (w.alloc (.cells #[.int .i64 0, .int .i64 0, .int .i64 0, .string ⟨#[]⟩] 30)) := (Fr.refl nope w).alloc _
      go_region_held3 (fun w' => Fr nope w w' ∧ w'.cell? ad = some (.int .u8 b0) ∧ w'.cell? ⟨ad.block, ad.off + 1, none⟩ = some (.int .u8 b1) ∧ Aside0 (ReadsInt w' .u8 A2 m2.length m2) ∧ (convert 32 9 (.slice A3 m3.length (cp - 7))).run Try.prog w' = .ok (.string (strOfNums m3)) w')
        (first | exact HK.out _ (Fr.drew (by assumption)) | exact HK.out _ (Fr.alloc (by assumption) _) | exact HK.out _ (by assumption) | exact HK.out _ (Fr.alloc (Fr.drew (by assumption)) _))
        (first | (go_at_call 20; refine (read_calls m2 A2 _ _ (by first | exact ((HF0.alloc _).drew).reads HR2.out (fun _ _ h => h) | exact HF0.drew.reads HR2.out (fun _ _ h => h)) HB2.out HL2.out).mono ?_; rintro e w1 ⟨rfl, rfl⟩))
      all_goals clear HF0
      all_goals go_wp2_with (first | (go_at_call 10; refine (evRight_calls ⟨b0, b1, rdN m2, strOfNums m3⟩ _).mono ?_; rintro e w1 ⟨rfl, hw1⟩; have hB := blk_below (blk_drew (blk_alloc (blk_new w (.cells #[.int .i64 0, .int .i64 0, .int .i64 0, .string ⟨#[]⟩] 30)) (.cells #[.int .i64 b0, .int .i64 b1, .int .i64 (rdN m2), .string (strOfNums m3)] 30))) hw1; have hE := blk_below (blk_drew (show ((w.alloc (.cells #[.int .i64 0, .int .i64 0, .int .i64 0, .string ⟨#[]⟩] 30)).alloc (.cells #[.int .i64 b0, .int .i64 b1, .int .i64 (rdN m2), .string (strOfNums m3)] 30)).heap[w.heap.size + 1]? = _ from (by rw [← World.size_alloc w (.cells #[.int .i64 0, .int .i64 0, .int .i64 0, .string ⟨#[]⟩] 30)]; exact blk_new _ _))) hw1; have c0 : w1.cell? ⟨w.heap.size, 0, none⟩ = _ := (blk_cell hB 0).trans rfl; have c1 : w1.cell? ⟨w.heap.size, 1, none⟩ = _ := (blk_cell hB 1).trans rfl; have c2 : w1.cell? ⟨w.heap.size, 2, none⟩ = _ := (blk_cell hB 2).trans rfl; have c3 : w1.cell? ⟨w.heap.size, 3, none⟩ = _ := (blk_cell hB 3).trans rfl; have f0 := blk_frozen hB 0; have f1 := blk_frozen hB 1; have f2 := blk_frozen hB 2; have f3 := blk_frozen hB 3; have g0 : w1.cell? ⟨w.heap.size + 1, 0, none⟩ = _ := (blk_cell hE 0).trans rfl; have g1 : w1.cell? ⟨w.heap.size + 1, 1, none⟩ = _ := (blk_cell hE 1).trans rfl; have g2 : w1.cell? ⟨w.heap.size + 1, 2, none⟩ = _ := (blk_cell hE 2).trans rfl; have g3 : w1.cell? ⟨w.heap.size + 1, 3, none⟩ = _ := (blk_cell hE 3).trans rfl; have HW1 := Aside0.mk hw1; have HBB := Aside0.mk hB; clear hw1 hB hE))
      all_goals first
        | (obtain ⟨W4, hW4, r0, r1, r2, r3⟩ := set4 HBB.out (.int .i64 0) (.int .i64 0) (.int .i64 0) (.string ⟨#[]⟩); rw [← hW4]; refine bodyPost_ret (by simp [results, Try.results21, go_sem, r0, r1, r2, r3]; try rfl) rfl ?_)
        | (obtain ⟨W4, hW4, r0, r1, r2, r3⟩ := set4 HBB.out (.int .i64 b0) (.int .i64 b1) (.int .i64 (rdN m2)) (.string (strOfNums m3)); rw [← hW4]; refine bodyPost_ret (by simp [results, Try.results21, go_sem, r0, r1, r2, r3]; try rfl) rfl ?_)
      all_goals rw [hW4]
      all_goals refine ⟨?_, (((((((((Fr.refl nope w).alloc _).alloc _).drew).below HW1.out).set (fun h => absurd h (Nat.lt_irrefl _)) 0 _).set (fun h => absurd h (Nat.lt_irrefl _)) 1 _).set (fun h => absurd h (Nat.lt_irrefl _)) 2 _).set (fun h => absurd h (Nat.lt_irrefl _)) 3 _)⟩
      all_goals rw [HONE.out]
      all_goals first | (rename_i hcond; rw [if_neg (by simp_all)]; rfl) | (rename_i hcond; rw [if_pos (by simp_all)]; rw [← HNN.out]; rfl)
end Go.Proofs.Ythhibgkgbcdjnaa.ScrW

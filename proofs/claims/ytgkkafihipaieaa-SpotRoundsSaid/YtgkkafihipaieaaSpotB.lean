/- The law SpotPieces, walked: true. -/
import Derived.Test.YtgkkafihipaieaaSpotA
namespace Go.Proofs.Ytgkkafihipaieaa.SpotW
open Go.RowKit Go.Proofs.YtgkkafihipaieaaW.PrintWords Go.Proofs.YtgkkafihipaieaaW.PrintMore Go.Proofs.Ytgkkafihipaieaa.Fr Go.Proofs.Ytgkkafihipaieaa.SpotP Go.Proofs.Ytgkkafihipaieaa.Flt Go.Proofs.Ytgkkafihipaieaa.Openers
set_option linter.unusedVariables false
set_option linter.unusedSimpArgs false
theorem info5 : (Try.prog.info? 5).map (fun i => (i.zero, i.size, i.bytes)) = some (some (.int .u8 0), 1, 1) := by kernel_rfl

theorem own_empty (W : World) (b0 : Nat) (e : TypeId) (hb : b0 ≤ W.heap.size) : (W.alloc (.cells #[] e)).ownsRow b0 e 1 (.slice (some ⟨W.heap.size, 0, none⟩) 0 0) 0 [] :=
  World.ownsRow_made W #[] 0 hb (by unfold maxLen; omega) rfl

/-- two spots, and all bytes in a row of its own, all younger than the world w -/
structure PJ (w : World) (n : Int) (g h : Nat) (P : List Int) (v : Value) (wr : World) : Prop where
  a : IsSpot wr g (allS (sp0 (wd n)) P)
  b : IsSpot wr h (sp0 (wd n))
  all : wr.ownsRow w.heap.size 5 1 v P.length (nums .u8 P)
  fr : Fr nope w wr
  gg : w.heap.size ≤ g
  gh : w.heap.size ≤ h
  ne : g ≠ h

set_option maxHeartbeats 2000000 in
set_option maxRecDepth 100000 in
theorem pieces_calls (n : Int) (L : List (List Int)) (A : Option Addr) (cp : Nat) (w : World) (hr : ReadsRows w A L) (hLm : L.length ≤ 9223372036854775807) :
    Calls Try.prog 6 #[.int .i64 n, .slice A L.length cp] w fun e w' => e = .returned (.bool true) ∧ Below w.heap.size w w' := by
  have HR := Aside0.mk hr
  clear hr
  go_enter Try.func6, Try.ntmps6
  go_wp2_with fail
  refine (head_calls _).mono ?_
  rintro e w1 ⟨rfl, hb1⟩
  have HB1 := Aside0.mk hb1
  clear hb1
  have HR1 : Aside0 (ReadsRows w1 A L) := ⟨fr_readsRows (Fr.of_below (S := nope) HB1.out) HR.out (fun _ _ h => h)⟩
  go_wp2_with fail
  refine (few_calls L A cp _ HR1.out hLm).mono ?_
  rintro e w2 ⟨b, rfl, hbt, hb2⟩
  have HB2 := Aside0.mk hb2
  clear hb2
  cases b
  · clear hbt
    go_wp2
    go_ret
    exact ⟨rfl, ((Fr.of_below (S := nope) HB1.out).below HB2.out).to_below (Nat.le_refl _) (fun i h => h.elim)⟩
  · obtain ⟨h100, htal⟩ := hbt rfl
    clear hbt
    go_wp2_with fail
    refine (new_calls n _).mono ?_
    rintro e w3 ⟨rfl, hs3, hb3⟩
    have HS3 := Aside0.mk hs3
    have HB3 := Aside0.mk hb3
    clear hs3 hb3
    go_wp2_with fail
    refine (new_calls n _).mono ?_
    rintro e w4 ⟨rfl, hm4, hb4⟩
    have HM4 := Aside0.mk hm4
    have HB4 := Aside0.mk hb4
    clear hm4 hb4
    have hw1 : w.heap.size ≤ w1.heap.size := HB1.out.size
    have hw2 : w1.heap.size ≤ w2.heap.size := HB2.out.size
    have hw3 : w2.heap.size < w3.heap.size := blk_lt HS3.out
    have hw4 : w3.heap.size < w4.heap.size := blk_lt HM4.out
    have HI0 : Aside0 (PJ w n w2.heap.size w3.heap.size [] (.slice (some ⟨w4.heap.size, 0, none⟩) 0 0) (w4.alloc (.cells #[] 5))) := ⟨{ a := blk_alloc (blk_below HS3.out HB4.out) _, b := blk_alloc HM4.out _, all := own_empty w4 w.heap.size _ (by omega), fr := ((((Fr.of_below HB1.out).below HB2.out).below HB3.out).below HB4.out).alloc _, gg := by omega, gh := by omega, ne := by omega }⟩
    have HTAL := Aside0.mk htal
    clear HR1 HB1 HB2 HS3 HB3 HM4 HB4 htal
    generalize w2.heap.size = g at *
    generalize w3.heap.size = h at *
    clear hw1 hw2 hw3 hw4
    go_wp2
    go_loopw [7, 26] (fun v7 v26 wr => ∃ (k : Nat) (P : List Int), v26 = .int .i64 k ∧ k ≤ L.length ∧ P.length ≤ 2000 ∧ Aside0 (P = (L.take k).flatten) ∧ Aside0 (PJ w n g h P v7 wr)) (fun _ i _ => L.length - (intOf i).toNat)
    case atStart => exact ⟨0, [], rfl, Nat.zero_le _, by simp, ⟨rfl⟩, HI0⟩
    case round =>
      obtain ⟨k, P, rfl, hk, hP, HP, HI⟩ := hrel
      clear HI0
      have hge : w.heap.size ≤ wr.heap.size := HI.out.fr.size
      have HG : Aside0 (SpGood (allS (sp0 (wd n)) P)) := ⟨good_all _ _ (good_sp0 n)⟩
      have HROW : Aside0 ((allS (sp0 (wd n)) P).r ≤ 2000) := ⟨by
        have h1 := row_all P (sp0 (wd n))
        have : (sp0 (wd n)).r = 0 := rfl
        omega⟩
      by_cases hlt : k < L.length
      · obtain ⟨b, hb⟩ : ∃ b, L.getD k [] = b := ⟨_, rfl⟩
        obtain ⟨ad, rfl, hcs⟩ := HR.out (by omega)
        obtain ⟨Aj, cj, hcell0, hcj, hrj, hbl⟩ := hcs k hlt
        rw [hb] at hcell0 hcj hrj hbl
        have hcell : wr.cell? (ad.add k) = some (.slice Aj b.length cj) := by
          rw [World.cell?_of_block (HI.out.fr.block _ (World.block_lt_of_cell? w _ hcell0) (fun h => h))]; exact hcell0
        have HRJ := Aside0.mk (HI.out.fr.reads hrj (fun _ _ h => h))
        have HRJ0 := Aside0.mk hrj
        have HP1 := Aside0.mk (flat_take L k hlt b hb)
        have hT : (L.take (k + 1)).flatten.length ≤ 2000 := by
          rw [tally_flat]
          have h2 := tally_le L (k + 1)
          have := HTAL.out
          omega
        rw [HP1.out, ← HP.out, List.length_append] at hT
        have HPL : Aside0 ((P ++ b).length ≤ 2000) := ⟨by rw [List.length_append]; exact hT⟩
        clear hcs hb hcell0 hrj
        go_wp2_with fail
        refine (put_calls (allS (sp0 (wd n)) P) b _ _ g _ HI.out.a HG.out (by have := HROW.out; omega) HRJ.out (rd_apart HRJ0.out HI.out.gg)).mono ?_
        rintro e w5 ⟨rfl, hs5, hf5⟩
        have HS5 := Aside0.mk hs5
        have HF5 := Aside0.mk hf5
        have hs5 : wr.heap.size ≤ w5.heap.size := hf5.size
        have HFN : Aside0 (Fr nope w w5) := ⟨HI.out.fr.trans HF5.out (fun i hi h => by
            have h1 := HI.out.gg
            have h2 : i = g := h
            omega)⟩
        have HO5 : Aside0 (w5.ownsRow w.heap.size 5 1 u7 P.length (nums .u8 P)) := ⟨HF5.out.own HI.out.all (fun b hb e => own_ne HI.out.all HI.out.a (by decide) (by rw [hb, show b = g from e]))⟩
        clear hf5 hcell
        go_wp2_with (first | ((with_reducible refine gate_builtin (b := .append) (xs := #[.tmp 33, .tmp 34]) rfl ?_); at_builtin; refine app_nums rfl (.tmp 33) (.tmp 34) 29 5 .u8 1 rfl Try.underlying29 info5 (by decide) w.heap.size _ P b _ b.length _ rfl rfl ?aO ?aR ?aB ?aL ?_; (case aO => exact HO5.out); (case aR => exact HFN.out.reads HRJ0.out (fun _ _ h => h)); (case aB => exact (by omega)); (case aL => exact (by omega)); intro v1 w6 ho1 hf1 hat1; have HO6 := Aside0.mk ho1; have HF6 := Aside0.mk hf1; clear ho1 hf1 hat1))
        have hne : PJ w n g h (P ++ b) v1 w6 := {
          a := by rw [allS_append]; exact HF6.out.blk HS5.out (fun e => own_ne HO5.out HS5.out (by decide) e.symm)
          b := HF6.out.blk (HF5.out.blk HI.out.b (fun e => HI.out.ne e.symm)) (fun e => own_ne HO5.out (HF5.out.blk HI.out.b (fun e => HI.out.ne e.symm)) (by decide) e.symm)
          all := HO6.out
          fr := HFN.out.trans HF6.out (fun i hi hs => by have := own_base HO5.out _ hs; omega)
          gg := HI.out.gg
          gh := HI.out.gh
          ne := HI.out.ne }
        have HI1 := Aside0.mk hne
        clear hne
        go_roundw
        case rel => exact ⟨k + 1, P ++ b, by go_num, hlt, HPL.out, ⟨by rw [HP1.out, HP.out]⟩, HI1⟩
        case measure => simp [intOf]; omega
      · have hall := HI.out.all
        obtain ⟨A7, c7, rfl⟩ := own_slice hall
        have HRA := Aside0.mk (own_readsInt hall)
        have HOA : Aside0 (A7 = none ∨ ∃ ad, A7 = some ad ∧ ad.block ≠ h) := ⟨by
          cases A7 with
          | none => exact .inl rfl
          | some ad => exact .inr ⟨ad, rfl, fun e => own_ne hall HI.out.b (by decide) (by simp [Value.ownBlock, e])⟩⟩
        clear hall
        have HE : Aside0 (P = L.flatten) := ⟨by rw [HP.out, show k = L.length by omega, List.take_length]⟩
        go_wp2_with fail
        refine (put_calls (sp0 (wd n)) P _ _ h _ HI.out.b (good_sp0 n) (by have : (sp0 (wd n)).r = 0 := rfl; omega) HRA.out (fun _ ad e => ?_)).mono ?_
        · rcases HOA.out with h1 | ⟨ad2, h1, h2⟩
          · rw [h1] at e; cases e
          · rw [h1] at e; cases e; exact h2
        rintro e w5 ⟨rfl, hs5, hf5⟩
        have HS5 := Aside0.mk hs5
        have HF5 := Aside0.mk hf5
        have HA5 : Aside0 (IsSpot w5 g (allS (sp0 (wd n)) P)) := ⟨hf5.blk HI.out.a HI.out.ne⟩
        have HFN : Aside0 (Fr nope w w5) := ⟨HI.out.fr.trans hf5 (fun i hi h2 => by
            have h1 := HI.out.gh
            have h3 : i = h := h2
            omega)⟩
        clear hs5 hf5
        obtain ⟨s2, hs2⟩ : ∃ s2, s2 = allS (sp0 (wd n)) P := ⟨_, rfl⟩
        rw [← hs2] at HS5 HA5 HG HROW
        have HR2 : Aside0 (s2.r < 4200) := ⟨by have := HROW.out; omega⟩
        clear hs2
        go_wp2_with fail
        refine (at_calls g s2 _ HG.out HR2.out HA5.out).mono ?_
        rintro e w6 ⟨rfl, n6, rfl⟩
        go_wp2_with fail
        refine (at_calls h s2 (w5.drewN n6) HG.out HR2.out (blk_drewN HS5.out n6)).mono ?_
        rintro e w7 ⟨rfl, n7, rfl⟩
        go_wp2
        go_ret
        exact ⟨rfl, (HFN.out.drewN (n6 + n7)).to_below (Nat.le_refl _) (fun i h => h.elim)⟩

theorem SpotPieces_walk (W : World) (n : Int) (_hn : (Lit.int .i64 n).wf = true) (A : Option Addr) (cp : Nat) (L : List (List Int)) (_hc : L.length ≤ cp) (hr : ReadsRows W A L) (hl : L.length ≤ 9223372036854775807) :
    Calls Try.prog 6 #[.int .i64 n, .slice A L.length cp] W fun e w' => e = .returned (.bool true) ∧ Below W.heap.size W w' := pieces_calls n L A cp W hr hl
end Go.Proofs.Ytgkkafihipaieaa.SpotW

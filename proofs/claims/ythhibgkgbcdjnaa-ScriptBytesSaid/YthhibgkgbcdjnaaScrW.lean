/- ScriptBytes: whatever conf and events: what may be written is read back. -/
import Derived.Test.YthhibgkgbcdjnaaScrM
import Derived.Deep.DrawnRows
namespace Go.Proofs.Ythhibgkgbcdjnaa.ScrW
open Go.RowKit Go.Proofs.YthhibgkgbcdjnaaW.PrintWords Go.Proofs.YthhibgkgbcdjnaaW.PrintMore Go.Proofs.Ythhibgkgbcdjnaa.Fr Go.Proofs.Ythhibgkgbcdjnaa.ScrP Go.Proofs.Ythhibgkgbcdjnaa.Openers
set_option linter.unusedVariables false
set_option linter.unusedSimpArgs false

theorem law13_calls (c : Cf) (w : World) : Calls Try.prog 9 #[cfV c] w fun e w' => e = .returned (.bool (cfB c)) ∧ Fr nope w w' :=
  (ConfW.right_calls c.a0 c.a1 c.a2 c.a3 c.a4 c.a5 c.a6 c.a7 w).mono fun e w' h => ⟨h.1, Fr.of_below h.2⟩
def goodB (c : Cf) (L : List Ev) : Bool := cfB c && L.all evB
theorem goodB_snoc (c : Cf) (L : List Ev) (k : Nat) (h : k < L.length) (e : Ev) (he : L.getD k ev0 = e) : goodB c (L.take (k + 1)) = (goodB c (L.take k) && evB e) := by
  have : L.take (k + 1) = L.take k ++ [e] := by
    rw [List.take_succ_eq_append_getElem h, ← he]
    simp [h]
  rw [this]
  simp [goodB, Bool.and_assoc]
theorem goodB_true {c : Cf} {L : List Ev} (h : goodB c L = true) : cfB c = true ∧ ∀ e ∈ L, evB e = true := by
  simpa [goodB] using h
theorem goodB_false {c : Cf} {L : List Ev} (h : goodB c L = false) : ¬ (cfB c = true ∧ ∀ e ∈ L, evB e = true) := by
  intro hh
  have : goodB c L = true := by simpa [goodB] using hh
  rw [this] at h
  cases h
/-- Encode, where something may not be written -/
theorem encode_bad (c : Cf) (L : List Ev) (A : Option Addr) (cp : Nat) (w : World) (hr : ReadsEv w A L) (hb : ¬ (cfB c = true ∧ ∀ e ∈ L, evB e = true)) (h8 : L.length ≤ 8192) (hs : sz L ≤ 100000) :
    Calls Try.prog 12 #[cfV c, .slice A L.length cp] w fun e w' => e = .returned (.tuple #[.slice none 0 0, .int .i64 1]) ∧ Fr nope w w' := by
  refine (encode_calls c L A cp w hr (.inr hs)).mono ?_
  rintro e w' ⟨v, x, rfl, hF, h | h | h⟩
  · omega
  · obtain ⟨_, _, rfl, rfl⟩ := h; exact ⟨rfl, hF⟩
  · exact absurd ⟨h.2.1, h.2.2.1⟩ hb
theorem readsEv_fr {W W1 : World} {A : Option Addr} {L : List Ev} (h : ReadsEv W A L) (hF : Fr nope W W1) : ReadsEv W1 A L := by
  refine ⟨h.1, fun h0 => ?_⟩
  obtain ⟨ad, rfl, hcs⟩ := h.2 h0
  have back : ∀ {a : Addr} {v : Value}, W.cell? a = some v → W1.cell? a = some v := fun {a v} h => by
    rw [World.cell?_of_block (hF.block _ (World.block_lt_of_cell? W _ h) (fun h => h))]; exact h
  refine ⟨ad, rfl, fun j hj => ?_⟩
  obtain ⟨h0, h1, h2, h3, h4⟩ := hcs j hj
  exact ⟨back h0, back h1, back h2, back h3, h4⟩
theorem frT {a b c : World} (h : Fr nope a b) (k : Fr nope b c) : Fr nope a c := h.trans k (fun i hi h => h.elim)

attribute [local go_sem ↓] Go.wp_at_zero Go.wp_at_succ
set_option maxHeartbeats 4000000 in
set_option maxRecDepth 100000 in
theorem scriptBytes_walk (c : Cf) (L : List Ev) (A : Option Addr) (cp : Nat) (w : World) (hr : ReadsEv w A L) :
    Calls Try.prog 3 #[cfV c, .slice A L.length cp] w fun e w' => e = .returned (.bool true) ∧ Fr nope w w' := by
  unfold cfV
  have hlm := hr.1
  have HR := Aside0.mk hr
  clear hr
  have HC : Aside0 ((w.alloc (.cells (cfCells c) 23)).heap[w.heap.size]? = some (.cells (cfCells c) 23 (0, 0))) := ⟨blk_new _ _⟩
  have HF0 : Aside0 (Fr nope w (w.alloc (.cells (cfCells c) 23))) := ⟨(Fr.refl _ _).alloc _⟩
  go_enter Try.func3, Try.ntmps3
  go_wp2_with (first | (go_at_call 7; refine (head_calls _).mono ?_; rintro e1 w1 ⟨rfl, hf1⟩; have HF1 : Aside0 (Fr nope (w.alloc (.cells (cfCells c) 23)) w1) := ⟨hf1⟩; clear hf1))
  go_at_call 8
  refine (few_calls L A cp w1 (readsEv_fr HR.out (frT HF0.out HF1.out))).mono ?_
  rintro e2 w2 ⟨b, rfl, hfew, hb2⟩
  have HF2 : Aside0 (Fr nope (w.alloc (.cells (cfCells c) 23)) w2) := ⟨frT HF1.out (Fr.of_below hb2)⟩
  clear hb2 HF1
  cases b
  · clear hfew
    go_wp2
    go_returns
    exact ⟨rfl, frT HF0.out HF2.out⟩
  · have H120 : Aside0 (L.length ≤ 120 ∧ sz L ≤ 6000) := ⟨hfew rfl⟩
    have hB2 := HF2.out.blk HC.out (fun h => h)
    obtain ⟨c0, c1, c2, c3, c4, c5, c6, c7⟩ := cells8 hB2
    clear hfew hB2
    go_wp2_with (first | (go_at_call 9; refine (law13_calls c _).mono ?_; rintro e3 w3 ⟨rfl, hf3⟩; have HF3 := Aside0.mk (frT HF2.out hf3); clear hf3))
    clear c0 c1 c2 c3 c4 c5 c6 c7 HF2
    go_loopw [5, 23] (fun v5 v23 wr => ∃ (k : Nat), v23 = .int .i64 k ∧ k ≤ L.length ∧ v5 = .bool (goodB c (L.take k)) ∧ Aside0 (Fr nope (w.alloc (.cells (cfCells c) 23)) wr)) (fun _ i _ => L.length - (intOf i).toNat)
    case atStart => exact ⟨0, rfl, Nat.zero_le _, by simp [goodB], HF3⟩
    case round =>
      clear HF3
      obtain ⟨k, rfl, hk, rfl, HF⟩ := hrel
      by_cases hlt : k < L.length
      · obtain ⟨e, he⟩ : ∃ e, L.getD k ev0 = e := ⟨_, rfl⟩
        obtain ⟨ad, rfl, g0, g1, g2, g3, hsz⟩ := evCells HR.out k hlt e he (frT HF0.out HF.out)
        have HG := Aside0.mk (goodB_snoc c L k hlt e he)
        have HFW : Fr nope (wr.alloc (.cells #[.int .i64 e.k, .int .i64 e.i, .int .i64 e.n, .string e.d] 30)) (wr.alloc (.cells #[.int .i64 e.k, .int .i64 e.i, .int .i64 e.n, .string e.d] 30)) := Fr.refl _ _
        have HK : Aside0 (∀ w', Fr nope (wr.alloc (.cells #[.int .i64 e.k, .int .i64 e.i, .int .i64 e.n, .string e.d] 30)) w' → Fr nope (wr.alloc (.cells #[.int .i64 e.k, .int .i64 e.i, .int .i64 e.n, .string e.d] 30)) w' ∧ w'.cell? ⟨wr.heap.size, 0, none⟩ = some (.int .i64 e.k) ∧ w'.cell? ⟨wr.heap.size, 1, none⟩ = some (.int .i64 e.i) ∧ w'.cell? ⟨wr.heap.size, 2, none⟩ = some (.int .i64 e.n) ∧ w'.cell? ⟨wr.heap.size, 3, none⟩ = some (.string e.d)) := ⟨fun w' hF => by
          have hb := hF.blk (blk_new wr _) (fun h => h)
          exact ⟨hF, (blk_cell hb 0).trans rfl, (blk_cell hb 1).trans rfl, (blk_cell hb 2).trans rfl, (blk_cell hb 3).trans rfl⟩⟩
        clear he
        have hgc : goodB c (L.take k) = true ∨ goodB c (L.take k) = false := by cases goodB c (L.take k) <;> simp
        rcases hgc with hg | hg
        all_goals rw [hg] at HG ⊢
        all_goals clear hg
        all_goals go_wp2
        all_goals (go_region_held3 (fun w' => Fr nope (wr.alloc (.cells #[.int .i64 e.k, .int .i64 e.i, .int .i64 e.n, .string e.d] 30)) w' ∧ w'.cell? ⟨wr.heap.size, 0, none⟩ = some (.int .i64 e.k) ∧ w'.cell? ⟨wr.heap.size, 1, none⟩ = some (.int .i64 e.i) ∧ w'.cell? ⟨wr.heap.size, 2, none⟩ = some (.int .i64 e.n) ∧ w'.cell? ⟨wr.heap.size, 3, none⟩ = some (.string e.d))
          (first | exact HK.out _ HFW.drew | exact HK.out _ hfE | exact HK.out _ hfL | fail)
          (first | (go_at_call 10; refine (evRight_calls e _).mono ?_; rintro e4 w4 ⟨rfl, hw4⟩; have hfE : Fr nope (wr.alloc (.cells #[.int .i64 e.k, .int .i64 e.i, .int .i64 e.n, .string e.d] 30)) w4 := (by first | exact HFW.drew.below hw4 | exact hfL.below hw4); clear hw4) | (go_at_call 11; refine (lawRight_calls e _).mono ?_; rintro e5 w5 ⟨rfl, hw5⟩; have hfL : Fr nope (wr.alloc (.cells #[.int .i64 e.k, .int .i64 e.i, .int .i64 e.n, .string e.d] 30)) w5 := (by first | exact HFW.drew.below hw5 | exact hfE.below hw5); clear hw5) | fail))
        · go_wp2_with (first | (go_at_call 11; refine (lawRight_calls e _).mono ?_; rintro e6 w6 ⟨rfl, hw6⟩; have hf6 := hfL.below hw6; clear hw6))
          case roundEnd =>
            refine ⟨⟨k + 1, by push_cast; rfl, hlt, by rw [HG.out]; simp, ⟨frT (HF.out.alloc _) hf6⟩⟩, ?_⟩
            simp only [intOf]
            omega
        · go_wp2
          case roundEnd =>
            refine ⟨⟨k + 1, by push_cast; rfl, hlt, by rw [HG.out]; simp, ⟨frT (HF.out.alloc _) hfL⟩⟩, ?_⟩
            simp only [intOf]
            omega
      · have hkl : k = L.length := by omega
        have h8 : L.length ≤ 8192 := by have := H120.out.1; omega
        have hs : sz L ≤ 100000 := by have := H120.out.2; omega
        have HS := Aside0.mk (And.intro h8 hs)
        obtain ⟨c0, c1, c2, c3, c4, c5, c6, c7⟩ := cells8 (HF.out.blk HC.out (fun h => h))
        have hgc : goodB c (L.take k) = true ∨ goodB c (L.take k) = false := by cases goodB c (L.take k) <;> simp
        rcases hgc with hg | hg
        · rw [hg]
          rw [hkl, List.take_length] at hg
          have HGD := Aside0.mk (goodB_true hg)
          clear hg hkl hk h8 hs
          go_wp2_with (first | (go_at_call 12; refine (encode_good c L A cp _ (readsEv_fr HR.out (frT HF0.out HF.out)) HGD.out.1 HGD.out.2 HS.out.1 HS.out.2).mono ?_; rintro e6 w6 ⟨A6, c6', rfl, h61, h62, hf6, hr6⟩; have HF6 := Aside0.mk (frT HF.out hf6); have HR6 := Aside0.mk hr6; clear hf6 hr6 c0 c1 c2 c3 c4 c5 c6 c7) | (go_at_call 13; refine (decode_good c L A6 c6' _ HGD.out.1 HGD.out.2 HS.out.1 HS.out.2 h61 h62 HR6.out).mono ?_; rintro e7 w7 ⟨B7, dc7, rfl, hd7, hf7, hr7⟩; unfold cfV; have HF7 := Aside0.mk (frT HF6.out hf7); have HF67 := Aside0.mk hf7; have HR7 := Aside0.mk hr7; clear hf7 hr7))
          have hB1 : (w7.alloc (.cells #[.int .i64 c.a0, .int .i64 c.a1, .int .i64 c.a2, .int .i64 c.a3, .int .i64 c.a4, .int .i64 c.a5, .int .i64 c.a6, .int .i64 c.a7] 23)).heap[w.heap.size]? = some (.cells (cfCells c) 23 (0, 0)) := blk_alloc (HF7.out.blk HC.out (fun h => h)) _
          have hB2 : (w7.alloc (.cells #[.int .i64 c.a0, .int .i64 c.a1, .int .i64 c.a2, .int .i64 c.a3, .int .i64 c.a4, .int .i64 c.a5, .int .i64 c.a6, .int .i64 c.a7] 23)).heap[w7.heap.size]? = some (.cells (cfCells c) 23 (0, 0)) := blk_new w7 _
          have hF7 : Fr nope (w.alloc (.cells (cfCells c) 23)) (w7.alloc (.cells #[.int .i64 c.a0, .int .i64 c.a1, .int .i64 c.a2, .int .i64 c.a3, .int .i64 c.a4, .int .i64 c.a5, .int .i64 c.a6, .int .i64 c.a7] 23)) := HF7.out.alloc _
          have hR6 : ReadsInt (w7.alloc (.cells #[.int .i64 c.a0, .int .i64 c.a1, .int .i64 c.a2, .int .i64 c.a3, .int .i64 c.a4, .int .i64 c.a5, .int .i64 c.a6, .int .i64 c.a7] 23)) .u8 A6 (encB c L).length (encB c L) := (HF67.out.alloc _).reads HR6.out (fun _ _ h => h)
          have hR7 : ReadsEv (w7.alloc (.cells #[.int .i64 c.a0, .int .i64 c.a1, .int .i64 c.a2, .int .i64 c.a3, .int .i64 c.a4, .int .i64 c.a5, .int .i64 c.a6, .int .i64 c.a7] 23)) B7 L := readsEv_fr HR7.out ((Fr.refl _ _).alloc _)
          rename_i q1 k2 q0 k1 a1 k0 a0
          clear a1
          clear HF67 HR7 HR6 HF6 HF HF7
          generalize (w7.alloc (.cells #[.int .i64 c.a0, .int .i64 c.a1, .int .i64 c.a2, .int .i64 c.a3, .int .i64 c.a4, .int .i64 c.a5, .int .i64 c.a6, .int .i64 c.a7] 23)) = W7 at hB1 hB2 hF7 hR6 hR7 ⊢
          generalize hE : encB c L = E at hR6 h61 ⊢
          have HE := Aside0.mk hE
          clear hE
          have HR6 := Aside0.mk hR6
          have HB1 := Aside0.mk hB1
          have HB2 := Aside0.mk hB2
          have HF7 := Aside0.mk hF7
          have HR7 := Aside0.mk hR7
          have HK : Aside0 (∀ w', Fr nope W7 w' → Fr nope W7 w' ∧ w'.cell? ⟨w.heap.size, 0, none⟩ = some (.int .i64 c.a0) ∧ w'.cell? ⟨w.heap.size, 1, none⟩ = some (.int .i64 c.a1) ∧ w'.cell? ⟨w.heap.size, 2, none⟩ = some (.int .i64 c.a2) ∧ w'.cell? ⟨w.heap.size, 3, none⟩ = some (.int .i64 c.a3) ∧ w'.cell? ⟨w.heap.size, 4, none⟩ = some (.int .i64 c.a4) ∧ w'.cell? ⟨w.heap.size, 5, none⟩ = some (.int .i64 c.a5) ∧ w'.cell? ⟨w.heap.size, 6, none⟩ = some (.int .i64 c.a6) ∧ w'.cell? ⟨w.heap.size, 7, none⟩ = some (.int .i64 c.a7) ∧ w'.cell? ⟨w7.heap.size, 0, none⟩ = some (.int .i64 c.a0) ∧ w'.cell? ⟨w7.heap.size, 1, none⟩ = some (.int .i64 c.a1) ∧ w'.cell? ⟨w7.heap.size, 2, none⟩ = some (.int .i64 c.a2) ∧ w'.cell? ⟨w7.heap.size, 3, none⟩ = some (.int .i64 c.a3) ∧ w'.cell? ⟨w7.heap.size, 4, none⟩ = some (.int .i64 c.a4) ∧ w'.cell? ⟨w7.heap.size, 5, none⟩ = some (.int .i64 c.a5) ∧ w'.cell? ⟨w7.heap.size, 6, none⟩ = some (.int .i64 c.a6) ∧ w'.cell? ⟨w7.heap.size, 7, none⟩ = some (.int .i64 c.a7) ∧ (convert 32 9 (.slice A6 E.length c6')).run Try.prog w' = .ok (.string (strOfNums E)) w') := ⟨fun w' hF => by
            obtain ⟨c0, c1, c2, c3, c4, c5, c6, c7⟩ := cells8 (hF.blk HB1.out (fun h => h))
            obtain ⟨d0, d1, d2, d3, d4, d5, d6, d7⟩ := cells8 (hF.blk HB2.out (fun h => h))
            exact ⟨hF, c0, c1, c2, c3, c4, c5, c6, c7, d0, d1, d2, d3, d4, d5, d6, d7, string_of_reads (P := Try.prog) (c := c6') Try.underlying32 Try.underlying5 Try.underlying9 (hF.reads HR6.out (fun _ _ h => h))⟩⟩
          clear hB1 hB2 hF7 hR6 hR7
          refine wp_region_noPanic ?_
          refine wp_region_held_drew (S := (fun w' => Fr nope W7 w' ∧ w'.cell? ⟨w.heap.size, 0, none⟩ = some (.int .i64 c.a0) ∧ w'.cell? ⟨w.heap.size, 1, none⟩ = some (.int .i64 c.a1) ∧ w'.cell? ⟨w.heap.size, 2, none⟩ = some (.int .i64 c.a2) ∧ w'.cell? ⟨w.heap.size, 3, none⟩ = some (.int .i64 c.a3) ∧ w'.cell? ⟨w.heap.size, 4, none⟩ = some (.int .i64 c.a4) ∧ w'.cell? ⟨w.heap.size, 5, none⟩ = some (.int .i64 c.a5) ∧ w'.cell? ⟨w.heap.size, 6, none⟩ = some (.int .i64 c.a6) ∧ w'.cell? ⟨w.heap.size, 7, none⟩ = some (.int .i64 c.a7) ∧ w'.cell? ⟨w7.heap.size, 0, none⟩ = some (.int .i64 c.a0) ∧ w'.cell? ⟨w7.heap.size, 1, none⟩ = some (.int .i64 c.a1) ∧ w'.cell? ⟨w7.heap.size, 2, none⟩ = some (.int .i64 c.a2) ∧ w'.cell? ⟨w7.heap.size, 3, none⟩ = some (.int .i64 c.a3) ∧ w'.cell? ⟨w7.heap.size, 4, none⟩ = some (.int .i64 c.a4) ∧ w'.cell? ⟨w7.heap.size, 5, none⟩ = some (.int .i64 c.a5) ∧ w'.cell? ⟨w7.heap.size, 6, none⟩ = some (.int .i64 c.a6) ∧ w'.cell? ⟨w7.heap.size, 7, none⟩ = some (.int .i64 c.a7) ∧ (convert 32 9 (.slice A6 E.length c6')).run Try.prog w' = .ok (.string (strOfNums E)) w')) (by kernel_rfl) ?_ (fun hHeld => ?_)
          · (first | exact HK.out _ (Fr.refl nope W7).drew | exact HK.out _ hf8 | exact HK.out _ hf9 | fail)
          refine wpAnyH_take (i := 0) (oi := { dst := some 60, op := Op.move (Operand.tmp 9), type := 33, pos := "law.go:99", after := #[], guard := none }) (v := ?_) rfl (by kernel_rfl) (by kernel_rfl) (by kernel_rfl) (fun _ _ _ h => h) (Or.inl ⟨by rfl, ?_⟩) (by assumption) ?_
          rotate_left
          · intro w hSw; (try dsimp only at hSw); go_simp; try (with_reducible rfl)
          try simp only [Act.put, List.setIfInBounds_toArray, List.set_cons_zero, List.set_cons_succ]
          refine wpAnyH_take (i := 1) (oi := { dst := some 61, op := Op.binOp BinOp.eql 33 (Operand.tmp 60) (Operand.const (Value.int IntKind.i64 0)) 33, type := 4, pos := "law.go:99", after := #[{ on := 0, ground := Ground.data }], guard := none }) (v := ?_) rfl (by kernel_rfl) (by kernel_rfl) (by kernel_rfl) (fun _ _ _ h => h) (Or.inl ⟨by rfl, ?_⟩) (by assumption) ?_
          rotate_left
          · intro w hSw; (try dsimp only at hSw); go_simp; try (with_reducible rfl)
          try simp only [Act.put, List.setIfInBounds_toArray, List.set_cons_zero, List.set_cons_succ]
          refine wpAnyH_take (i := 2) (oi := { dst := some 62, op := Op.move (Operand.tmp 61), type := 4, pos := "law.go:99", after := #[{ on := 1, ground := Ground.data }], guard := none }) (v := ?_) rfl (by kernel_rfl) (by kernel_rfl) (by kernel_rfl) (fun _ _ _ h => h) (Or.inl ⟨by rfl, ?_⟩) (by assumption) ?_
          rotate_left
          · intro w hSw; (try dsimp only at hSw); go_simp; try (with_reducible rfl)
          try simp only [Act.put, List.setIfInBounds_toArray, List.set_cons_zero, List.set_cons_succ]
          refine wpAnyH_take (i := 3) (oi := { dst := some 63, op := Op.move (Operand.tmp 8), type := 32, pos := "law.go:99", after := #[{ on := 2, ground := Ground.guard }], guard := some (2, true) }) (v := ?_) rfl (by kernel_rfl) (by kernel_rfl) (by kernel_rfl) (fun _ _ _ h => h) (Or.inl ⟨by rfl, ?_⟩) (by assumption) ?_
          rotate_left
          · intro w hSw; (try dsimp only at hSw); go_simp; try (with_reducible rfl)
          try simp only [Act.put, List.setIfInBounds_toArray, List.set_cons_zero, List.set_cons_succ]
          refine wpAnyH_take (i := 4) (oi := { dst := some 64, op := Op.convert 32 9 (Operand.tmp 63), type := 9, pos := "law.go:99", after := #[{ on := 3, ground := Ground.data }, { on := 2, ground := Ground.guard }], guard := some (2, true) }) (v := ?_) rfl (by kernel_rfl) (by kernel_rfl) (by kernel_rfl) (fun _ _ _ h => h) (Or.inl ⟨by rfl, ?_⟩) (by assumption) ?_
          rotate_left
          · intro w hSw; (try dsimp only at hSw); go_simp; try (with_reducible rfl)
          try simp only [Act.put, List.setIfInBounds_toArray, List.set_cons_zero, List.set_cons_succ]
          refine wpAnyH_take (i := 5) (oi := { dst := some 65, op := Op.load 23 (Operand.tmp 2), type := 23, pos := "law.go:99", after := #[{ on := 2, ground := Ground.guard }], guard := some (2, true) }) (v := ?_) rfl (by kernel_rfl) (by kernel_rfl) (by kernel_rfl) (fun _ _ _ h => h) (Or.inl ⟨by rfl, ?_⟩) (by assumption) ?_
          rotate_left
          · intro w hSw; (try dsimp only at hSw); go_simp; try (with_reducible rfl)
          try simp only [Act.put, List.setIfInBounds_toArray, List.set_cons_zero, List.set_cons_succ]
          refine wpAnyH_take (i := 6) (oi := { dst := some 66, op := Op.move (Operand.tmp 1), type := 24, pos := "law.go:99", after := #[{ on := 2, ground := Ground.guard }], guard := some (2, true) }) (v := ?_) rfl (by kernel_rfl) (by kernel_rfl) (by kernel_rfl) (fun _ _ _ h => h) (Or.inl ⟨by rfl, ?_⟩) (by assumption) ?_
          rotate_left
          · intro w hSw; (try dsimp only at hSw); go_simp; try (with_reducible rfl)
          try simp only [Act.put, List.setIfInBounds_toArray, List.set_cons_zero, List.set_cons_succ]
          refine wpAnyH_ready (rs := [7]) (by kernel_rfl) (by simp) ?_
          refine AllReadyH.cons (o := { dst := some 67, op := Op.call { callee := Callee.value (Operand.func 14), args := #[Operand.tmp 65, Operand.tmp 66], argTypes := #[23, 24] }, type := 32, pos := "law.go:99", after := #[{ on := 5, ground := Ground.data }, { on := 6, ground := Ground.data }, { on := 2, ground := Ground.chain }, { on := 2, ground := Ground.guard }], guard := some (2, true) }) rfl (fun K hK => ?_) AllReadyH.nil
          go_simp
          (go_at_call 14; have hq8 := bytes_calls c L A cp W7.drew (readsEv_fr HR.out (frT HF0.out (HF7.out.drew))) HGD.out.1 HGD.out.2 (by have := H120.out.1; omega) HS.out.2; unfold cfV at hq8; (with_reducible refine hq8.mono ?_); clear hq8; rintro e8 w8 ⟨v8, rfl, hf8', ho8⟩; rw [HE.out] at ho8; obtain ⟨A8, c8, rfl, _, _, hr8⟩ := owns_reads ho8; have hf8 : Fr nope W7 w8 := frT (Fr.refl nope W7).drew hf8'; have hcv8 := string_of_reads (P := Try.prog) (c := c8) Try.underlying32 Try.underlying5 Try.underlying9 hr8; clear hf8' ho8 hr8)
          refine hK.out _ _ ?_ (fun hHeld => ?_)
          · (first | exact HK.out _ (Fr.refl nope W7).drew | exact HK.out _ hf8 | exact HK.out _ hf9 | fail)
          clear hK K
          try simp only [Act.put, List.setIfInBounds_toArray, List.set_cons_zero, List.set_cons_succ]
          refine wpAnyH_ready (rs := [8]) (by kernel_rfl) (by simp) ?_
          refine AllReadyH.cons (o := { dst := some 68, op := Op.convert 32 9 (Operand.tmp 67), type := 9, pos := "law.go:99", after := #[{ on := 7, ground := Ground.data }, { on := 2, ground := Ground.guard }], guard := some (2, true) }) rfl (fun K hK => ?_) AllReadyH.nil
          go_simp
          refine hK.out _ _ ?_ (fun hHeld => ?_)
          · (first | exact HK.out _ (Fr.refl nope W7).drew | exact HK.out _ hf8 | exact HK.out _ hf9 | fail)
          clear hK K
          try simp only [Act.put, List.setIfInBounds_toArray, List.set_cons_zero, List.set_cons_succ]
          refine wpAnyH_take (i := 9) (oi := { dst := some 69, op := Op.binOp BinOp.eql 9 (Operand.tmp 64) (Operand.tmp 68) 9, type := 4, pos := "law.go:99", after := #[{ on := 4, ground := Ground.data }, { on := 8, ground := Ground.data }, { on := 2, ground := Ground.guard }], guard := some (2, true) }) (v := ?_) rfl (by kernel_rfl) (by kernel_rfl) (by kernel_rfl) (fun _ _ _ h => h) (Or.inl ⟨by rfl, ?_⟩) (by assumption) ?_
          rotate_left
          · intro w hSw; (try dsimp only at hSw); go_simp; try (with_reducible rfl)
          try simp only [Act.put, List.setIfInBounds_toArray, List.set_cons_zero, List.set_cons_succ]
          refine wpAnyH_take (i := 10) (oi := { dst := some 70, op := Op.pick (Operand.tmp 62) (Operand.tmp 69) (Operand.const (Value.bool false)), type := 4, pos := "law.go:99", after := #[{ on := 2, ground := Ground.data }, { on := 9, ground := Ground.data }], guard := none }) (v := ?_) rfl (by kernel_rfl) (by kernel_rfl) (by kernel_rfl) (fun _ _ _ h => h) (Or.inl ⟨by rfl, ?_⟩) (by assumption) ?_
          rotate_left
          · intro w hSw; (try dsimp only at hSw); go_simp; try (with_reducible rfl)
          try simp only [Act.put, List.setIfInBounds_toArray, List.set_cons_zero, List.set_cons_succ]
          refine wpAnyH_take (i := 11) (oi := { dst := some 71, op := Op.move (Operand.tmp 70), type := 4, pos := "law.go:99", after := #[{ on := 10, ground := Ground.data }, { on := 7, ground := Ground.chain }], guard := none }) (v := ?_) rfl (by kernel_rfl) (by kernel_rfl) (by kernel_rfl) (fun _ _ _ h => h) (Or.inl ⟨by rfl, ?_⟩) (by assumption) ?_
          rotate_left
          · intro w hSw; (try dsimp only at hSw); go_simp; try (with_reducible rfl)
          try simp only [Act.put, List.setIfInBounds_toArray, List.set_cons_zero, List.set_cons_succ]
          refine wpAnyH_take (i := 12) (oi := { dst := some 72, op := Op.move (Operand.tmp 13), type := 33, pos := "law.go:99", after := #[{ on := 11, ground := Ground.guard }], guard := some (11, true) }) (v := ?_) rfl (by kernel_rfl) (by kernel_rfl) (by kernel_rfl) (fun _ _ _ h => h) (Or.inl ⟨by rfl, ?_⟩) (by assumption) ?_
          rotate_left
          · intro w hSw; (try dsimp only at hSw); go_simp; try (with_reducible rfl)
          try simp only [Act.put, List.setIfInBounds_toArray, List.set_cons_zero, List.set_cons_succ]
          refine wpAnyH_take (i := 13) (oi := { dst := some 73, op := Op.binOp BinOp.eql 33 (Operand.tmp 72) (Operand.const (Value.int IntKind.i64 0)) 33, type := 4, pos := "law.go:99", after := #[{ on := 12, ground := Ground.data }, { on := 11, ground := Ground.guard }], guard := some (11, true) }) (v := ?_) rfl (by kernel_rfl) (by kernel_rfl) (by kernel_rfl) (fun _ _ _ h => h) (Or.inl ⟨by rfl, ?_⟩) (by assumption) ?_
          rotate_left
          · intro w hSw; (try dsimp only at hSw); go_simp; try (with_reducible rfl)
          try simp only [Act.put, List.setIfInBounds_toArray, List.set_cons_zero, List.set_cons_succ]
          refine wpAnyH_take (i := 14) (oi := { dst := some 74, op := Op.pick (Operand.tmp 71) (Operand.tmp 73) (Operand.const (Value.bool false)), type := 4, pos := "law.go:99", after := #[{ on := 11, ground := Ground.data }, { on := 13, ground := Ground.data }], guard := none }) (v := ?_) rfl (by kernel_rfl) (by kernel_rfl) (by kernel_rfl) (fun _ _ _ h => h) (Or.inl ⟨by rfl, ?_⟩) (by assumption) ?_
          rotate_left
          · intro w hSw; (try dsimp only at hSw); go_simp; try (with_reducible rfl)
          try simp only [Act.put, List.setIfInBounds_toArray, List.set_cons_zero, List.set_cons_succ]
          refine wpAnyH_take (i := 15) (oi := { dst := some 75, op := Op.move (Operand.tmp 74), type := 4, pos := "law.go:99", after := #[{ on := 14, ground := Ground.data }, { on := 11, ground := Ground.chain }], guard := none }) (v := ?_) rfl (by kernel_rfl) (by kernel_rfl) (by kernel_rfl) (fun _ _ _ h => h) (Or.inl ⟨by rfl, ?_⟩) (by assumption) ?_
          rotate_left
          · intro w hSw; (try dsimp only at hSw); go_simp; try (with_reducible rfl)
          try simp only [Act.put, List.setIfInBounds_toArray, List.set_cons_zero, List.set_cons_succ]
          refine wpAnyH_take (i := 16) (oi := { dst := some 76, op := Op.load 23 (Operand.tmp 10), type := 23, pos := "law.go:99", after := #[{ on := 15, ground := Ground.guard }], guard := some (15, true) }) (v := ?_) rfl (by kernel_rfl) (by kernel_rfl) (by kernel_rfl) (fun _ _ _ h => h) (Or.inl ⟨by rfl, ?_⟩) (by assumption) ?_
          rotate_left
          · intro w hSw; (try dsimp only at hSw); go_simp; try (with_reducible rfl)
          try simp only [Act.put, List.setIfInBounds_toArray, List.set_cons_zero, List.set_cons_succ]
          refine wpAnyH_take (i := 17) (oi := { dst := some 77, op := Op.load 23 (Operand.tmp 2), type := 23, pos := "law.go:99", after := #[{ on := 15, ground := Ground.guard }], guard := some (15, true) }) (v := ?_) rfl (by kernel_rfl) (by kernel_rfl) (by kernel_rfl) (fun _ _ _ h => h) (Or.inl ⟨by rfl, ?_⟩) (by assumption) ?_
          rotate_left
          · intro w hSw; (try dsimp only at hSw); go_simp; try (with_reducible rfl)
          try simp only [Act.put, List.setIfInBounds_toArray, List.set_cons_zero, List.set_cons_succ]
          refine wpAnyH_take (i := 18) (oi := { dst := some 78, op := Op.binOp BinOp.eql 23 (Operand.tmp 76) (Operand.tmp 77) 23, type := 4, pos := "law.go:99", after := #[{ on := 16, ground := Ground.data }, { on := 17, ground := Ground.data }, { on := 15, ground := Ground.guard }], guard := some (15, true) }) (v := ?_) rfl (by kernel_rfl) (by kernel_rfl) (by kernel_rfl) (fun _ _ _ h => h) (Or.inl ⟨by rfl, ?_⟩) (by assumption) ?_
          rotate_left
          · intro w hSw; (try dsimp only at hSw); go_simp; try (with_reducible rfl)
          try simp only [Act.put, List.setIfInBounds_toArray, List.set_cons_zero, List.set_cons_succ]
          refine wpAnyH_take (i := 19) (oi := { dst := some 79, op := Op.pick (Operand.tmp 75) (Operand.tmp 78) (Operand.const (Value.bool false)), type := 4, pos := "law.go:99", after := #[{ on := 15, ground := Ground.data }, { on := 18, ground := Ground.data }], guard := none }) (v := ?_) rfl (by kernel_rfl) (by kernel_rfl) (by kernel_rfl) (fun _ _ _ h => h) (Or.inl ⟨by rfl, ?_⟩) (by assumption) ?_
          rotate_left
          · intro w hSw; (try dsimp only at hSw); go_simp; try (with_reducible rfl)
          try simp only [Act.put, List.setIfInBounds_toArray, List.set_cons_zero, List.set_cons_succ]
          refine wpAnyH_take (i := 20) (oi := { dst := some 80, op := Op.move (Operand.tmp 79), type := 4, pos := "law.go:99", after := #[{ on := 19, ground := Ground.data }, { on := 15, ground := Ground.chain }], guard := none }) (v := ?_) rfl (by kernel_rfl) (by kernel_rfl) (by kernel_rfl) (fun _ _ _ h => h) (Or.inl ⟨by rfl, ?_⟩) (by assumption) ?_
          rotate_left
          · intro w hSw; (try dsimp only at hSw); go_simp; try (with_reducible rfl)
          try simp only [Act.put, List.setIfInBounds_toArray, List.set_cons_zero, List.set_cons_succ]
          refine wpAnyH_take (i := 21) (oi := { dst := some 81, op := Op.move (Operand.tmp 12), type := 3, pos := "law.go:99", after := #[{ on := 20, ground := Ground.guard }], guard := some (20, true) }) (v := ?_) rfl (by kernel_rfl) (by kernel_rfl) (by kernel_rfl) (fun _ _ _ h => h) (Or.inl ⟨by rfl, ?_⟩) (by assumption) ?_
          rotate_left
          · intro w hSw; (try dsimp only at hSw); go_simp; try (with_reducible rfl)
          try simp only [Act.put, List.setIfInBounds_toArray, List.set_cons_zero, List.set_cons_succ]
          refine wpAnyH_take (i := 22) (oi := { dst := some 82, op := Op.move (Operand.tmp 8), type := 32, pos := "law.go:99", after := #[{ on := 20, ground := Ground.guard }], guard := some (20, true) }) (v := ?_) rfl (by kernel_rfl) (by kernel_rfl) (by kernel_rfl) (fun _ _ _ h => h) (Or.inl ⟨by rfl, ?_⟩) (by assumption) ?_
          rotate_left
          · intro w hSw; (try dsimp only at hSw); go_simp; try (with_reducible rfl)
          try simp only [Act.put, List.setIfInBounds_toArray, List.set_cons_zero, List.set_cons_succ]
          refine wpAnyH_take (i := 23) (oi := { dst := some 83, op := Op.call { callee := Callee.builtin Builtin.len, args := #[Operand.tmp 82], argTypes := #[32] }, type := 3, pos := "law.go:99", after := #[{ on := 22, ground := Ground.data }, { on := 20, ground := Ground.guard }], guard := some (20, true) }) (v := ?_) rfl (by kernel_rfl) (by kernel_rfl) (by kernel_rfl) (fun _ _ _ h => h) (Or.inl ⟨by rfl, ?_⟩) (by assumption) ?_
          rotate_left
          · intro w hSw; (try dsimp only at hSw); go_simp; try (with_reducible rfl)
          try simp only [Act.put, List.setIfInBounds_toArray, List.set_cons_zero, List.set_cons_succ]
          refine wpAnyH_take (i := 24) (oi := { dst := some 84, op := Op.binOp BinOp.eql 3 (Operand.tmp 81) (Operand.tmp 83) 3, type := 4, pos := "law.go:99", after := #[{ on := 21, ground := Ground.data }, { on := 23, ground := Ground.data }, { on := 20, ground := Ground.guard }], guard := some (20, true) }) (v := ?_) rfl (by kernel_rfl) (by kernel_rfl) (by kernel_rfl) (fun _ _ _ h => h) (Or.inl ⟨by rfl, ?_⟩) (by assumption) ?_
          rotate_left
          · intro w hSw; (try dsimp only at hSw); go_simp; try (with_reducible rfl)
          try simp only [Act.put, List.setIfInBounds_toArray, List.set_cons_zero, List.set_cons_succ]
          refine wpAnyH_take (i := 25) (oi := { dst := some 85, op := Op.pick (Operand.tmp 80) (Operand.tmp 84) (Operand.const (Value.bool false)), type := 4, pos := "law.go:99", after := #[{ on := 20, ground := Ground.data }, { on := 24, ground := Ground.data }], guard := none }) (v := ?_) rfl (by kernel_rfl) (by kernel_rfl) (by kernel_rfl) (fun _ _ _ h => h) (Or.inl ⟨by rfl, ?_⟩) (by assumption) ?_
          rotate_left
          · intro w hSw; (try dsimp only at hSw); go_simp; try (with_reducible rfl)
          try simp only [Act.put, List.setIfInBounds_toArray, List.set_cons_zero, List.set_cons_succ]
          refine wpAnyH_take (i := 26) (oi := { dst := some 86, op := Op.move (Operand.tmp 85), type := 4, pos := "law.go:99", after := #[{ on := 25, ground := Ground.data }, { on := 20, ground := Ground.chain }], guard := none }) (v := ?_) rfl (by kernel_rfl) (by kernel_rfl) (by kernel_rfl) (fun _ _ _ h => h) (Or.inl ⟨by rfl, ?_⟩) (by assumption) ?_
          rotate_left
          · intro w hSw; (try dsimp only at hSw); go_simp; try (with_reducible rfl)
          try simp only [Act.put, List.setIfInBounds_toArray, List.set_cons_zero, List.set_cons_succ]
          refine wpAnyH_take (i := 27) (oi := { dst := some 87, op := Op.move (Operand.tmp 11), type := 24, pos := "law.go:99", after := #[{ on := 26, ground := Ground.guard }], guard := some (26, true) }) (v := ?_) rfl (by kernel_rfl) (by kernel_rfl) (by kernel_rfl) (fun _ _ _ h => h) (Or.inl ⟨by rfl, ?_⟩) (by assumption) ?_
          rotate_left
          · intro w hSw; (try dsimp only at hSw); go_simp; try (with_reducible rfl)
          try simp only [Act.put, List.setIfInBounds_toArray, List.set_cons_zero, List.set_cons_succ]
          refine wpAnyH_take (i := 28) (oi := { dst := some 88, op := Op.move (Operand.tmp 1), type := 24, pos := "law.go:99", after := #[{ on := 26, ground := Ground.guard }], guard := some (26, true) }) (v := ?_) rfl (by kernel_rfl) (by kernel_rfl) (by kernel_rfl) (fun _ _ _ h => h) (Or.inl ⟨by rfl, ?_⟩) (by assumption) ?_
          rotate_left
          · intro w hSw; (try dsimp only at hSw); go_simp; try (with_reducible rfl)
          try simp only [Act.put, List.setIfInBounds_toArray, List.set_cons_zero, List.set_cons_succ]
          refine wpAnyH_ready (rs := [29]) (by kernel_rfl) (by simp) ?_
          refine AllReadyH.cons (o := { dst := some 89, op := Op.call { callee := Callee.value (Operand.func 15), args := #[Operand.tmp 87, Operand.tmp 88], argTypes := #[24, 24] }, type := 4, pos := "law.go:99", after := #[{ on := 27, ground := Ground.data }, { on := 28, ground := Ground.data }, { on := 26, ground := Ground.chain }, { on := 26, ground := Ground.guard }], guard := some (26, true) }) rfl (fun K hK => ?_) AllReadyH.nil
          go_simp
          (go_at_call 15; have hq9 := same_calls L B7 A dc7 cp w8 (readsEv_fr HR7.out hf8) (readsEv_fr HR.out (frT HF0.out (frT HF7.out hf8))); (with_reducible refine hq9.mono ?_); clear hq9; rintro e9 w9 ⟨rfl, hf9'⟩; have hf9 : Fr nope W7 w9 := frT hf8 hf9'; clear hf9')
          refine hK.out _ _ ?_ (fun hHeld => ?_)
          · (first | exact HK.out _ (Fr.refl nope W7).drew | exact HK.out _ hf8 | exact HK.out _ hf9 | fail)
          clear hK K
          try simp only [Act.put, List.setIfInBounds_toArray, List.set_cons_zero, List.set_cons_succ]
          refine wpAnyH_take (i := 30) (oi := { dst := some 90, op := Op.pick (Operand.tmp 86) (Operand.tmp 89) (Operand.const (Value.bool false)), type := 4, pos := "law.go:99", after := #[{ on := 26, ground := Ground.data }, { on := 29, ground := Ground.data }], guard := none }) (v := ?_) rfl (by kernel_rfl) (by kernel_rfl) (by kernel_rfl) (fun _ _ _ h => h) (Or.inl ⟨by rfl, ?_⟩) (by assumption) ?_
          rotate_left
          · intro w hSw; (try dsimp only at hSw); go_simp; try (with_reducible rfl)
          try simp only [Act.put, List.setIfInBounds_toArray, List.set_cons_zero, List.set_cons_succ]
          refine wpAnyH_take (i := 31) (oi := { dst := some 4, op := Op.assign (Operand.tmp 90), type := 4, pos := "law.go:99", after := #[{ on := 30, ground := Ground.data }, { on := 29, ground := Ground.chain }, { on := 0, ground := Ground.phase }, { on := 1, ground := Ground.phase }, { on := 2, ground := Ground.phase }, { on := 3, ground := Ground.phase }, { on := 4, ground := Ground.phase }, { on := 5, ground := Ground.phase }, { on := 6, ground := Ground.phase }, { on := 7, ground := Ground.phase }, { on := 8, ground := Ground.phase }, { on := 9, ground := Ground.phase }, { on := 10, ground := Ground.phase }, { on := 11, ground := Ground.phase }, { on := 12, ground := Ground.phase }, { on := 13, ground := Ground.phase }, { on := 14, ground := Ground.phase }, { on := 15, ground := Ground.phase }, { on := 16, ground := Ground.phase }, { on := 17, ground := Ground.phase }, { on := 18, ground := Ground.phase }, { on := 19, ground := Ground.phase }, { on := 20, ground := Ground.phase }, { on := 21, ground := Ground.phase }, { on := 22, ground := Ground.phase }, { on := 23, ground := Ground.phase }, { on := 24, ground := Ground.phase }, { on := 25, ground := Ground.phase }, { on := 26, ground := Ground.phase }, { on := 27, ground := Ground.phase }, { on := 28, ground := Ground.phase }, { on := 29, ground := Ground.phase }, { on := 30, ground := Ground.phase }], guard := none }) (v := ?_) rfl (by kernel_rfl) (by kernel_rfl) (by kernel_rfl) (fun _ _ _ h => h) (Or.inl ⟨by rfl, ?_⟩) (by assumption) ?_
          rotate_left
          · intro w hSw; (try dsimp only at hSw); go_simp; try (with_reducible rfl)
          try simp only [Act.put, List.setIfInBounds_toArray, List.set_cons_zero, List.set_cons_succ]
          refine wpAnyH_done (by kernel_rfl) ?_ _
          refine NoPanic.normal ?_
          go_wp2
          go_returns
          exact ⟨rfl, frT HF0.out (frT HF7.out hf9)⟩
        · rw [hg]
          rw [hkl, List.take_length] at hg
          have HGD := Aside0.mk (goodB_false hg)
          clear hg hkl hk h8 hs
          go_wp2_with (first | (go_at_call 12; refine (encode_bad c L A cp _ (readsEv_fr HR.out (frT HF0.out HF.out)) HGD.out HS.out.1 HS.out.2).mono ?_; rintro e6 w6 ⟨rfl, hf6⟩; have HF6 := Aside0.mk (frT HF.out hf6); clear hf6 c0 c1 c2 c3 c4 c5 c6 c7))
          go_returns
          exact ⟨rfl, frT HF0.out HF6.out⟩
theorem scriptBytes_row (w : World) (a0 a1 a2 a3 a4 a5 a6 a7 : Int) {p0 p1 p2 p3 p4 p5 p6 p7 : Prop} (_ : p0) (_ : p1) (_ : p2) (_ : p3) (_ : p4) (_ : p5) (_ : p6) (_ : p7) (L : List Ev) (A : Option Addr) (cp : Nat) (hr : ReadsEv w A L) : Calls Try.prog 3 #[.agg #[.int .i64 a0, .int .i64 a1, .int .i64 a2, .int .i64 a3, .int .i64 a4, .int .i64 a5, .int .i64 a6, .int .i64 a7], .slice A L.length cp] w fun e w' => e = .returned (.bool true) ∧ Below w.heap.size w w' :=
  (scriptBytes_walk ⟨a0, a1, a2, a3, a4, a5, a6, a7⟩ L A cp w hr).mono fun e w' h => ⟨h.1, h.2.to_below (Nat.le_refl _) (fun i h => h.elim)⟩
end Go.Proofs.Ythhibgkgbcdjnaa.ScrW

/- ScriptReads, where there is a conf. -/
import Derived.Test.YthhibgkgbcdjnaaScrG
namespace Go.Proofs.Ythhibgkgbcdjnaa.ScrW
open Go.RowKit Go.Proofs.YthhibgkgbcdjnaaW.PrintWords Go.Proofs.YthhibgkgbcdjnaaW.PrintMore Go.Proofs.Ythhibgkgbcdjnaa.Fr Go.Proofs.Ythhibgkgbcdjnaa.ScrP Go.Proofs.Ythhibgkgbcdjnaa.Openers
set_option linter.unusedVariables false
set_option linter.unusedSimpArgs false

namespace Reads
theorem take_bytes (A : Option Addr) (n c j : Nat) (h : j ≤ n) (hc : n ≤ c) : ∀ W : World, (Instr.slice 32 (.slice A n c) none (some (.int .i64 (j : Int))) none).run Try.prog W = .ok (.slice A j c) W := by
  intro W
  obtain ⟨i, hi, hz⟩ := Option.map_eq_some_iff.1 info5
  simp only [Prod.mk.injEq] at hz
  have ht := Try.underlying32
  have hel : Program.elem Try.prog 32 = 5 := by simp [Program.elem, ht]
  have hu : Program.underlying Try.prog 32 = some (.slice (Program.elem Try.prog 32)) := by rw [hel]; exact ht
  have ha : (A.map fun x => x.add 0) = A := by cases A <;> simp [Addr.add]
  rw [run_slice_h W 32 A n c hu .i64 (j : Int) (by omega) (by omega), hel]
  simp [sizeOf, typeInfo, hi, hz.2.1, sliced, Result.andThen, ha]
attribute [local go_sem ↓] Go.wp_at_zero Go.wp_at_succ
set_option maxHeartbeats 4000000 in
set_option maxRecDepth 100000 in
theorem reads_good (bs : List Int) (A : Option Addr) (cp : Nat) (w : World) (hc : bs.length ≤ cp) (hcm : cp ≤ 9223372036854775807) (HR : Aside0 (ReadsInt w .u8 A bs.length bs)) (HB : Aside0 (isB bs)) (H8 : Aside0 (24 ≤ bs.length ∧ bs.length ≤ 800))
    (c : Cf) (L : List Ev) (n x : Nat) (HD : Aside0 (decP bs = (c, L, n, x))) (HL : Aside0 (∀ e ∈ L, evB e = true)) (hn1 : 24 ≤ n) (hn2 : n ≤ bs.length) (HE : Aside0 (bs.take n = encB c L)) (hLl : L.length ≤ 800) (hLs : sz L ≤ 800) (HCB : Aside0 (cfB c = true))
    (HX : Aside0 ((x = 0 ∧ n = bs.length) ∨ (x = 5 ∧ n < bs.length ∧ (oneP (bs.drop n)).2.2 = 5) ∨ (x = 8 ∧ n < bs.length ∧ (oneP (bs.drop n)).2.2 = 8))) :
    Calls Try.prog 4 #[.slice A bs.length cp] w fun e w' => e = .returned (.bool true) ∧ Fr nope w w' := by
  have t1 : decide (800 < (bs.length : Int)) = false := decide_eq_false (by have := H8.out; omega)
  have t2 : decide ((bs.length : Int) < 24) = false := decide_eq_false (by have := H8.out; omega)
  have t3 : ((n : Int) == 0) = false := beq_eq_false_iff_ne.2 (by omega)
  go_enter Try.func4, Try.ntmps4
  go_wp2_with (first | (go_at_call 7; refine (head_calls _).mono ?_; rintro e1 w1 ⟨rfl, hf1⟩; have HF1 := Aside0.mk hf1; clear hf1) | (go_at_call 13; have hq := decode_calls bs A cp w1 hc hcm (HF1.out.reads HR.out (fun _ _ h => h)) HB.out; refine hq.mono ?_; clear hq; rintro e2 w2 ⟨v2, rfl, hf2, ho2⟩; rw [HD.out] at ho2; rw [HD.out]; obtain ⟨B2, d2, rfl, hd2, hr2⟩ := own_readsEv ho2 (fun e he => by have := (evB_facts (HL.out e he)).2.2.2; omega) (by show L.length ≤ _; omega); unfold cfV; dsimp only; have HF2 := Aside0.mk (frT HF1.out hf2); have HR2 : Aside0 (ReadsEv w2 B2 L) := ⟨hr2⟩; clear hf2 ho2 hr2))
  have HFW2 : Aside0 (Fr nope w (w2.alloc (.cells (cfCells c) 23))) := ⟨HF2.out.alloc _⟩
  have HC : Aside0 ((w2.alloc (.cells (cfCells c) 23)).heap[w2.heap.size]? = some (.cells (cfCells c) 23 (0, 0))) := ⟨blk_new _ _⟩
  go_loopw [111] (fun v111 wr => ∃ k : Nat, v111 = .int .i64 k ∧ k ≤ L.length ∧ Aside0 (Fr nope (w2.alloc (.cells (cfCells c) 23)) wr)) (fun i _ => L.length - (intOf i).toNat)
  case atStart => exact ⟨0, rfl, Nat.zero_le _, ⟨Fr.refl _ _⟩⟩
  case round =>
    obtain ⟨k, rfl, hk, HF⟩ := hrel
    by_cases hlt : k < L.length
    · obtain ⟨e, he⟩ : ∃ e, L.getD k ev0 = e := ⟨_, rfl⟩
      obtain ⟨ad, rfl, g0, g1, g2, g3, hsz⟩ := evCells HR2.out k hlt e he (frT ((Fr.refl _ _).alloc _) HF.out)
      have hev := HL.out e (getD_mem L k hlt e he)
      clear he
      go_wp2_with (first | (go_at_call 11; refine (lawRight_calls e _).mono ?_; rintro e4 w4 ⟨rfl, hw4⟩; rw [hev]; have HF4 := Aside0.mk ((HF.out.alloc _).below hw4); clear hw4))
      case roundEnd =>
        refine ⟨⟨k + 1, by push_cast; rfl, hlt, HF4⟩, ?_⟩
        simp only [intOf]
        omega
    · go_wp2
      obtain ⟨E, hE⟩ : ∃ E, encB c L = E := ⟨_, rfl⟩
      rw [hE] at HE
      have HEE := Aside0.mk hE
      have hts := take_bytes A bs.length cp n hn2 hc
      have HFwr : Aside0 (Fr nope w wr) := ⟨frT HFW2.out HF.out⟩
      have hcmp : decide ((n : Int) < 24) = false := decide_eq_false (by omega)
      have hcmp2 : decide ((bs.length : Int) < (n : Int)) = false := decide_eq_false (by omega)
      have hcmp3 : decide (bs.length < n) = false := decide_eq_false (by omega)
      have HK : Aside0 (∀ w', Fr nope wr w' → Fr nope wr w' ∧ w'.cell? ⟨w2.heap.size, 0, none⟩ = some (.int .i64 c.a0) ∧ w'.cell? ⟨w2.heap.size, 1, none⟩ = some (.int .i64 c.a1) ∧ w'.cell? ⟨w2.heap.size, 2, none⟩ = some (.int .i64 c.a2) ∧ w'.cell? ⟨w2.heap.size, 3, none⟩ = some (.int .i64 c.a3) ∧ w'.cell? ⟨w2.heap.size, 4, none⟩ = some (.int .i64 c.a4) ∧ w'.cell? ⟨w2.heap.size, 5, none⟩ = some (.int .i64 c.a5) ∧ w'.cell? ⟨w2.heap.size, 6, none⟩ = some (.int .i64 c.a6) ∧ w'.cell? ⟨w2.heap.size, 7, none⟩ = some (.int .i64 c.a7) ∧ (convert 32 9 (.slice A n cp)).run Try.prog w' = .ok (.string (strOfNums E)) w') := ⟨fun w' hF => by
        obtain ⟨c0, c1, c2, c3, c4, c5, c6, c7⟩ := cells8 ((frT HF.out hF).blk HC.out (fun h => h))
        refine ⟨hF, c0, c1, c2, c3, c4, c5, c6, c7, ?_⟩
        have h := ((frT HFwr.out hF).reads HR.out (fun _ _ h => h)).take_ n hn2
        rw [HE.out] at h
        exact string_of_reads (P := Try.prog) (c := cp) Try.underlying32 Try.underlying5 Try.underlying9 h⟩
      clear hE
      refine wp_region_noPanic ?_
      refine wp_region_held_drew (S := (fun w' => Fr nope wr w' ∧ w'.cell? ⟨w2.heap.size, 0, none⟩ = some (.int .i64 c.a0) ∧ w'.cell? ⟨w2.heap.size, 1, none⟩ = some (.int .i64 c.a1) ∧ w'.cell? ⟨w2.heap.size, 2, none⟩ = some (.int .i64 c.a2) ∧ w'.cell? ⟨w2.heap.size, 3, none⟩ = some (.int .i64 c.a3) ∧ w'.cell? ⟨w2.heap.size, 4, none⟩ = some (.int .i64 c.a4) ∧ w'.cell? ⟨w2.heap.size, 5, none⟩ = some (.int .i64 c.a5) ∧ w'.cell? ⟨w2.heap.size, 6, none⟩ = some (.int .i64 c.a6) ∧ w'.cell? ⟨w2.heap.size, 7, none⟩ = some (.int .i64 c.a7) ∧ (convert 32 9 (.slice A n cp)).run Try.prog w' = .ok (.string (strOfNums E)) w')) (by kernel_rfl) ?_ (fun hHeld => ?_)
      · (first | exact HK.out _ (Fr.refl nope wr).drew | exact HK.out _ hf3 | exact HK.out _ hf8 | fail)
      refine wpAnyH_take (i := 0) (oi := { dst := some 119, op := Op.load 23 (Operand.tmp 3), type := 23, pos := "law.go:130", after := #[], guard := none }) (v := ?_) rfl (by kernel_rfl) (by kernel_rfl) (by kernel_rfl) (fun _ _ _ h => h) (Or.inl ⟨by rfl, ?_⟩) (by assumption) ?_
      rotate_left
      · intro w hSw; (try dsimp only at hSw); go_simp; try (with_reducible rfl)
      try simp only [Act.put, List.setIfInBounds_toArray, List.set_cons_zero, List.set_cons_succ]
      refine wpAnyH_ready (rs := [1]) (by kernel_rfl) (by simp) ?_
      refine AllReadyH.cons (o := { dst := some 120, op := Op.call { callee := Callee.value (Operand.func 9), args := #[Operand.tmp 119], argTypes := #[23] }, type := 4, pos := "law.go:130", after := #[{ on := 0, ground := Ground.data }], guard := none }) rfl (fun K hK => ?_) AllReadyH.nil
      go_simp
      (go_at_call 9; have hq := law13_calls c wr.drew; unfold cfV at hq; (with_reducible refine hq.mono ?_); clear hq; rintro e3 w3 ⟨rfl, hf3'⟩; rw [HCB.out]; have hf3 : Fr nope wr w3 := frT (Fr.refl nope wr).drew hf3'; clear hf3')
      refine hK.out _ _ ?_ (fun hHeld => ?_)
      · (first | exact HK.out _ (Fr.refl nope wr).drew | exact HK.out _ hf3 | exact HK.out _ hf8 | fail)
      clear hK K
      try simp only [Act.put, List.setIfInBounds_toArray, List.set_cons_zero, List.set_cons_succ]
      refine wpAnyH_take (i := 2) (oi := { dst := some 121, op := Op.unOp UnOp.not 4 (Operand.tmp 120), type := 4, pos := "law.go:130", after := #[{ on := 1, ground := Ground.data }], guard := none }) (v := ?_) rfl (by kernel_rfl) (by kernel_rfl) (by kernel_rfl) (fun _ _ _ h => h) (Or.inl ⟨by rfl, ?_⟩) (by assumption) ?_
      rotate_left
      · intro w hSw; (try dsimp only at hSw); go_simp; try (with_reducible rfl)
      try simp only [Act.put, List.setIfInBounds_toArray, List.set_cons_zero, List.set_cons_succ]
      refine wpAnyH_take (i := 3) (oi := { dst := some 122, op := Op.move (Operand.tmp 121), type := 4, pos := "law.go:130", after := #[{ on := 2, ground := Ground.data }, { on := 1, ground := Ground.chain }], guard := none }) (v := ?_) rfl (by kernel_rfl) (by kernel_rfl) (by kernel_rfl) (fun _ _ _ h => h) (Or.inl ⟨by rfl, ?_⟩) (by assumption) ?_
      rotate_left
      · intro w hSw; (try dsimp only at hSw); go_simp; try (with_reducible rfl)
      try simp only [Act.put, List.setIfInBounds_toArray, List.set_cons_zero, List.set_cons_succ]
      refine wpAnyH_take (i := 4) (oi := { dst := some 123, op := Op.move (Operand.tmp 5), type := 3, pos := "law.go:130", after := #[{ on := 3, ground := Ground.guard }], guard := some (3, false) }) (v := ?_) rfl (by kernel_rfl) (by kernel_rfl) (by kernel_rfl) (fun _ _ _ h => h) (Or.inl ⟨by rfl, ?_⟩) (by assumption) ?_
      rotate_left
      · intro w hSw; (try dsimp only at hSw); go_simp; try (with_reducible rfl)
      try simp only [Act.put, List.setIfInBounds_toArray, List.set_cons_zero, List.set_cons_succ]
      refine wpAnyH_take (i := 5) (oi := { dst := some 124, op := Op.binOp BinOp.lss 3 (Operand.tmp 123) (Operand.const (Value.int IntKind.i64 24)) 3, type := 4, pos := "law.go:130", after := #[{ on := 4, ground := Ground.data }, { on := 3, ground := Ground.guard }], guard := some (3, false) }) (v := ?_) rfl (by kernel_rfl) (by kernel_rfl) (by kernel_rfl) (fun _ _ _ h => h) (Or.inl ⟨by rfl, ?_⟩) (by assumption) ?_
      rotate_left
      · intro w hSw; (try dsimp only at hSw); go_simp; try (with_reducible rfl)
      try simp only [Act.put, List.setIfInBounds_toArray, List.set_cons_zero, List.set_cons_succ]
      refine wpAnyH_take (i := 6) (oi := { dst := some 125, op := Op.pick (Operand.tmp 122) (Operand.const (Value.bool true)) (Operand.tmp 124), type := 4, pos := "law.go:130", after := #[{ on := 3, ground := Ground.data }, { on := 5, ground := Ground.data }], guard := none }) (v := ?_) rfl (by kernel_rfl) (by kernel_rfl) (by kernel_rfl) (fun _ _ _ h => h) (Or.inl ⟨by rfl, ?_⟩) (by assumption) ?_
      rotate_left
      · intro w hSw; (try dsimp only at hSw); go_simp; try (with_reducible rfl)
      try simp only [Act.put, List.setIfInBounds_toArray, List.set_cons_zero, List.set_cons_succ]
      refine wpAnyH_take (i := 7) (oi := { dst := some 126, op := Op.move (Operand.tmp 125), type := 4, pos := "law.go:130", after := #[{ on := 6, ground := Ground.data }, { on := 3, ground := Ground.chain }], guard := none }) (v := ?_) rfl (by kernel_rfl) (by kernel_rfl) (by kernel_rfl) (fun _ _ _ h => h) (Or.inl ⟨by rfl, ?_⟩) (by assumption) ?_
      rotate_left
      · intro w hSw; (try dsimp only at hSw); go_simp; try (with_reducible rfl)
      try simp only [Act.put, List.setIfInBounds_toArray, List.set_cons_zero, List.set_cons_succ]
      refine wpAnyH_take (i := 8) (oi := { dst := some 127, op := Op.move (Operand.tmp 5), type := 3, pos := "law.go:130", after := #[{ on := 7, ground := Ground.guard }], guard := some (7, false) }) (v := ?_) rfl (by kernel_rfl) (by kernel_rfl) (by kernel_rfl) (fun _ _ _ h => h) (Or.inl ⟨by rfl, ?_⟩) (by assumption) ?_
      rotate_left
      · intro w hSw; (try dsimp only at hSw); go_simp; try (with_reducible rfl)
      try simp only [Act.put, List.setIfInBounds_toArray, List.set_cons_zero, List.set_cons_succ]
      refine wpAnyH_take (i := 9) (oi := { dst := some 128, op := Op.move (Operand.tmp 0), type := 32, pos := "law.go:130", after := #[{ on := 7, ground := Ground.guard }], guard := some (7, false) }) (v := ?_) rfl (by kernel_rfl) (by kernel_rfl) (by kernel_rfl) (fun _ _ _ h => h) (Or.inl ⟨by rfl, ?_⟩) (by assumption) ?_
      rotate_left
      · intro w hSw; (try dsimp only at hSw); go_simp; try (with_reducible rfl)
      try simp only [Act.put, List.setIfInBounds_toArray, List.set_cons_zero, List.set_cons_succ]
      refine wpAnyH_take (i := 10) (oi := { dst := some 129, op := Op.call { callee := Callee.builtin Builtin.len, args := #[Operand.tmp 128], argTypes := #[32] }, type := 3, pos := "law.go:130", after := #[{ on := 9, ground := Ground.data }, { on := 7, ground := Ground.guard }], guard := some (7, false) }) (v := ?_) rfl (by kernel_rfl) (by kernel_rfl) (by kernel_rfl) (fun _ _ _ h => h) (Or.inl ⟨by rfl, ?_⟩) (by assumption) ?_
      rotate_left
      · intro w hSw; (try dsimp only at hSw); go_simp; try (with_reducible rfl)
      try simp only [Act.put, List.setIfInBounds_toArray, List.set_cons_zero, List.set_cons_succ]
      refine wpAnyH_take (i := 11) (oi := { dst := some 130, op := Op.binOp BinOp.gtr 3 (Operand.tmp 127) (Operand.tmp 129) 3, type := 4, pos := "law.go:130", after := #[{ on := 8, ground := Ground.data }, { on := 10, ground := Ground.data }, { on := 7, ground := Ground.guard }], guard := some (7, false) }) (v := ?_) rfl (by kernel_rfl) (by kernel_rfl) (by kernel_rfl) (fun _ _ _ h => h) (Or.inl ⟨by rfl, ?_⟩) (by assumption) ?_
      rotate_left
      · intro w hSw; (try dsimp only at hSw); go_simp; try (with_reducible rfl)
      try simp only [Act.put, List.setIfInBounds_toArray, List.set_cons_zero, List.set_cons_succ]
      refine wpAnyH_take (i := 12) (oi := { dst := some 131, op := Op.pick (Operand.tmp 126) (Operand.const (Value.bool true)) (Operand.tmp 130), type := 4, pos := "law.go:130", after := #[{ on := 7, ground := Ground.data }, { on := 11, ground := Ground.data }], guard := none }) (v := ?_) rfl (by kernel_rfl) (by kernel_rfl) (by kernel_rfl) (fun _ _ _ h => h) (Or.inl ⟨by rfl, ?_⟩) (by assumption) ?_
      rotate_left
      · intro w hSw; (try dsimp only at hSw); go_simp; try (with_reducible rfl)
      try simp only [Act.put, List.setIfInBounds_toArray, List.set_cons_zero, List.set_cons_succ]
      refine wpAnyH_take (i := 13) (oi := { dst := some 132, op := Op.move (Operand.tmp 131), type := 4, pos := "law.go:130", after := #[{ on := 12, ground := Ground.data }, { on := 7, ground := Ground.chain }], guard := none }) (v := ?_) rfl (by kernel_rfl) (by kernel_rfl) (by kernel_rfl) (fun _ _ _ h => h) (Or.inl ⟨by rfl, ?_⟩) (by assumption) ?_
      rotate_left
      · intro w hSw; (try dsimp only at hSw); go_simp; try (with_reducible rfl)
      try simp only [Act.put, List.setIfInBounds_toArray, List.set_cons_zero, List.set_cons_succ]
      refine wpAnyH_take (i := 14) (oi := { dst := some 133, op := Op.load 23 (Operand.tmp 3), type := 23, pos := "law.go:130", after := #[{ on := 13, ground := Ground.guard }], guard := some (13, false) }) (v := ?_) rfl (by kernel_rfl) (by kernel_rfl) (by kernel_rfl) (fun _ _ _ h => h) (Or.inl ⟨by rfl, ?_⟩) (by assumption) ?_
      rotate_left
      · intro w hSw; (try dsimp only at hSw); go_simp; try (with_reducible rfl)
      try simp only [Act.put, List.setIfInBounds_toArray, List.set_cons_zero, List.set_cons_succ]
      refine wpAnyH_take (i := 15) (oi := { dst := some 134, op := Op.move (Operand.tmp 4), type := 24, pos := "law.go:130", after := #[{ on := 13, ground := Ground.guard }], guard := some (13, false) }) (v := ?_) rfl (by kernel_rfl) (by kernel_rfl) (by kernel_rfl) (fun _ _ _ h => h) (Or.inl ⟨by rfl, ?_⟩) (by assumption) ?_
      rotate_left
      · intro w hSw; (try dsimp only at hSw); go_simp; try (with_reducible rfl)
      try simp only [Act.put, List.setIfInBounds_toArray, List.set_cons_zero, List.set_cons_succ]
      refine wpAnyH_take (i := 18) (oi := { dst := some 137, op := Op.move (Operand.tmp 0), type := 32, pos := "law.go:130", after := #[{ on := 13, ground := Ground.guard }], guard := some (13, false) }) (v := ?_) rfl (by kernel_rfl) (by kernel_rfl) (by kernel_rfl) (fun _ _ _ h => h) (Or.inl ⟨by rfl, ?_⟩) (by assumption) ?_
      rotate_left
      · intro w hSw; (try dsimp only at hSw); go_simp; try (with_reducible rfl)
      try simp only [Act.put, List.setIfInBounds_toArray, List.set_cons_zero, List.set_cons_succ]
      refine wpAnyH_take (i := 19) (oi := { dst := some 138, op := Op.move (Operand.tmp 5), type := 3, pos := "law.go:130", after := #[{ on := 13, ground := Ground.guard }], guard := some (13, false) }) (v := ?_) rfl (by kernel_rfl) (by kernel_rfl) (by kernel_rfl) (fun _ _ _ h => h) (Or.inl ⟨by rfl, ?_⟩) (by assumption) ?_
      rotate_left
      · intro w hSw; (try dsimp only at hSw); go_simp; try (with_reducible rfl)
      try simp only [Act.put, List.setIfInBounds_toArray, List.set_cons_zero, List.set_cons_succ]
      refine wpAnyH_take (i := 20) (oi := { dst := some 139, op := Op.slice 32 (Operand.tmp 137) none (some (Operand.tmp 138)) none, type := 32, pos := "law.go:130", after := #[{ on := 18, ground := Ground.data }, { on := 19, ground := Ground.data }, { on := 13, ground := Ground.guard }], guard := some (13, false) }) (v := ?_) rfl (by kernel_rfl) (by kernel_rfl) (by kernel_rfl) (fun _ _ _ h => h) (Or.inl ⟨by rfl, ?_⟩) (by assumption) ?_
      rotate_left
      · intro w hSw; (try dsimp only at hSw); go_simp; try (with_reducible rfl)
      try simp only [Act.put, List.setIfInBounds_toArray, List.set_cons_zero, List.set_cons_succ]
      refine wpAnyH_take (i := 21) (oi := { dst := some 140, op := Op.convert 32 9 (Operand.tmp 139), type := 9, pos := "law.go:130", after := #[{ on := 20, ground := Ground.data }, { on := 13, ground := Ground.guard }], guard := some (13, false) }) (v := ?_) rfl (by kernel_rfl) (by kernel_rfl) (by kernel_rfl) (fun _ _ _ h => h) (Or.inl ⟨by rfl, ?_⟩) (by assumption) ?_
      rotate_left
      · intro w hSw; (try dsimp only at hSw); go_simp; try (with_reducible rfl)
      try simp only [Act.put, List.setIfInBounds_toArray, List.set_cons_zero, List.set_cons_succ]
      refine wpAnyH_ready (rs := [16]) (by kernel_rfl) (by simp) ?_
      refine AllReadyH.cons (o := { dst := some 135, op := Op.call { callee := Callee.value (Operand.func 14), args := #[Operand.tmp 133, Operand.tmp 134], argTypes := #[23, 24] }, type := 32, pos := "law.go:130", after := #[{ on := 14, ground := Ground.data }, { on := 15, ground := Ground.data }, { on := 13, ground := Ground.chain }, { on := 13, ground := Ground.guard }], guard := some (13, false) }) rfl (fun K hK => ?_) AllReadyH.nil
      go_simp
      (go_at_call 14; have hq := bytes_calls c L B2 d2 w3 (readsEv_fr HR2.out (frT ((Fr.refl _ _).alloc _) (frT HF.out hf3))) HCB.out HL.out (by omega) (by omega); unfold cfV at hq; (with_reducible refine hq.mono ?_); clear hq; rintro e8 w8 ⟨v8, rfl, hf8', ho8⟩; rw [HEE.out] at ho8; obtain ⟨A8, c8, rfl, _, _, hr8⟩ := owns_reads ho8; have hf8 : Fr nope wr w8 := frT hf3 hf8'; have hcv8 := string_of_reads (P := Try.prog) (c := c8) Try.underlying32 Try.underlying5 Try.underlying9 hr8; clear hf8' ho8 hr8)
      refine hK.out _ _ ?_ (fun hHeld => ?_)
      · (first | exact HK.out _ (Fr.refl nope wr).drew | exact HK.out _ hf3 | exact HK.out _ hf8 | fail)
      clear hK K
      try simp only [Act.put, List.setIfInBounds_toArray, List.set_cons_zero, List.set_cons_succ]
      refine wpAnyH_ready (rs := [17]) (by kernel_rfl) (by simp) ?_
      refine AllReadyH.cons (o := { dst := some 136, op := Op.convert 32 9 (Operand.tmp 135), type := 9, pos := "law.go:130", after := #[{ on := 16, ground := Ground.data }, { on := 13, ground := Ground.guard }], guard := some (13, false) }) rfl (fun K hK => ?_) AllReadyH.nil
      go_simp
      refine hK.out _ _ ?_ (fun hHeld => ?_)
      · (first | exact HK.out _ (Fr.refl nope wr).drew | exact HK.out _ hf3 | exact HK.out _ hf8 | fail)
      clear hK K
      try simp only [Act.put, List.setIfInBounds_toArray, List.set_cons_zero, List.set_cons_succ]
      refine wpAnyH_take (i := 22) (oi := { dst := some 141, op := Op.binOp BinOp.neq 9 (Operand.tmp 136) (Operand.tmp 140) 9, type := 4, pos := "law.go:130", after := #[{ on := 17, ground := Ground.data }, { on := 21, ground := Ground.data }, { on := 13, ground := Ground.guard }], guard := some (13, false) }) (v := ?_) rfl (by kernel_rfl) (by kernel_rfl) (by kernel_rfl) (fun _ _ _ h => h) (Or.inl ⟨by rfl, ?_⟩) (by assumption) ?_
      rotate_left
      · intro w hSw; (try dsimp only at hSw); go_simp; try (with_reducible rfl)
      try simp only [Act.put, List.setIfInBounds_toArray, List.set_cons_zero, List.set_cons_succ]
      refine wpAnyH_take (i := 23) (oi := { dst := some 142, op := Op.pick (Operand.tmp 132) (Operand.const (Value.bool true)) (Operand.tmp 141), type := 4, pos := "law.go:130", after := #[{ on := 13, ground := Ground.data }, { on := 22, ground := Ground.data }], guard := none }) (v := ?_) rfl (by kernel_rfl) (by kernel_rfl) (by kernel_rfl) (fun _ _ _ h => h) (Or.inl ⟨by rfl, ?_⟩) (by assumption) ?_
      rotate_left
      · intro w hSw; (try dsimp only at hSw); go_simp; try (with_reducible rfl)
      try simp only [Act.put, List.setIfInBounds_toArray, List.set_cons_zero, List.set_cons_succ]
      refine wpAnyH_done (by kernel_rfl) ?_ _
      refine NoPanic.normal ?_

      clear HK
      obtain ⟨i5, hi5, hz5⟩ := Option.map_eq_some_iff.1 info5
      simp only [Prod.mk.injEq] at hz5
      obtain ⟨AR, hdr, hrr, hll⟩ := print_drop_of (P := Try.prog) (Value.int .u8) (0 : Int) 32 5 .i64 Try.underlying32 hi5 hz5.2.1 A cp bs (n : Int) (by omega) (by omega) hc
      obtain ⟨rs, hrs⟩ : ∃ l, l = bs.drop (n : Int).toNat := ⟨_, rfl⟩
      rw [← hrs] at hdr hrr hll
      have hrs2 : rs = bs.drop n := by rw [hrs, Int.toNat_natCast]
      have hRR : ReadsInt w8 .u8 AR rs.length rs := hrr w8 ((frT HFwr.out hf8).reads HR.out (fun _ _ h => h))
      have hRB : isB rs := fun x hx => HB.out x (List.mem_of_mem_drop (by rw [← hrs2]; exact hx))
      have HRR := Aside0.mk hRR
      have HRB := Aside0.mk hRB
      have HI5 := Aside0.mk (And.intro hi5 hz5.2.1)
      have hrl : rs.length = bs.length - n := by rw [hrs2, List.length_drop]
      have HRL := Aside0.mk hrl
      have HF8 := Aside0.mk (frT HFwr.out hf8)
      have hrle : rs.length ≤ 800 := by have := H8.out; omega
      have hX := HX.out
      rw [← hrs2] at hX
      clear hrr hrs hrs2 hRR hRB hi5 hz5 hts hcv8 hf3 hf8 hrl HX
      rcases hX with ⟨rfl, hxn⟩ | ⟨rfl, hlt8, ho⟩ | ⟨rfl, hlt8, ho⟩
      · obtain rfl : rs = [] := List.eq_nil_of_length_eq_zero (by have := HRL.out; omega)
        clear hxn
        go_wp2
        go_returns
        exact ⟨rfl, HF8.out⟩
      · have hpos : 0 < rs.length := by have := HRL.out; omega
        have g0 : decide (0 < (rs.length : Int)) = true := decide_eq_true (by omega)
        have g1 : decide (0 < rs.length) = true := decide_eq_true hpos
        rcases one_short rs HRB.out ho with h7 | ⟨h7, hsh⟩
        · have g7 : decide ((rs.length : Int) < 7) = true := decide_eq_true (by omega)
          have g8 : decide (rs.length < 7) = true := decide_eq_true h7
          clear ho hlt8
          go_wp2
          go_quiet (fail)
          all_goals go_wp2
          all_goals go_returns
          all_goals exact ⟨rfl, HF8.out.drewN _⟩
        · have g7 : decide ((rs.length : Int) < 7) = false := decide_eq_false (by omega)
          have g8 : decide (rs.length < 7) = false := decide_eq_false (by omega)
          obtain ⟨ar, hAr, hcells⟩ := HRR.out.2.2 (by omega)
          subst hAr
          obtain ⟨x5, hx5⟩ : ∃ x, rs.getD 5 0 = x := ⟨_, rfl⟩
          obtain ⟨x6, hx6⟩ : ∃ x, rs.getD 6 0 = x := ⟨_, rfl⟩
          have q5 : w8.cell? ⟨ar.block, ar.off + 5, none⟩ = some (.int .u8 x5) := by have h := hcells 5 (by omega); rw [hx5, show (5 : Nat) = 4 + 1 from rfl, add_succ] at h; exact h
          have q6 : w8.cell? ⟨ar.block, ar.off + 6, none⟩ = some (.int .u8 x6) := by have h := hcells 6 (by omega); rw [hx6, show (6 : Nat) = 5 + 1 from rfl, add_succ] at h; exact h
          have r5 : 0 ≤ x5 ∧ x5 ≤ 255 := by rw [← hx5]; exact getD_isB HRB.out (by omega)
          have r6 : 0 ≤ x6 ∧ x6 ≤ 255 := by rw [← hx6]; exact getD_isB HRB.out (by omega)
          have b5 : (5 : Int) < (rs.length : Int) := by omega
          have b6 : (6 : Int) < (rs.length : Int) := by omega
          have b5n : 5 < rs.length := by omega
          have b6n : 6 < rs.length := by omega
          rw [hx5, hx6] at hsh
          have s1 : decide ((rs.length : Int) < 7 + 256 * x5 + x6) = true := decide_eq_true hsh
          have v5 : IntKind.i64.wrap x5 = x5 := by rw [IntKind.wrap_i64]; omega
          have v6 : IntKind.i64.wrap x6 = x6 := by rw [IntKind.wrap_i64]; omega
          have v7 : IntKind.i64.wrap (256 * x5) = 256 * x5 := by rw [IntKind.wrap_i64]; omega
          have v8 : IntKind.i64.wrap (7 + 256 * x5) = 7 + 256 * x5 := by rw [IntKind.wrap_i64]; omega
          have v9 : IntKind.i64.wrap (7 + 256 * x5 + x6) = 7 + 256 * x5 + x6 := by rw [IntKind.wrap_i64]; omega
          clear ho hlt8 hcells hx5 hx6
          go_wp2
          go_quiet (fail)
          all_goals go_wp2
          all_goals go_returns
          all_goals exact ⟨rfl, HF8.out.drewN _⟩
      · obtain ⟨m, hm, hml, hev⟩ := one_none rs HRB.out ho
        obtain ⟨ar, hAr, _⟩ := HRR.out.2.2 (by omega)
        subst hAr
        obtain ⟨x0, hx0⟩ : ∃ x, rs.getD 0 0 = x := ⟨_, rfl⟩
        obtain ⟨x1, hx1⟩ : ∃ x, rs.getD 1 0 = x := ⟨_, rfl⟩
        obtain ⟨x2, hx2⟩ : ∃ x, rs.getD 2 0 = x := ⟨_, rfl⟩
        obtain ⟨x3, hx3⟩ : ∃ x, rs.getD 3 0 = x := ⟨_, rfl⟩
        obtain ⟨x4, hx4⟩ : ∃ x, rs.getD 4 0 = x := ⟨_, rfl⟩
        obtain ⟨x5, hx5⟩ : ∃ x, rs.getD 5 0 = x := ⟨_, rfl⟩
        obtain ⟨x6, hx6⟩ : ∃ x, rs.getD 6 0 = x := ⟨_, rfl⟩
        have r0 : 0 ≤ x0 ∧ x0 ≤ 255 := by rw [← hx0]; exact getD_isB HRB.out (by omega)
        have r1 : 0 ≤ x1 ∧ x1 ≤ 255 := by rw [← hx1]; exact getD_isB HRB.out (by omega)
        have r2 : 0 ≤ x2 ∧ x2 ≤ 255 := by rw [← hx2]; exact getD_isB HRB.out (by omega)
        have r3 : 0 ≤ x3 ∧ x3 ≤ 255 := by rw [← hx3]; exact getD_isB HRB.out (by omega)
        have r4 : 0 ≤ x4 ∧ x4 ≤ 255 := by rw [← hx4]; exact getD_isB HRB.out (by omega)
        have r5 : 0 ≤ x5 ∧ x5 ≤ 255 := by rw [← hx5]; exact getD_isB HRB.out (by omega)
        have r6 : 0 ≤ x6 ∧ x6 ≤ 255 := by rw [← hx6]; exact getD_isB HRB.out (by omega)
        rw [hx0, hx1, hx2, hx3, hx4] at hev
        rw [hx5, hx6] at hm
        have hSQ : Aside0 (∀ w', Fr nope w8 w' → w'.cell? ar = some (.int .u8 x0) ∧ w'.cell? ⟨ar.block, ar.off + 1, none⟩ = some (.int .u8 x1) ∧ w'.cell? ⟨ar.block, ar.off + 2, none⟩ = some (.int .u8 x2) ∧ w'.cell? ⟨ar.block, ar.off + 3, none⟩ = some (.int .u8 x3) ∧ w'.cell? ⟨ar.block, ar.off + 4, none⟩ = some (.int .u8 x4) ∧ w'.cell? ⟨ar.block, ar.off + 5, none⟩ = some (.int .u8 x5) ∧ w'.cell? ⟨ar.block, ar.off + 6, none⟩ = some (.int .u8 x6)) := ⟨fun w' hF => by
          obtain ⟨a2, he, hcells⟩ := (hF.reads HRR.out (fun _ _ h => h)).2.2 (by omega)
          injection he with he
          subst he
          have h0 := hcells 0 (by omega)
          have h1 := hcells 1 (by omega)
          have h2 := hcells 2 (by omega)
          have h3 := hcells 3 (by omega)
          have h4 := hcells 4 (by omega)
          have h5 := hcells 5 (by omega)
          have h6 := hcells 6 (by omega)
          rw [hx0, show ar.add 0 = ar by simp [Addr.add]] at h0
          rw [hx1, show (1 : Nat) = 0 + 1 from rfl, add_succ] at h1
          rw [hx2, show (2 : Nat) = 1 + 1 from rfl, add_succ] at h2
          rw [hx3, show (3 : Nat) = 2 + 1 from rfl, add_succ] at h3
          rw [hx4, show (4 : Nat) = 3 + 1 from rfl, add_succ] at h4
          rw [hx5, show (5 : Nat) = 4 + 1 from rfl, add_succ] at h5
          rw [hx6, show (6 : Nat) = 5 + 1 from rfl, add_succ] at h6
          exact ⟨h0, h1, h2, h3, h4, h5, h6⟩⟩
        have b0 : (0 : Int) < (rs.length : Int) := by omega
        have b1 : (1 : Int) < (rs.length : Int) := by omega
        have b2 : (2 : Int) < (rs.length : Int) := by omega
        have b3 : (3 : Int) < (rs.length : Int) := by omega
        have b4 : (4 : Int) < (rs.length : Int) := by omega
        have b5 : (5 : Int) < (rs.length : Int) := by omega
        have b6 : (6 : Int) < (rs.length : Int) := by omega
        have b0n : 0 < rs.length := by omega
        have b1n : 1 < rs.length := by omega
        have b2n : 2 < rs.length := by omega
        have b3n : 3 < rs.length := by omega
        have b4n : 4 < rs.length := by omega
        have b5n : 5 < rs.length := by omega
        have b6n : 6 < rs.length := by omega
        have v0 : IntKind.i64.wrap x0 = x0 := by rw [IntKind.wrap_i64]; omega
        have v1 : IntKind.i64.wrap x1 = x1 := by rw [IntKind.wrap_i64]; omega
        have v2 : IntKind.i64.wrap x2 = x2 := by rw [IntKind.wrap_i64]; omega
        have v3 : IntKind.i64.wrap x3 = x3 := by rw [IntKind.wrap_i64]; omega
        have v4 : IntKind.i64.wrap x4 = x4 := by rw [IntKind.wrap_i64]; omega
        have v5 : IntKind.i64.wrap x5 = x5 := by rw [IntKind.wrap_i64]; omega
        have v6 : IntKind.i64.wrap x6 = x6 := by rw [IntKind.wrap_i64]; omega
        have v7 : IntKind.i64.wrap (256 * x5) = 256 * x5 := by rw [IntKind.wrap_i64]; omega
        have v8 : IntKind.i64.wrap (256 * x5 + x6) = 256 * x5 + x6 := by rw [IntKind.wrap_i64]; omega
        have u1 : IntKind.i64.wrap (65536 * x2) = 65536 * x2 := by rw [IntKind.wrap_i64]; omega
        have u2' : IntKind.i64.wrap (256 * x3) = 256 * x3 := by rw [IntKind.wrap_i64]; omega
        have u3 : IntKind.i64.wrap (65536 * x2 + 256 * x3) = 65536 * x2 + 256 * x3 := by rw [IntKind.wrap_i64]; omega
        have u4 : IntKind.i64.wrap (65536 * x2 + 256 * x3 + x4) = 65536 * x2 + 256 * x3 + x4 := by rw [IntKind.wrap_i64]; omega
        have hm' : 256 * x5 + x6 = (m : Int) := hm.symm
        have s1 : decide ((rs.length : Int) < 7 + (m : Int)) = false := decide_eq_false (by omega)
        obtain ⟨AM, hms, hmr, hml2⟩ := print_mid_int (P := Try.prog) (k := .u8) 32 5 Try.underlying32 HI5.out.1 HI5.out.2 (some ar) (cp - n) rs 7 (7 + (m : Int)) (by decide) (by omega) (by omega) (by have := HRL.out; omega)
        obtain ⟨ms, hmse⟩ : ∃ l, l = (rs.take (7 + (m : Int)).toNat).drop (7 : Int).toNat := ⟨_, rfl⟩
        rw [← hmse] at hms hmr hml2
        have HMS : Aside0 (ms = (rs.take (7 + m)).drop 7) := ⟨by rw [hmse, show (7 + (m : Int)).toNat = 7 + m by omega]; rfl⟩
        have HMR := Aside0.mk (hmr w8 HRR.out)
        have HEV : Aside0 (evB ⟨x0, x1, 65536 * x2 + 256 * x3 + x4, strOfNums ms⟩ = false) := ⟨by rw [HMS.out]; exact hev⟩
        obtain ⟨q0, q1, q2, q3, q4, q5, q6⟩ := hSQ.out w8 (Fr.refl _ _)
        clear ho hlt8 hx0 hx1 hx2 hx3 hx4 hx5 hx6 hm hev hmr hmse hml
        go_wp2
        go_quiet (fail)
        all_goals go_wp2
        have hFq : Fr nope w8 (w8.drewN nq) := (Fr.refl _ _).drewN _
        generalize w8.drewN nq = W8 at hFq ⊢
        have HCV : ∀ w', Fr nope W8 w' → (convert 32 9 (.slice AM ms.length (cp - n - 7))).run Try.prog w' = .ok (.string (strOfNums ms)) w' := fun w' hF => string_of_reads (P := Try.prog) (c := cp - n - 7) Try.underlying32 Try.underlying5 Try.underlying9 ((frT hFq hF).reads HMR.out (fun _ _ h => h))
        have hcv1 := HCV ((W8.alloc (.cells #[.int .i64 x0, .int .i64 x1, .int .i64 (65536 * x2 + 256 * x3 + x4), .string ⟨#[]⟩] 30)).drew) (((Fr.refl nope W8).alloc _).drew)
        have hcv2 := HCV (W8.drew.alloc (.cells #[.int .i64 x0, .int .i64 x1, .int .i64 (65536 * x2 + 256 * x3 + x4), .string ⟨#[]⟩] 30)) (((Fr.refl nope W8).drew).alloc _)
        have HFq := Aside0.mk hFq
        clear HCV hFq q0 q1 q2 q3 q4 q5 q6
        go_region_held3 (fun w' => w'.cell? ar = some (.int .u8 x0) ∧ w'.cell? ⟨ar.block, ar.off + 1, none⟩ = some (.int .u8 x1) ∧ w'.cell? ⟨ar.block, ar.off + 2, none⟩ = some (.int .u8 x2) ∧ w'.cell? ⟨ar.block, ar.off + 3, none⟩ = some (.int .u8 x3) ∧ w'.cell? ⟨ar.block, ar.off + 4, none⟩ = some (.int .u8 x4) ∧ w'.cell? ⟨ar.block, ar.off + 5, none⟩ = some (.int .u8 x5) ∧ w'.cell? ⟨ar.block, ar.off + 6, none⟩ = some (.int .u8 x6))
          (first | exact hSQ.out _ (HFq.out.drew) | exact hSQ.out _ ((HFq.out.drew).alloc _) | exact hSQ.out _ ((HFq.out.alloc _).drew) | fail)
          (fail)
        all_goals go_wp2_with (first | (go_at_call 11; refine (lawRight_calls ⟨x0, x1, 65536 * x2 + 256 * x3 + x4, strOfNums ms⟩ _).mono ?_; rintro e9 w9 ⟨rfl, hw9⟩; rw [HEV.out]; have HF9 : Aside0 (Fr nope w w9) := (by first | exact ⟨((((frT HF8.out HFq.out)).alloc _).drew).below hw9⟩ | exact ⟨(((frT HF8.out HFq.out).drew).alloc _).below hw9⟩); clear hw9))
        all_goals go_returns
        all_goals exact ⟨rfl, HF9.out⟩
end Reads
end Go.Proofs.Ythhibgkgbcdjnaa.ScrW

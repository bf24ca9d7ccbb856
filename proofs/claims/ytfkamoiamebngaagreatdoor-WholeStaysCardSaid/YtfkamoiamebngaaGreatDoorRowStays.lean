/- The row of WholeStays: for every input the law returns true, and each argument reads behind the call as it read before. No condition. -/
import Derived.Test.YtfkamoiamebngaaGreatDoorM22
import Derived.SevenTiedAt
import Derived.LaidMore
import Derived.Handed
import Derived.Test.YtfkamoiamebngaaGreatDoorM23
import Derived.WalkKit
import Derived.ProofKit
import Derived.OpenShut
import Derived.ShutString
import Derived.ChangeOld
import Derived.Below
import Derived.SizedLaws
namespace Go.Proofs.YtfkamoiamebngaaGreatDoor.wholeStays
open Go.Proofs.YtfkamoiamebngaaGreatDoor.BroW Go.Proofs.YtfkamoiamebngaaGreatDoor.Fr
open Go.ChangeShapes Go.WideShapes Go.ChangeAt Go.RowKit
open Go.ChangeMaps (open_string shut_string)
open Go.Proofs.YtfkamoiamebngaaGreatDoor.Openers
set_option linter.unusedVariables false
set_option maxRecDepth 100000 in
theorem lifted (os : Os) (started : os.Started) (H : Type) (enc : TypeId × Value → H) :
    ReturnsInHanded {} Tryz.checked os 5 .any (fun w args => (Rows.wholeStaysSpec.pre enc Tryz.prog Tryz.f5 Rows.wholeStaysRow.domain false w args ∧ laidMetH Tryz.prog laid5 w) ∧ sizedMet enc Tryz.prog Tryz.f5 (OpenSpec.ofChange Rows.wholeStaysSpec) false w args)
      (Rows.wholeStaysSpec.post enc Tryz.prog Tryz.f5 false true false false) := by
  refine returnsInHanded_of_change_and (C := Tryz.checked) (X := fun w _ => laidMetH Tryz.prog laid5 w) (fun _ _ _ hh h => h.of_heap hh) ownKnob_no started (by kernel_rfl) Tryz.func5
    (ChangeSpec.witness_shaped (enc := enc) (C := Tryz.checked) (os := os) (X := fun w _ => laidMetH Tryz.prog laid5 w) false (World.doorLaid Tryz.prog 62 os) #[.agg #[.int .i64 0, .int .i64 0, .int .i64 0, .int .i64 0, .int .i64 0, .int .i64 0, .int .i64 0, .int .i64 0], .slice none 0 0] 8 rfl (door_shaped os _) (by kernel_rfl) (by kernel_rfl) (by kernel_rfl) (door_met os _)) ?_
  intro W base args ds gs before hval0 hW hcnd hsz0 hL _
  have hsz : (DataW.weightsEach Tryz.prog (Tryz.f5.params.toList ++ Rows.wholeStaysSpec.plain.varTypes Tryz.prog) (ds ++ gs)).all (· ≤ reachBytes) = true := hsz0
  have hval : ∀ (j : Nat) t v, Tryz.f5.params[j]? = some t → args[j]? = some v → Value.okWide Tryz.prog W .any base t v := hval0
  have hW' := hW
  obtain ⟨p, q, hA0, hV, rfl, hfz, hnd⟩ := hW
  have hA : DataW.TrodAll enc Tryz.prog W 0 (fun _ => true) true Tryz.f5.params.toList args.toList ds p := hA0
  rw [Tryz.params5] at hA hval hsz
  obtain ⟨v0, vs0, d0, ds0, p0, q0, hargs, rfl, rfl, h0, r0⟩ := trodAll_cons hA
  obtain ⟨v1, vs1, d1, ds1, p1, q1, rfl, rfl, rfl, h1, r1⟩ := trodAll_cons r0
  obtain ⟨rfl, rfl, rfl⟩ := trodAll_nil r1
  obtain rfl : args = #[v0, v1] := by cases args; simp_all
  obtain ⟨rfl, rfl⟩ := trodVars_none hV
  have k0 := h0
  have lt0 : ∀ x ∈ p0, x.block < W.heap.size := by obtain ⟨m, hm⟩ := k0; exact DataW.trod_lt m _ _ _ hm
  obtain ⟨c0_0, c0_1, c0_2, c0_3, c0_4, c0_5, c0_6, c0_7, y0_0, y0_1, y0_2, y0_3, y0_4, y0_5, y0_6, y0_7, m0, rfl, t0_0, t0_1, t0_2, t0_3, t0_4, t0_5, t0_6, t0_7⟩ := open_agg8 Tryz.underlying23 (by kernel_rfl) (by kernel_rfl) (hval 0 23 v0 rfl rfl) h0
  obtain ⟨a0_0, e0_0, _, w0_0⟩ := DataW.trod_int Tryz.underlying3 t0_0
  obtain rfl := (List.cons.inj e0_0).1
  obtain ⟨a0_1, e0_1, _, w0_1⟩ := DataW.trod_int Tryz.underlying3 t0_1
  obtain rfl := (List.cons.inj e0_1).1
  obtain ⟨a0_2, e0_2, _, w0_2⟩ := DataW.trod_int Tryz.underlying3 t0_2
  obtain rfl := (List.cons.inj e0_2).1
  obtain ⟨a0_3, e0_3, _, w0_3⟩ := DataW.trod_int Tryz.underlying3 t0_3
  obtain rfl := (List.cons.inj e0_3).1
  obtain ⟨a0_4, e0_4, _, w0_4⟩ := DataW.trod_int Tryz.underlying3 t0_4
  obtain rfl := (List.cons.inj e0_4).1
  obtain ⟨a0_5, e0_5, _, w0_5⟩ := DataW.trod_int Tryz.underlying3 t0_5
  obtain rfl := (List.cons.inj e0_5).1
  obtain ⟨a0_6, e0_6, _, w0_6⟩ := DataW.trod_int Tryz.underlying3 t0_6
  obtain rfl := (List.cons.inj e0_6).1
  obtain ⟨a0_7, e0_7, _, w0_7⟩ := DataW.trod_int Tryz.underlying3 t0_7
  obtain rfl := (List.cons.inj e0_7).1
  have k1 := h1
  have lt1 : ∀ x ∈ p1, x.block < W.heap.size := by obtain ⟨m, hm⟩ := k1; exact DataW.trod_lt m _ _ _ hm
  obtain ⟨A1, len1, cap1, rfl⟩ := okWide_slice Tryz.underlying27 (hval 1 27 v1 rfl rfl)
  obtain ⟨L1, rfl, hc1, hr1⟩ := open_events (P := Tryz.prog) Tryz.underlying27 Tryz.underlying33 (by kernel_rfl) (by kernel_rfl) (by kernel_rfl) (by kernel_rfl) (by kernel_rfl) (by kernel_rfl) (by kernel_rfl) (light_arg hsz (j := 1) (t := 27) rfl rfl) (show ∃ fuel, DataW.trod enc Tryz.prog W 0 (fun _ => true) true fuel 27 [.slice A1 len1 cap1] = some (d1, p1) from h1)
  have HLIB := libOK_of_laid hL
  clear hA0 hval0 hsz0 hL
  refine (stays_calls ⟨a0_0, a0_1, a0_2, a0_3, a0_4, a0_5, a0_6, a0_7⟩ L1 A1 cap1 W HLIB hr1).mono fun e W' ⟨he, hfr⟩ => ?_
  have bel : Below W.heap.size W W' := hfr.to_below (Nat.le_refl _) (fun _ h => h.elim)
  subst he
  exact ⟨_, rfl, _, _, _, [], _, [], hW', trodAll_mk1 (shut_bool Tryz.underlying4 _), (trodAll_cons_mk (Below.trod laidOut (by kernel_rfl) (of_decide_eq_true (by kernel_rfl)) k0 bel lt0) (trodAll_cons_mk (Below.trod laidOut (by kernel_rfl) (of_decide_eq_true (by kernel_rfl)) k1 bel lt1) trodAll_mk0)), rfl, bel.frame _, fun h => by cases h⟩
theorem over : Rows.wholeStaysRow.holds Tryz.pinned (OpenSpec.ofChange Rows.wholeStaysSpec) :=
  OpenClaim.holds_of_wide 5 Tryz.f5 rfl rfl rfl rfl rfl rfl rfl ⟨rfl, rfl, rfl, rfl, rfl⟩ rfl rfl rfl rfl rfl (by kernel_rfl) Tryz.func5 (by kernel_rfl)
    (of_decide_eq_true (by kernel_rfl)) (by unfold Func.isWrapper; first | (rw [if_pos (by decide +kernel)]; kernel_rfl) | (rw [if_neg (by decide +kernel)]; exact ⟨rfl, rfl⟩))
    (fun os started H enc _ => lifted os started H enc)
end Go.Proofs.YtfkamoiamebngaaGreatDoor.wholeStays
namespace Go.Proofs.YtfkamoiamebngaaGreatDoor
/-- The row. -/
theorem wholeStays_row : Rows.WholeStaysSaid := wholeStays.over
/-- The tied card: the row, with the listed variables tied to the program's text. -/
theorem wholeStays_holds : Rows.WholeStaysCardSaid :=
  Claim7.holds_tied_plain_at .later [] [.data, .data, .data, .sentinel, .sentinel] true (true, "b7a23f3f368572dcbfca7fbf3647117a06bbe60edbc6d71d68e3d0a3f79b162f") true
    wholeStays_row (fun _ h => by cases h) (by kernel_rfl) (fun _ h => by cases h) wholeStays_row_tie rfl ⟨rfl, rfl⟩ (by kernel_rfl) rfl
    (fun f fn hf hfn => by
      obtain rfl : f = 5 := Option.some.inj ((show Tryz.prog.funcNamed "kibitzer/kibitzertop.WholeStays" = some 5 by kernel_rfl).symm.trans hf) |>.symm
      obtain rfl : fn = Tryz.f5 := (Option.some.inj (Tryz.func5.symm.trans hfn)).symm
      exact ⟨by kernel_rfl, fun j t ht => by
        rw [Tryz.params5] at ht
        have hm : t ∈ [23, 27] := by simpa using Array.mem_of_getElem? ht
        have hall : ([23, 27].all fun u => !Tryz.prog.wantsStandIn u) = true := by kernel_rfl
        exact (show Tryz.prog.wantsStandIn t = false by simpa using List.all_eq_true.1 hall t hm)⟩)
    (by kernel_rfl)
#print axioms wholeStays_holds
end Go.Proofs.YtfkamoiamebngaaGreatDoor

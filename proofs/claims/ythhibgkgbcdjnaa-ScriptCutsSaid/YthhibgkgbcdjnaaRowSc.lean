/- The row of ScriptCuts: for every input the law returns true, and each argument reads behind the call as it read before. No condition. -/
import Derived.Test.YthhibgkgbcdjnaaRows
import Derived.Test.YthhibgkgbcdjnaaArgE
import Derived.Test.YthhibgkgbcdjnaaScrK
import Derived.WalkKit
import Derived.ProofKit
import Derived.OpenShut
import Derived.ShutString
import Derived.ChangeOld
import Derived.Below
import Derived.SizedLaws
namespace Go.Proofs.Ythhibgkgbcdjnaa.scriptCuts
open Go.ChangeShapes Go.WideShapes Go.ChangeAt Go.RowKit
open Go.ChangeMaps (open_string shut_string)
open Go.Proofs.Ythhibgkgbcdjnaa.Openers
set_option linter.unusedVariables false
theorem own : ownKnob Try.prog.godebug = none := by kernel_rfl
theorem laidOut : laidOutB Try.prog = true := by kernel_rfl
set_option maxRecDepth 100000 in
theorem lifted (os : Os) (started : os.Started) (H : Type) (enc : TypeId × Value → H) :
    ReturnsInHanded {} Try.checked os 5 .any (Rows.scriptCutsSpec.pre6 enc Try.prog Try.f5 Rows.scriptCutsRow.domain false) (Rows.scriptCutsSpec.post enc Try.prog Try.f5 false true false false) := by
  refine returnsInHanded_of_change_sized (C := Try.checked) own started (by kernel_rfl) Try.func5
    (ChangeSpec.witness6 (enc := enc) (C := Try.checked) false ⟨#[], #[.agg #[.int .i64 0, .int .i64 0, .int .i64 0, .int .i64 0, .int .i64 0, .int .i64 0, .int .i64 0, .int .i64 0], .slice none 0 0, .agg #[.int .i64 0, .int .i64 0, .int .i64 0, .string ByteArray.empty], .int .i64 0], []⟩ 8 (by kernel_rfl) (by kernel_rfl) (by kernel_rfl) (by kernel_rfl)) ?_
  intro W base args ds gs before hval0 hW hcnd hsz0 _
  have hsz : (DataW.weightsEach Try.prog (Try.f5.params.toList ++ Rows.scriptCutsSpec.plain.varTypes Try.prog) (ds ++ gs)).all (· ≤ reachBytes) = true := hsz0
  have hval : ∀ (j : Nat) t v, Try.f5.params[j]? = some t → args[j]? = some v → Value.okWide Try.prog W .any base t v := hval0
  have hW' := hW
  obtain ⟨p, q, hA0, hV, rfl, hfz, hnd⟩ := hW
  have hA : DataW.TrodAll enc Try.prog W 0 (fun _ => true) true Try.f5.params.toList args.toList ds p := hA0
  rw [Try.params5] at hA hval hsz
  obtain ⟨v0, vs0, d0, ds0, p0, q0, hargs, rfl, rfl, h0, r0⟩ := trodAll_cons hA
  obtain ⟨v1, vs1, d1, ds1, p1, q1, rfl, rfl, rfl, h1, r1⟩ := trodAll_cons r0
  obtain ⟨v2, vs2, d2, ds2, p2, q2, rfl, rfl, rfl, h2, r2⟩ := trodAll_cons r1
  obtain ⟨v3, vs3, d3, ds3, p3, q3, rfl, rfl, rfl, h3, r3⟩ := trodAll_cons r2
  obtain ⟨rfl, rfl, rfl⟩ := trodAll_nil r3
  obtain rfl : args = #[v0, v1, v2, v3] := by cases args; simp_all
  obtain ⟨rfl, rfl⟩ := trodVars_none hV
  have k0 := h0
  have lt0 : ∀ x ∈ p0, x.block < W.heap.size := by obtain ⟨m, hm⟩ := k0; exact DataW.trod_lt m _ _ _ hm
  obtain ⟨c0_0, c0_1, c0_2, c0_3, c0_4, c0_5, c0_6, c0_7, y0_0, y0_1, y0_2, y0_3, y0_4, y0_5, y0_6, y0_7, m0, rfl, t0_0, t0_1, t0_2, t0_3, t0_4, t0_5, t0_6, t0_7⟩ := open_agg8 Try.underlying23 (by kernel_rfl) (by kernel_rfl) (hval 0 23 v0 rfl rfl) h0
  obtain ⟨a0_0, e0_0, _, w0_0⟩ := DataW.trod_int Try.underlying3 t0_0
  obtain rfl := (List.cons.inj e0_0).1
  obtain ⟨a0_1, e0_1, _, w0_1⟩ := DataW.trod_int Try.underlying3 t0_1
  obtain rfl := (List.cons.inj e0_1).1
  obtain ⟨a0_2, e0_2, _, w0_2⟩ := DataW.trod_int Try.underlying3 t0_2
  obtain rfl := (List.cons.inj e0_2).1
  obtain ⟨a0_3, e0_3, _, w0_3⟩ := DataW.trod_int Try.underlying3 t0_3
  obtain rfl := (List.cons.inj e0_3).1
  obtain ⟨a0_4, e0_4, _, w0_4⟩ := DataW.trod_int Try.underlying3 t0_4
  obtain rfl := (List.cons.inj e0_4).1
  obtain ⟨a0_5, e0_5, _, w0_5⟩ := DataW.trod_int Try.underlying3 t0_5
  obtain rfl := (List.cons.inj e0_5).1
  obtain ⟨a0_6, e0_6, _, w0_6⟩ := DataW.trod_int Try.underlying3 t0_6
  obtain rfl := (List.cons.inj e0_6).1
  obtain ⟨a0_7, e0_7, _, w0_7⟩ := DataW.trod_int Try.underlying3 t0_7
  obtain rfl := (List.cons.inj e0_7).1
  have k1 := h1
  have lt1 : ∀ x ∈ p1, x.block < W.heap.size := by obtain ⟨m, hm⟩ := k1; exact DataW.trod_lt m _ _ _ hm
  obtain ⟨A1, len1, cap1, rfl⟩ := okWide_slice Try.underlying24 (hval 1 24 v1 rfl rfl)
  obtain ⟨L1, rfl, hc1, hr1⟩ := open_events (P := Try.prog) Try.underlying24 Try.underlying30 (by kernel_rfl) (by kernel_rfl) (by kernel_rfl) (by kernel_rfl) (by kernel_rfl) (by kernel_rfl) (by kernel_rfl) (light_arg hsz (j := 1) (t := 24) rfl rfl) (show ∃ fuel, DataW.trod enc Try.prog W 0 (fun _ => true) true fuel 24 [.slice A1 len1 cap1] = some (d1, p1) from h1)
  have k2 := h2
  have lt2 : ∀ x ∈ p2, x.block < W.heap.size := by obtain ⟨m, hm⟩ := k2; exact DataW.trod_lt m _ _ _ hm
  obtain ⟨b2_0, b2_1, b2_2, b2_3, y2_0, y2_1, y2_2, y2_3, m2, rfl, z2, _, t2_0, t2_1, t2_2, t2_3⟩ := Go.Joins.open_agg4 Try.underlying30 (by kernel_rfl) (by kernel_rfl) (hval 2 30 v2 rfl rfl) h2
  obtain ⟨a2_0, e2_0, _, w2_0⟩ := DataW.trod_int (k := .i64) (by kernel_rfl) t2_0
  obtain rfl := (List.cons.inj e2_0).1
  obtain ⟨a2_1, e2_1, _, w2_1⟩ := DataW.trod_int (k := .i64) (by kernel_rfl) t2_1
  obtain rfl := (List.cons.inj e2_1).1
  obtain ⟨a2_2, e2_2, _, w2_2⟩ := DataW.trod_int (k := .i64) (by kernel_rfl) t2_2
  obtain rfl := (List.cons.inj e2_2).1
  obtain ⟨a2_3, e2_3, _, w2_3⟩ := DataW.trod_string (by kernel_rfl) t2_3
  obtain rfl := (List.cons.inj e2_3).1
  obtain ⟨a3, rfl, rfl, rfl, w3⟩ := open_int Try.underlying3 (hval 3 3 v3 rfl rfl) h3
  clear hA0 hval0 hsz0
  refine (Go.Proofs.Ythhibgkgbcdjnaa.ScrW.Cut.scriptCuts_row W a0_0 a0_1 a0_2 a0_3 a0_4 a0_5 a0_6 a0_7 w0_0 w0_1 w0_2 w0_3 w0_4 w0_5 w0_6 w0_7 L1 A1 cap1 hr1 hc1 a2_0 a2_1 a2_2 a2_3 a3 w3).mono fun e W' ⟨he, bel⟩ => ?_
  subst he
  exact ⟨_, rfl, _, _, _, [], _, [], hW', trodAll_mk1 (shut_bool Try.underlying4 _), (trodAll_cons_mk (Below.trod laidOut (by kernel_rfl) (of_decide_eq_true (by kernel_rfl)) k0 bel lt0) (trodAll_cons_mk (Below.trod laidOut (by kernel_rfl) (of_decide_eq_true (by kernel_rfl)) k1 bel lt1) (trodAll_cons_mk (Below.trod laidOut (by kernel_rfl) (of_decide_eq_true (by kernel_rfl)) k2 bel lt2) (trodAll_cons_mk (shut_int Try.underlying3 w3) trodAll_mk0)))), rfl, bel.frame _, fun h => by cases h⟩
theorem over : Rows.scriptCutsRow.holds Try.pinned (OpenSpec.ofChange Rows.scriptCutsSpec) :=
  OpenClaim.holds_of_wide 5 Try.f5 rfl rfl rfl rfl rfl rfl rfl ⟨rfl, rfl, rfl, rfl, rfl⟩ rfl rfl rfl rfl rfl (by kernel_rfl) Try.func5 (by kernel_rfl)
    (of_decide_eq_true (by kernel_rfl)) (by unfold Func.isWrapper; first | (rw [if_pos (by decide +kernel)]; kernel_rfl) | (rw [if_neg (by decide +kernel)]; exact ⟨rfl, rfl⟩))
    (fun os started H enc _ => lifted os started H enc)
end Go.Proofs.Ythhibgkgbcdjnaa.scriptCuts
namespace Go.Proofs.Ythhibgkgbcdjnaa
/-- The row. -/
theorem scriptCuts_holds : Rows.ScriptCutsSaid := scriptCuts.over
#print axioms scriptCuts_holds
end Go.Proofs.Ythhibgkgbcdjnaa


/- What the law ConfRights computes: true. -/
import Derived.Test.YtajhahgaeihfaaaCr
import Derived.Outline
namespace Go.Proofs.Ytajhahgaeihfaaa.PConfRights
open Go.RowKit Go.Proofs.YtajhahgaeihfaaaW.PrintWords Go.Proofs.YtajhahgaeihfaaaW.PrintLast Go.Proofs.YtajhahgaeihfaaaW.PrintMore

theorem in_f (a b c : Int) : conf_in_int.f a b c = some (decide (b ≤ a ∧ a ≤ c)) := by
  unfold conf_in_int.f
  by_cases h : a ≥ b
  · rw [if_pos h]; congr 1; simp; omega
  · rw [if_neg h]; congr 1; simp; omega

theorem right_f (a0 a1 a2 a3 a4 a5 a6 a7 : Int) : conf_Conf_Right.f a0 a1 a2 a3 a4 a5 a6 a7 = some (rightB a0 a1 a2 a3 a4 a5 a6 a7) := by
  unfold conf_Conf_Right.f rightB
  simp only [in_f, Option.bind_some, decide_eq_true_eq]
  repeat' (split <;> rename_i h)
  all_goals (congr 1; rw [Bool.eq_iff_iff]; simp; omega)

theorem head_f : kibitzerlaw13_head.f = some true := by decide

theorem right_any (a0 a1 a2 a3 a4 a5 a6 a7 : Int) (w : World) :
    Calls Try.prog 10 #[.agg #[.int .i64 a0, .int .i64 a1, .int .i64 a2, .int .i64 a3, .int .i64 a4, .int .i64 a5, .int .i64 a6, .int .i64 a7]] w fun e w' => e = .returned (.bool (rightB a0 a1 a2 a3 a4 a5 a6 a7)) ∧ Below w.heap.size w w' :=
  conf_Conf_Right.calls a0 a1 a2 a3 a4 a5 a6 a7 _ w (right_f a0 a1 a2 a3 a4 a5 a6 a7)

theorem head_any (w : World) : Calls Try.prog 9 #[] w fun e w' => e = .returned (.bool true) ∧ Below w.heap.size w w' := kibitzerlaw13_head.calls true w head_f

theorem cells8 {W : World} {g t : Nat} {a0 a1 a2 a3 a4 a5 a6 a7 : Int} (h : W.heap[g]? = some (.cells #[.int .i64 a0, .int .i64 a1, .int .i64 a2, .int .i64 a3, .int .i64 a4, .int .i64 a5, .int .i64 a6, .int .i64 a7] t (0, 0))) :
    W.cell? ⟨g, 0, none⟩ = some (.int .i64 a0) ∧ W.cell? ⟨g, 1, none⟩ = some (.int .i64 a1) ∧ W.cell? ⟨g, 2, none⟩ = some (.int .i64 a2) ∧ W.cell? ⟨g, 3, none⟩ = some (.int .i64 a3) ∧ W.cell? ⟨g, 4, none⟩ = some (.int .i64 a4) ∧ W.cell? ⟨g, 5, none⟩ = some (.int .i64 a5) ∧ W.cell? ⟨g, 6, none⟩ = some (.int .i64 a6) ∧ W.cell? ⟨g, 7, none⟩ = some (.int .i64 a7) :=
  ⟨(blk_cell h 0).trans rfl, (blk_cell h 1).trans rfl, (blk_cell h 2).trans rfl, (blk_cell h 3).trans rfl, (blk_cell h 4).trans rfl, (blk_cell h 5).trans rfl, (blk_cell h 6).trans rfl, (blk_cell h 7).trans rfl⟩

set_option maxRecDepth 100000 in
set_option maxHeartbeats 1000000 in
theorem law_calls (a0 a1 a2 a3 a4 a5 a6 a7 : Int) (w : World) :
    Calls Try.prog 3 #[.agg #[.int .i64 a0, .int .i64 a1, .int .i64 a2, .int .i64 a3, .int .i64 a4, .int .i64 a5, .int .i64 a6, .int .i64 a7]] w fun e w' => e = .returned (.bool true) ∧ Below w.heap.size w w' := by
  go_enter Try.func3, Try.ntmps3
  go_wp2_with fail
  refine (head_any _).mono ?_
  rintro e w1 ⟨rfl, hb1⟩
  have hb0 : Below w.heap.size w w1 := below_step (below_alloc (Below.refl _ _) _) hb1
  have hbk : w1.heap[w.heap.size]? = some (.cells #[.int .i64 a0, .int .i64 a1, .int .i64 a2, .int .i64 a3, .int .i64 a4, .int .i64 a5, .int .i64 a6, .int .i64 a7] 23 (0, 0)) :=
    blk_grown (heap_alloc_new w _) (grown_of_below hb1 none) (by simp)
  have HB0 := Aside0.mk hb0
  have HBK := Aside0.mk hbk
  clear hb0 hbk hb1
  go_wp2_with fail
  obtain ⟨c0, c1, c2, c3, c4, c5, c6, c7⟩ := cells8 HBK.out
  go_region_with (first | (go_at_call 10; refine (right_any _ _ _ _ _ _ _ _ _).mono ?_; rintro e w2 ⟨rfl, hb2⟩; obtain ⟨d0, d1, d2, d3, d4, d5, d6, d7⟩ := cells8 (blk_below (blk_drew HBK.out) hb2); have HB2 := Aside0.mk (below_step (below_drew1 HB0.out) hb2); clear hb2) | (go_at_call 11; refine (right_calls _ _ _ _ _ _ _ _ _).mono ?_; rintro e w3 ⟨rfl, hb3⟩; have HB3 := Aside0.mk (below_step HB2.out hb3); clear hb3))
  all_goals
    go_wp2
    go_ret
    exact ⟨rfl, HB3.out⟩
theorem ConfRights_walk (W : World) (a0 a1 a2 a3 a4 a5 a6 a7 : Int) (_w0 : (Lit.int .i64 a0).wf = true) (_w1 : (Lit.int .i64 a1).wf = true) (_w2 : (Lit.int .i64 a2).wf = true) (_w3 : (Lit.int .i64 a3).wf = true) (_w4 : (Lit.int .i64 a4).wf = true) (_w5 : (Lit.int .i64 a5).wf = true) (_w6 : (Lit.int .i64 a6).wf = true) (_w7 : (Lit.int .i64 a7).wf = true) :
    Calls Try.prog 3 #[.agg #[.int .i64 a0, .int .i64 a1, .int .i64 a2, .int .i64 a3, .int .i64 a4, .int .i64 a5, .int .i64 a6, .int .i64 a7]] W fun e w' => e = .returned (.bool true) ∧ Below W.heap.size W w' :=
  law_calls a0 a1 a2 a3 a4 a5 a6 a7 W
end Go.Proofs.Ytajhahgaeihfaaa.PConfRights

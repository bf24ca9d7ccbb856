/- The small functions of the statements and of script. -/
import Derived.Test.YthhibgkgbcdjnaaConfR
import Derived.Test.YthhibgkgbcdjnaaArgs
import Derived.Handy
import Derived.RegionTactic
import Derived.ChangeAlike
import Derived.Outline
import Derived.Deep.DeepMust
import Derived.BigQuiet
import Derived.Deep.QuietTactic
import Derived.WalkLawsBesides
namespace Go.Proofs.Ythhibgkgbcdjnaa.ScrW
open Go.RowKit Go.Proofs.YthhibgkgbcdjnaaW.PrintWords Go.Proofs.YthhibgkgbcdjnaaW.PrintMore Go.Proofs.Ythhibgkgbcdjnaa.Fr Go.Proofs.Ythhibgkgbcdjnaa.ScrP Go.Proofs.Ythhibgkgbcdjnaa.Openers
set_option linter.unusedVariables false
set_option linter.unusedSimpArgs false

def evV (e : Ev) : Value := .agg #[.int .i64 e.k, .int .i64 e.i, .int .i64 e.n, .string e.d]
def cfV (c : Cf) : Value := .agg #[.int .i64 c.a0, .int .i64 c.a1, .int .i64 c.a2, .int .i64 c.a3, .int .i64 c.a4, .int .i64 c.a5, .int .i64 c.a6, .int .i64 c.a7]

theorem in_calls (a b c : Int) (w : World) :
    Calls Try.prog 23 #[.int .i64 a, .int .i64 b, .int .i64 c] w fun e w' => e = .returned (.bool (decide (b ≤ a ∧ a ≤ c))) ∧ w' = w := by
  go_enter Try.func23, Try.ntmps23
  go_wp2
  all_goals (go_ret; refine ⟨?_, rfl⟩)
  · rename_i h
    show Ending.returned (.bool (decide (a ≤ c))) = Ending.returned (.bool (decide (b ≤ a ∧ a ≤ c)))
    congr 2
    exact decide_eq_decide.2 ⟨fun k => ⟨h, k⟩, fun k => k.2⟩
  · rename_i h
    show Ending.returned (.bool false) = _
    congr 2
    simp
    omega

theorem default_calls (w : World) : Calls Try.prog 16 #[] w fun e w' => e = .returned (cfV cfD) ∧ Below w.heap.size w w' := by
  go_enter Try.func16, Try.ntmps16
  go_wp2
  go_returns
  exact ⟨rfl, below_alloc (Below.refl _ _) _⟩

theorem toList_nil (d : ByteArray) : d.toList = [] ↔ d.size = 0 := by
  rw [ByteArray.toList_eq]
  constructor
  · intro h
    have := congrArg List.length h
    simpa using this
  · intro h
    apply List.eq_nil_of_length_eq_zero
    simpa using h
theorem evB_false {e : Ev} (h : ¬ ((0 ≤ e.k ∧ e.k ≤ 7) ∧ (0 ≤ e.i ∧ e.i ≤ 255) ∧ (0 ≤ e.n ∧ e.n ≤ 65536) ∧ e.d.size ≤ 4000 ∧ ((e.k = 0 ∨ e.k = 1 ∨ e.k = 2 ∨ e.k = 6) ∨ e.i = 0) ∧ ((e.k = 2 ∨ e.k = 4 ∨ e.k = 7) ∨ e.n = 0) ∧ ((e.k = 1 ∨ e.k = 3) ∨ e.d.size = 0))) : false = evB e := by
  unfold evB hasI hasN hasD
  simp only [decide_eq_true_eq]
  exact (decide_eq_false h).symm
theorem evB_of {e : Ev} {p : Prop} [Decidable p] (h : p ↔ ((0 ≤ e.k ∧ e.k ≤ 7) ∧ (0 ≤ e.i ∧ e.i ≤ 255) ∧ (0 ≤ e.n ∧ e.n ≤ 65536) ∧ e.d.size ≤ 4000 ∧ ((e.k = 0 ∨ e.k = 1 ∨ e.k = 2 ∨ e.k = 6) ∨ e.i = 0) ∧ ((e.k = 2 ∨ e.k = 4 ∨ e.k = 7) ∨ e.n = 0) ∧ ((e.k = 1 ∨ e.k = 3) ∨ e.d.size = 0))) : decide p = evB e := by
  unfold evB hasI hasN hasD
  simp only [decide_eq_true_eq]
  exact decide_eq_decide.2 h
theorem below2 (w : World) (o o' : Obj) : Below w.heap.size w ((w.alloc o).alloc o') := ((Below.refl w.heap.size w).alloc (Nat.le_refl _) o).alloc (by simp) o'

set_option maxHeartbeats 2000000 in
set_option maxRecDepth 100000 in
theorem evRight_calls (e : Ev) (w : World) : Calls Try.prog 10 #[evV e] w fun r w' => r = .returned (.bool (evB e)) ∧ Below w.heap.size w w' := by
  unfold evV
  have HZ := Aside0.mk (toList_nil e.d)
  go_enter Try.func10, Try.ntmps10
  go_wp2
  all_goals try (go_region <;> go_wp2)
  all_goals go_returns
  all_goals refine ⟨congrArg (fun b => Ending.returned (.bool b)) ?_, ?_⟩
  all_goals simp only [beq_iff_eq, beq_eq_false_iff_ne, HZ.out, ne_eq] at *
  all_goals first
    | (show false = evB e; exact evB_false (by omega))
    | (show decide ((e.d.size : Int) ≤ 4000) = evB e; exact evB_of (by omega))
    | (show decide (e.d.size ≤ 4000) = evB e; exact evB_of (by omega))
    | exact below2 _ _ _
    | exact below_drew1 (below2 _ _ _)
end Go.Proofs.Ythhibgkgbcdjnaa.ScrW

/- What ConfBounds computes: true. -/
import Derived.Test.YtajhahgaeihfaaaCba
import Derived.Test.YtajhahgaeihfaaaCbb
import Derived.Test.YtajhahgaeihfaaaCbc
namespace Go.Proofs.Ytajhahgaeihfaaa.PConfRights
open Go.RowKit

theorem part_cases (part : Int) : wrap64 ((IntKind.u64.wrap part).tmod 8) = 0 ∨ wrap64 ((IntKind.u64.wrap part).tmod 8) = 1 ∨ wrap64 ((IntKind.u64.wrap part).tmod 8) = 2 ∨ wrap64 ((IntKind.u64.wrap part).tmod 8) = 3 ∨ wrap64 ((IntKind.u64.wrap part).tmod 8) = 4 ∨ wrap64 ((IntKind.u64.wrap part).tmod 8) = 5 ∨ wrap64 ((IntKind.u64.wrap part).tmod 8) = 6 ∨ wrap64 ((IntKind.u64.wrap part).tmod 8) = 7 := by
  have h0 : 0 ≤ IntKind.u64.wrap part := by
    simp [IntKind.wrap, IntKind.signed]
    omega
  generalize IntKind.u64.wrap part = m at *
  rw [Int.tmod_eq_emod_of_nonneg h0]
  unfold wrap64
  omega

theorem ConfBounds_walk (W : World) (part : Int) (_w0 : (Lit.int .i64 part).wf = true) (which : Int) (_w1 : (Lit.int .i64 which).wf = true) :
    Calls Try.prog 4 #[.int .i64 part, .int .i64 which] W fun e w' => e = .returned (.bool true) ∧ Below W.heap.size W w' := by
  rcases part_cases part with h | h | h | h | h | h | h | h
  · exact bounds_0 part which W h
  · exact bounds_1 part which W h
  · exact bounds_2 part which W h
  · exact bounds_3 part which W h
  · exact bounds_4 part which W h
  · exact bounds_5 part which W h
  · exact bounds_6 part which W h
  · exact bounds_7 part which W h
end Go.Proofs.Ytajhahgaeihfaaa.PConfRights

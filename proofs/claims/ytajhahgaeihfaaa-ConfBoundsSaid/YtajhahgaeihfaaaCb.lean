/- What ConfBounds computes at the parts 0 and 1 of a conf: true. -/
import Derived.Test.YtajhahgaeihfaaaCl
namespace Go.Proofs.Ytajhahgaeihfaaa.PConfRights
open Go.RowKit Go.Proofs.YtajhahgaeihfaaaW.PrintWords Go.Proofs.YtajhahgaeihfaaaW.PrintLast Go.Proofs.YtajhahgaeihfaaaW.PrintMore

theorem default_any (w : World) : Calls Try.prog 12 #[] w fun e w' => e = .returned (.agg #[.int .i64 4096, .int .i64 512, .int .i64 2048, .int .i64 256, .int .i64 3, .int .i64 100, .int .i64 0, .int .i64 80]) ∧ Below w.heap.size w w' :=
  conf_Default.calls 4096 512 2048 256 3 100 0 80 w rfl

set_option maxRecDepth 100000 in
set_option maxHeartbeats 4000000 in
theorem bounds_0 (part which : Int) (w : World) (hp : wrap64 ((IntKind.u64.wrap part).tmod 8) = 0) :
    Calls Try.prog 4 #[.int .i64 part, .int .i64 which] w fun e w' => e = .returned (.bool true) ∧ Below w.heap.size w w' := by
  rcases Bool.eq_false_or_eq_true (bits BinOp.and IntKind.i64 which 1 == 0) with h1 | h1 <;> rcases Bool.eq_false_or_eq_true (bits BinOp.and IntKind.i64 which 2 == 0) with h2 | h2
  · have hr : rightB 1 512 2048 256 3 100 0 80 = true := by decide
    have H0 := Aside0.mk (Below.refl w.heap.size w)
    go_enter Try.func4, Try.ntmps4
    go_wp2_with (first | (go_at_call 9; refine (head_any _).mono ?_; rintro e w1 ⟨rfl, hb1⟩; have H1 := Aside0.mk hb1; clear hb1) | (go_at_call 12; refine (default_any _).mono ?_; rintro e w2 ⟨rfl, hb2⟩; have H2 := Aside0.mk (below_step H1.out hb2); clear hb2 H1) | (go_at_call 10; refine (right_any _ _ _ _ _ _ _ _ _).mono ?_; rintro e w3 ⟨rfl, hb3⟩; have H3 := Aside0.mk hb3; clear hb3))
    go_ret
    refine ⟨rfl, ?_⟩
    refine below_step ?_ H3.out
    refine below_alloc (below_alloc H2.out _) _
  · have hr : rightB 65536 512 2048 256 3 100 0 80 = true := by decide
    have H0 := Aside0.mk (Below.refl w.heap.size w)
    go_enter Try.func4, Try.ntmps4
    go_wp2_with (first | (go_at_call 9; refine (head_any _).mono ?_; rintro e w1 ⟨rfl, hb1⟩; have H1 := Aside0.mk hb1; clear hb1) | (go_at_call 12; refine (default_any _).mono ?_; rintro e w2 ⟨rfl, hb2⟩; have H2 := Aside0.mk (below_step H1.out hb2); clear hb2 H1) | (go_at_call 10; refine (right_any _ _ _ _ _ _ _ _ _).mono ?_; rintro e w3 ⟨rfl, hb3⟩; have H3 := Aside0.mk hb3; clear hb3))
    go_ret
    refine ⟨rfl, ?_⟩
    refine below_step ?_ H3.out
    refine below_alloc (below_alloc H2.out _) _
  · have hr : rightB 0 512 2048 256 3 100 0 80 = false := by decide
    have H0 := Aside0.mk (Below.refl w.heap.size w)
    go_enter Try.func4, Try.ntmps4
    go_wp2_with (first | (go_at_call 9; refine (head_any _).mono ?_; rintro e w1 ⟨rfl, hb1⟩; have H1 := Aside0.mk hb1; clear hb1) | (go_at_call 12; refine (default_any _).mono ?_; rintro e w2 ⟨rfl, hb2⟩; have H2 := Aside0.mk (below_step H1.out hb2); clear hb2 H1) | (go_at_call 10; refine (right_any _ _ _ _ _ _ _ _ _).mono ?_; rintro e w3 ⟨rfl, hb3⟩; have H3 := Aside0.mk hb3; clear hb3))
    go_ret
    refine ⟨rfl, ?_⟩
    refine below_step ?_ H3.out
    refine below_alloc (below_alloc H2.out _) _
  · have hr : rightB 65537 512 2048 256 3 100 0 80 = false := by decide
    have H0 := Aside0.mk (Below.refl w.heap.size w)
    go_enter Try.func4, Try.ntmps4
    go_wp2_with (first | (go_at_call 9; refine (head_any _).mono ?_; rintro e w1 ⟨rfl, hb1⟩; have H1 := Aside0.mk hb1; clear hb1) | (go_at_call 12; refine (default_any _).mono ?_; rintro e w2 ⟨rfl, hb2⟩; have H2 := Aside0.mk (below_step H1.out hb2); clear hb2 H1) | (go_at_call 10; refine (right_any _ _ _ _ _ _ _ _ _).mono ?_; rintro e w3 ⟨rfl, hb3⟩; have H3 := Aside0.mk hb3; clear hb3))
    go_ret
    refine ⟨rfl, ?_⟩
    refine below_step ?_ H3.out
    refine below_alloc (below_alloc H2.out _) _

end Go.Proofs.Ytajhahgaeihfaaa.PConfRights

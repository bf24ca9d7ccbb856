/- What ConfBounds computes at some parts of a conf: true. -/
import Derived.Test.YtajhahgaeihfaaaCb
namespace Go.Proofs.Ytajhahgaeihfaaa.PConfRights
open Go.RowKit Go.Proofs.YtajhahgaeihfaaaW.PrintWords Go.Proofs.YtajhahgaeihfaaaW.PrintLast Go.Proofs.YtajhahgaeihfaaaW.PrintMore

set_option maxRecDepth 100000 in
set_option maxHeartbeats 4000000 in
theorem bounds_6 (part which : Int) (w : World) (hp : wrap64 ((IntKind.u64.wrap part).tmod 8) = 6) :
    Calls Try.prog 4 #[.int .i64 part, .int .i64 which] w fun e w' => e = .returned (.bool true) ∧ Below w.heap.size w w' := by
  rcases Bool.eq_false_or_eq_true (bits BinOp.and IntKind.i64 which 1 == 0) with h1 | h1 <;> rcases Bool.eq_false_or_eq_true (bits BinOp.and IntKind.i64 which 2 == 0) with h2 | h2
  · have hr : rightB 4096 512 2048 256 3 100 0 80 = true := by decide
    have H0 := Aside0.mk (Below.refl w.heap.size w)
    go_enter Try.func4, Try.ntmps4
    go_wp2_with (first | (go_at_call 9; refine (head_any _).mono ?_; rintro e w1 ⟨rfl, hb1⟩; have H1 := Aside0.mk hb1; clear hb1) | (go_at_call 12; refine (default_any _).mono ?_; rintro e w2 ⟨rfl, hb2⟩; have H2 := Aside0.mk (below_step H1.out hb2); clear hb2 H1) | (go_at_call 10; refine (right_any _ _ _ _ _ _ _ _ _).mono ?_; rintro e w3 ⟨rfl, hb3⟩; have H3 := Aside0.mk hb3; clear hb3))
    go_ret
    refine ⟨rfl, ?_⟩
    refine below_step ?_ H3.out
    refine below_alloc (below_alloc H2.out _) _
  · have hr : rightB 4096 512 2048 256 3 100 1000 80 = true := by decide
    have H0 := Aside0.mk (Below.refl w.heap.size w)
    go_enter Try.func4, Try.ntmps4
    go_wp2_with (first | (go_at_call 9; refine (head_any _).mono ?_; rintro e w1 ⟨rfl, hb1⟩; have H1 := Aside0.mk hb1; clear hb1) | (go_at_call 12; refine (default_any _).mono ?_; rintro e w2 ⟨rfl, hb2⟩; have H2 := Aside0.mk (below_step H1.out hb2); clear hb2 H1) | (go_at_call 10; refine (right_any _ _ _ _ _ _ _ _ _).mono ?_; rintro e w3 ⟨rfl, hb3⟩; have H3 := Aside0.mk hb3; clear hb3))
    go_ret
    refine ⟨rfl, ?_⟩
    refine below_step ?_ H3.out
    refine below_alloc (below_alloc H2.out _) _
  · have hr : rightB 4096 512 2048 256 3 100 (-1) 80 = false := by decide
    have H0 := Aside0.mk (Below.refl w.heap.size w)
    go_enter Try.func4, Try.ntmps4
    go_wp2_with (first | (go_at_call 9; refine (head_any _).mono ?_; rintro e w1 ⟨rfl, hb1⟩; have H1 := Aside0.mk hb1; clear hb1) | (go_at_call 12; refine (default_any _).mono ?_; rintro e w2 ⟨rfl, hb2⟩; have H2 := Aside0.mk (below_step H1.out hb2); clear hb2 H1) | (go_at_call 10; refine (right_any _ _ _ _ _ _ _ _ _).mono ?_; rintro e w3 ⟨rfl, hb3⟩; have H3 := Aside0.mk hb3; clear hb3))
    go_ret
    refine ⟨rfl, ?_⟩
    refine below_step ?_ H3.out
    refine below_alloc (below_alloc H2.out _) _
  · have hr : rightB 4096 512 2048 256 3 100 1001 80 = false := by decide
    have H0 := Aside0.mk (Below.refl w.heap.size w)
    go_enter Try.func4, Try.ntmps4
    go_wp2_with (first | (go_at_call 9; refine (head_any _).mono ?_; rintro e w1 ⟨rfl, hb1⟩; have H1 := Aside0.mk hb1; clear hb1) | (go_at_call 12; refine (default_any _).mono ?_; rintro e w2 ⟨rfl, hb2⟩; have H2 := Aside0.mk (below_step H1.out hb2); clear hb2 H1) | (go_at_call 10; refine (right_any _ _ _ _ _ _ _ _ _).mono ?_; rintro e w3 ⟨rfl, hb3⟩; have H3 := Aside0.mk hb3; clear hb3))
    go_ret
    refine ⟨rfl, ?_⟩
    refine below_step ?_ H3.out
    refine below_alloc (below_alloc H2.out _) _

set_option maxRecDepth 100000 in
set_option maxHeartbeats 4000000 in
theorem bounds_7 (part which : Int) (w : World) (hp : wrap64 ((IntKind.u64.wrap part).tmod 8) = 7) :
    Calls Try.prog 4 #[.int .i64 part, .int .i64 which] w fun e w' => e = .returned (.bool true) ∧ Below w.heap.size w w' := by
  rcases Bool.eq_false_or_eq_true (bits BinOp.and IntKind.i64 which 1 == 0) with h1 | h1 <;> rcases Bool.eq_false_or_eq_true (bits BinOp.and IntKind.i64 which 2 == 0) with h2 | h2
  · have hr : rightB 4096 512 2048 256 3 100 0 1 = true := by decide
    have H0 := Aside0.mk (Below.refl w.heap.size w)
    go_enter Try.func4, Try.ntmps4
    go_wp2_with (first | (go_at_call 9; refine (head_any _).mono ?_; rintro e w1 ⟨rfl, hb1⟩; have H1 := Aside0.mk hb1; clear hb1) | (go_at_call 12; refine (default_any _).mono ?_; rintro e w2 ⟨rfl, hb2⟩; have H2 := Aside0.mk (below_step H1.out hb2); clear hb2 H1) | (go_at_call 10; refine (right_any _ _ _ _ _ _ _ _ _).mono ?_; rintro e w3 ⟨rfl, hb3⟩; have H3 := Aside0.mk hb3; clear hb3))
    go_ret
    refine ⟨rfl, ?_⟩
    refine below_step ?_ H3.out
    refine below_alloc (below_alloc H2.out _) _
  · have hr : rightB 4096 512 2048 256 3 100 0 500 = true := by decide
    have H0 := Aside0.mk (Below.refl w.heap.size w)
    go_enter Try.func4, Try.ntmps4
    go_wp2_with (first | (go_at_call 9; refine (head_any _).mono ?_; rintro e w1 ⟨rfl, hb1⟩; have H1 := Aside0.mk hb1; clear hb1) | (go_at_call 12; refine (default_any _).mono ?_; rintro e w2 ⟨rfl, hb2⟩; have H2 := Aside0.mk (below_step H1.out hb2); clear hb2 H1) | (go_at_call 10; refine (right_any _ _ _ _ _ _ _ _ _).mono ?_; rintro e w3 ⟨rfl, hb3⟩; have H3 := Aside0.mk hb3; clear hb3))
    go_ret
    refine ⟨rfl, ?_⟩
    refine below_step ?_ H3.out
    refine below_alloc (below_alloc H2.out _) _
  · have hr : rightB 4096 512 2048 256 3 100 0 0 = false := by decide
    have H0 := Aside0.mk (Below.refl w.heap.size w)
    go_enter Try.func4, Try.ntmps4
    go_wp2_with (first | (go_at_call 9; refine (head_any _).mono ?_; rintro e w1 ⟨rfl, hb1⟩; have H1 := Aside0.mk hb1; clear hb1) | (go_at_call 12; refine (default_any _).mono ?_; rintro e w2 ⟨rfl, hb2⟩; have H2 := Aside0.mk (below_step H1.out hb2); clear hb2 H1) | (go_at_call 10; refine (right_any _ _ _ _ _ _ _ _ _).mono ?_; rintro e w3 ⟨rfl, hb3⟩; have H3 := Aside0.mk hb3; clear hb3))
    go_ret
    refine ⟨rfl, ?_⟩
    refine below_step ?_ H3.out
    refine below_alloc (below_alloc H2.out _) _
  · have hr : rightB 4096 512 2048 256 3 100 0 501 = false := by decide
    have H0 := Aside0.mk (Below.refl w.heap.size w)
    go_enter Try.func4, Try.ntmps4
    go_wp2_with (first | (go_at_call 9; refine (head_any _).mono ?_; rintro e w1 ⟨rfl, hb1⟩; have H1 := Aside0.mk hb1; clear hb1) | (go_at_call 12; refine (default_any _).mono ?_; rintro e w2 ⟨rfl, hb2⟩; have H2 := Aside0.mk (below_step H1.out hb2); clear hb2 H1) | (go_at_call 10; refine (right_any _ _ _ _ _ _ _ _ _).mono ?_; rintro e w3 ⟨rfl, hb3⟩; have H3 := Aside0.mk hb3; clear hb3))
    go_ret
    refine ⟨rfl, ?_⟩
    refine below_step ?_ H3.out
    refine below_alloc (below_alloc H2.out _) _

end Go.Proofs.Ytajhahgaeihfaaa.PConfRights

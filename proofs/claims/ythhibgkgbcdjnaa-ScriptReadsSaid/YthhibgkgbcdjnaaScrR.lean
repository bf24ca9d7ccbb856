/- What the statements' own Right answers of an event. -/
import Derived.Test.YthhibgkgbcdjnaaScrT
import Derived.LoopN
import Derived.Laws.RangeString
namespace Go.Proofs.Ythhibgkgbcdjnaa.ScrW
open Go.RowKit Go.Proofs.YthhibgkgbcdjnaaW.PrintWords Go.Proofs.YthhibgkgbcdjnaaW.PrintMore Go.Proofs.Ythhibgkgbcdjnaa.Fr Go.Proofs.Ythhibgkgbcdjnaa.ScrP Go.Proofs.Ythhibgkgbcdjnaa.Openers
set_option linter.unusedVariables false
set_option linter.unusedSimpArgs false

theorem next_at {P : Program} (W : World) (h : Nat) (hh : W.heap.size = h) (s : ByteArray) (pos : Nat) (ty : TypeId) (c : Nat) (hp : pos < s.size) (hc : (s[pos]'hp).toNat = c) (ha : c < 128) :
    (Instr.next (.pointer (some ⟨h, 0, none⟩)) true ty).run P (W.iter s pos) = .ok (.tuple #[.bool true, .int .i64 pos, .int .i32 c]) (W.iter s (pos + 1)) := by
  subst hh hc
  exact run_next_ascii W s pos ty hp ha
theorem below3 (w : World) (o o' o2 : Obj) : Below w.heap.size w (((w.alloc o).alloc o').alloc o2) := (below2 w o o').alloc (by simp; omega) o2
theorem empty_size (d : ByteArray) : d.toList.isEmpty = decide (d.size = 0) := by
  rw [Bool.eq_iff_iff, decide_eq_true_eq, List.isEmpty_iff, toList_nil]
theorem next_end {P : Program} (W : World) (h : Nat) (hh : W.heap.size = h) (s : ByteArray) (pos : Nat) (ty : TypeId) (hp : ¬ pos < s.size) :
    (Instr.next (.pointer (some ⟨h, 0, none⟩)) true ty).run P (W.iter s pos) = .ok (.tuple #[.bool false]) (W.iter s pos) := by
  subst hh
  exact run_next_end W s pos ty hp

theorem evB_true {e : Ev} (h : ((0 ≤ e.k ∧ e.k ≤ 7) ∧ (0 ≤ e.i ∧ e.i ≤ 255) ∧ (0 ≤ e.n ∧ e.n ≤ 65536) ∧ e.d.size ≤ 4000 ∧ ((e.k = 0 ∨ e.k = 1 ∨ e.k = 2 ∨ e.k = 6) ∨ e.i = 0) ∧ ((e.k = 2 ∨ e.k = 4 ∨ e.k = 7) ∨ e.n = 0) ∧ ((e.k = 1 ∨ e.k = 3) ∨ e.d.size = 0))) : true = evB e := by
  unfold evB hasI hasN hasD
  simp only [decide_eq_true_eq]
  exact (decide_eq_true h).symm

set_option maxHeartbeats 4000000 in
set_option maxRecDepth 100000 in
theorem lawRight_calls (e : Ev) (w : World) : Calls Try.prog 11 #[evV e] w fun r w' => r = .returned (.bool (evB e)) ∧ Below w.heap.size w w' := by
  unfold evV
  obtain ⟨k, i, n, d⟩ := e
  dsimp only
  by_cases c0 : k < 0
  · have t0 : decide (k < 0) = true := decide_eq_true c0
    have HF : Aside0 (false = evB ⟨k, i, n, d⟩) := ⟨evB_false (by dsimp only; omega)⟩
    clear c0
    go_enter Try.func11, Try.ntmps11
    go_wp2
    go_returns
    exact ⟨congrArg (fun b => Ending.returned (.bool b)) HF.out, below_alloc (Below.refl _ _) _⟩
  have t0 : decide (k < 0) = false := decide_eq_false c0
  by_cases c1 : 7 < k
  · have t1 : decide (7 < k) = true := decide_eq_true c1
    have HF : Aside0 (false = evB ⟨k, i, n, d⟩) := ⟨evB_false (by dsimp only; omega)⟩
    clear c0 c1
    go_enter Try.func11, Try.ntmps11
    go_wp2
    go_returns
    exact ⟨congrArg (fun b => Ending.returned (.bool b)) HF.out, below_alloc (Below.refl _ _) _⟩
  have t1 : decide (7 < k) = false := decide_eq_false c1
  by_cases c2 : i < 0
  · have t2 : decide (i < 0) = true := decide_eq_true c2
    have HF : Aside0 (false = evB ⟨k, i, n, d⟩) := ⟨evB_false (by dsimp only; omega)⟩
    clear c0 c1 c2
    go_enter Try.func11, Try.ntmps11
    go_wp2
    go_returns
    exact ⟨congrArg (fun b => Ending.returned (.bool b)) HF.out, below_alloc (Below.refl _ _) _⟩
  have t2 : decide (i < 0) = false := decide_eq_false c2
  by_cases c3 : 255 < i
  · have t3 : decide (255 < i) = true := decide_eq_true c3
    have HF : Aside0 (false = evB ⟨k, i, n, d⟩) := ⟨evB_false (by dsimp only; omega)⟩
    clear c0 c1 c2 c3
    go_enter Try.func11, Try.ntmps11
    go_wp2
    go_returns
    exact ⟨congrArg (fun b => Ending.returned (.bool b)) HF.out, below_alloc (Below.refl _ _) _⟩
  have t3 : decide (255 < i) = false := decide_eq_false c3
  by_cases c4 : n < 0
  · have t4 : decide (n < 0) = true := decide_eq_true c4
    have HF : Aside0 (false = evB ⟨k, i, n, d⟩) := ⟨evB_false (by dsimp only; omega)⟩
    clear c0 c1 c2 c3 c4
    go_enter Try.func11, Try.ntmps11
    go_wp2
    go_returns
    exact ⟨congrArg (fun b => Ending.returned (.bool b)) HF.out, below_alloc (Below.refl _ _) _⟩
  have t4 : decide (n < 0) = false := decide_eq_false c4
  by_cases c5 : 65536 < n
  · have t5 : decide (65536 < n) = true := decide_eq_true c5
    have HF : Aside0 (false = evB ⟨k, i, n, d⟩) := ⟨evB_false (by dsimp only; omega)⟩
    clear c0 c1 c2 c3 c4 c5
    go_enter Try.func11, Try.ntmps11
    go_wp2
    go_returns
    exact ⟨congrArg (fun b => Ending.returned (.bool b)) HF.out, below_alloc (Below.refl _ _) _⟩
  have t5 : decide (65536 < n) = false := decide_eq_false c5
  by_cases c6 : 4000 < (d.size : Int)
  · have t6 : decide (4000 < (d.size : Int)) = true := decide_eq_true c6
    have HF : Aside0 (false = evB ⟨k, i, n, d⟩) := ⟨evB_false (by dsimp only; omega)⟩
    clear c0 c1 c2 c3 c4 c5 c6
    go_enter Try.func11, Try.ntmps11
    go_wp2
    go_returns
    exact ⟨congrArg (fun b => Ending.returned (.bool b)) HF.out, below_alloc (Below.refl _ _) _⟩
  have t6 : decide (4000 < (d.size : Int)) = false := decide_eq_false c6
  have hk : k = 0 ∨ k = 1 ∨ k = 2 ∨ k = 3 ∨ k = 4 ∨ k = 5 ∨ k = 6 ∨ k = 7 := by omega
  have HC : Aside0 ((0 ≤ i ∧ i ≤ 255) ∧ (0 ≤ n ∧ n ≤ 65536) ∧ d.size ≤ 4000) := ⟨by omega⟩
  have HZ := Aside0.mk (toList_nil d)
  clear c0 c1 c2 c3 c4 c5 c6
  rcases hk with rfl | rfl | rfl | rfl | rfl | rfl | rfl | rfl
  · have n0 : ∀ ty, (Instr.next (.pointer (some ⟨w.heap.size + 1 + 1, 0, none⟩)) true ty).run Try.prog (World.iter ((w.alloc (.cells #[.int .i64 0, .int .i64 i, .int .i64 n, .string d] 30 (0, 0))).alloc (.cells #[.string ⟨#[105]⟩, .string ⟨#[105, 100]⟩, .string ⟨#[105, 110]⟩, .string ⟨#[100]⟩, .string ⟨#[110]⟩, .string ⟨#[]⟩, .string ⟨#[105]⟩, .string ⟨#[110]⟩] 9 (0, 0))) ⟨#[105]⟩ 0) = .ok (.tuple #[.bool true, .int .i64 0, .int .i32 105]) (World.iter ((w.alloc (.cells #[.int .i64 0, .int .i64 i, .int .i64 n, .string d] 30 (0, 0))).alloc (.cells #[.string ⟨#[105]⟩, .string ⟨#[105, 100]⟩, .string ⟨#[105, 110]⟩, .string ⟨#[100]⟩, .string ⟨#[110]⟩, .string ⟨#[]⟩, .string ⟨#[105]⟩, .string ⟨#[110]⟩] 9 (0, 0))) ⟨#[105]⟩ 1) := fun ty => next_at ((w.alloc (.cells #[.int .i64 0, .int .i64 i, .int .i64 n, .string d] 30 (0, 0))).alloc (.cells #[.string ⟨#[105]⟩, .string ⟨#[105, 100]⟩, .string ⟨#[105, 110]⟩, .string ⟨#[100]⟩, .string ⟨#[110]⟩, .string ⟨#[]⟩, .string ⟨#[105]⟩, .string ⟨#[110]⟩] 9 (0, 0))) (w.heap.size + 1 + 1) (by simp) ⟨#[105]⟩ 0 ty 105 (by decide) (by decide) (by decide)
    have n1 : ∀ ty, (Instr.next (.pointer (some ⟨w.heap.size + 1 + 1, 0, none⟩)) true ty).run Try.prog (World.iter ((w.alloc (.cells #[.int .i64 0, .int .i64 i, .int .i64 n, .string d] 30 (0, 0))).alloc (.cells #[.string ⟨#[105]⟩, .string ⟨#[105, 100]⟩, .string ⟨#[105, 110]⟩, .string ⟨#[100]⟩, .string ⟨#[110]⟩, .string ⟨#[]⟩, .string ⟨#[105]⟩, .string ⟨#[110]⟩] 9 (0, 0))) ⟨#[105]⟩ 1) = .ok (.tuple #[.bool false]) (World.iter ((w.alloc (.cells #[.int .i64 0, .int .i64 i, .int .i64 n, .string d] 30 (0, 0))).alloc (.cells #[.string ⟨#[105]⟩, .string ⟨#[105, 100]⟩, .string ⟨#[105, 110]⟩, .string ⟨#[100]⟩, .string ⟨#[110]⟩, .string ⟨#[]⟩, .string ⟨#[105]⟩, .string ⟨#[110]⟩] 9 (0, 0))) ⟨#[105]⟩ 1) := fun ty => next_end ((w.alloc (.cells #[.int .i64 0, .int .i64 i, .int .i64 n, .string d] 30 (0, 0))).alloc (.cells #[.string ⟨#[105]⟩, .string ⟨#[105, 100]⟩, .string ⟨#[105, 110]⟩, .string ⟨#[100]⟩, .string ⟨#[110]⟩, .string ⟨#[]⟩, .string ⟨#[105]⟩, .string ⟨#[110]⟩] 9 (0, 0))) (w.heap.size + 1 + 1) (by simp) ⟨#[105]⟩ 1 ty (by decide)
    have HBK : ∀ (i n : Int) (d : ByteArray), (World.iter ((w.alloc (.cells #[.int .i64 0, .int .i64 i, .int .i64 n, .string d] 30 (0, 0))).alloc (.cells #[.string ⟨#[105]⟩, .string ⟨#[105, 100]⟩, .string ⟨#[105, 110]⟩, .string ⟨#[100]⟩, .string ⟨#[110]⟩, .string ⟨#[]⟩, .string ⟨#[105]⟩, .string ⟨#[110]⟩] 9 (0, 0))) ⟨#[105]⟩ 1).heap[w.heap.size]? = some (.cells #[.int .i64 0, .int .i64 i, .int .i64 n, .string d] 30 (0, 0)) := fun i n d => blk_alloc (blk_alloc (blk_new w _) _) (.stringIter ⟨#[105]⟩ 1)
    have e1 : ∀ i n d, (World.iter ((w.alloc (.cells #[.int .i64 0, .int .i64 i, .int .i64 n, .string d] 30 (0, 0))).alloc (.cells #[.string ⟨#[105]⟩, .string ⟨#[105, 100]⟩, .string ⟨#[105, 110]⟩, .string ⟨#[100]⟩, .string ⟨#[110]⟩, .string ⟨#[]⟩, .string ⟨#[105]⟩, .string ⟨#[110]⟩] 9 (0, 0))) ⟨#[105]⟩ 1).cell? ⟨w.heap.size, 1, none⟩ = some (.int .i64 i) := fun i n d => (blk_cell (HBK i n d) 1).trans rfl
    have e2 : ∀ i n d, (World.iter ((w.alloc (.cells #[.int .i64 0, .int .i64 i, .int .i64 n, .string d] 30 (0, 0))).alloc (.cells #[.string ⟨#[105]⟩, .string ⟨#[105, 100]⟩, .string ⟨#[105, 110]⟩, .string ⟨#[100]⟩, .string ⟨#[110]⟩, .string ⟨#[]⟩, .string ⟨#[105]⟩, .string ⟨#[110]⟩] 9 (0, 0))) ⟨#[105]⟩ 1).cell? ⟨w.heap.size, 2, none⟩ = some (.int .i64 n) := fun i n d => (blk_cell (HBK i n d) 2).trans rfl
    have e3 : ∀ i n d, (World.iter ((w.alloc (.cells #[.int .i64 0, .int .i64 i, .int .i64 n, .string d] 30 (0, 0))).alloc (.cells #[.string ⟨#[105]⟩, .string ⟨#[105, 100]⟩, .string ⟨#[105, 110]⟩, .string ⟨#[100]⟩, .string ⟨#[110]⟩, .string ⟨#[]⟩, .string ⟨#[105]⟩, .string ⟨#[110]⟩] 9 (0, 0))) ⟨#[105]⟩ 1).cell? ⟨w.heap.size, 3, none⟩ = some (.string d) := fun i n d => (blk_cell (HBK i n d) 3).trans rfl
    clear HBK
    go_enter Try.func11, Try.ntmps11
    go_wp2
    refine wp_loop_rounds 2 ?_
    rw [rounds_succ]
    go_wp2
    rw [rounds_succ]
    go_wp2
    all_goals go_returns
    all_goals refine ⟨congrArg (fun b => Ending.returned (.bool b)) ?_, ?_⟩
    all_goals simp only [HZ.out] at *
    all_goals have hc := HC.out
    all_goals first
      | exact below3 _ _ _ (.stringIter _ _)
      | (rw [empty_size]; exact evB_of (by dsimp only; omega))
      | (show false = evB _; exact evB_false (by dsimp only; omega))
      | (show true = evB _; exact evB_true (by dsimp only; omega))
      | (show decide (_) = evB _; exact evB_of (by dsimp only; omega))
  · have n0 : ∀ ty, (Instr.next (.pointer (some ⟨w.heap.size + 1 + 1, 0, none⟩)) true ty).run Try.prog (World.iter ((w.alloc (.cells #[.int .i64 1, .int .i64 i, .int .i64 n, .string d] 30 (0, 0))).alloc (.cells #[.string ⟨#[105]⟩, .string ⟨#[105, 100]⟩, .string ⟨#[105, 110]⟩, .string ⟨#[100]⟩, .string ⟨#[110]⟩, .string ⟨#[]⟩, .string ⟨#[105]⟩, .string ⟨#[110]⟩] 9 (0, 0))) ⟨#[105, 100]⟩ 0) = .ok (.tuple #[.bool true, .int .i64 0, .int .i32 105]) (World.iter ((w.alloc (.cells #[.int .i64 1, .int .i64 i, .int .i64 n, .string d] 30 (0, 0))).alloc (.cells #[.string ⟨#[105]⟩, .string ⟨#[105, 100]⟩, .string ⟨#[105, 110]⟩, .string ⟨#[100]⟩, .string ⟨#[110]⟩, .string ⟨#[]⟩, .string ⟨#[105]⟩, .string ⟨#[110]⟩] 9 (0, 0))) ⟨#[105, 100]⟩ 1) := fun ty => next_at ((w.alloc (.cells #[.int .i64 1, .int .i64 i, .int .i64 n, .string d] 30 (0, 0))).alloc (.cells #[.string ⟨#[105]⟩, .string ⟨#[105, 100]⟩, .string ⟨#[105, 110]⟩, .string ⟨#[100]⟩, .string ⟨#[110]⟩, .string ⟨#[]⟩, .string ⟨#[105]⟩, .string ⟨#[110]⟩] 9 (0, 0))) (w.heap.size + 1 + 1) (by simp) ⟨#[105, 100]⟩ 0 ty 105 (by decide) (by decide) (by decide)
    have n1 : ∀ ty, (Instr.next (.pointer (some ⟨w.heap.size + 1 + 1, 0, none⟩)) true ty).run Try.prog (World.iter ((w.alloc (.cells #[.int .i64 1, .int .i64 i, .int .i64 n, .string d] 30 (0, 0))).alloc (.cells #[.string ⟨#[105]⟩, .string ⟨#[105, 100]⟩, .string ⟨#[105, 110]⟩, .string ⟨#[100]⟩, .string ⟨#[110]⟩, .string ⟨#[]⟩, .string ⟨#[105]⟩, .string ⟨#[110]⟩] 9 (0, 0))) ⟨#[105, 100]⟩ 1) = .ok (.tuple #[.bool true, .int .i64 1, .int .i32 100]) (World.iter ((w.alloc (.cells #[.int .i64 1, .int .i64 i, .int .i64 n, .string d] 30 (0, 0))).alloc (.cells #[.string ⟨#[105]⟩, .string ⟨#[105, 100]⟩, .string ⟨#[105, 110]⟩, .string ⟨#[100]⟩, .string ⟨#[110]⟩, .string ⟨#[]⟩, .string ⟨#[105]⟩, .string ⟨#[110]⟩] 9 (0, 0))) ⟨#[105, 100]⟩ 2) := fun ty => next_at ((w.alloc (.cells #[.int .i64 1, .int .i64 i, .int .i64 n, .string d] 30 (0, 0))).alloc (.cells #[.string ⟨#[105]⟩, .string ⟨#[105, 100]⟩, .string ⟨#[105, 110]⟩, .string ⟨#[100]⟩, .string ⟨#[110]⟩, .string ⟨#[]⟩, .string ⟨#[105]⟩, .string ⟨#[110]⟩] 9 (0, 0))) (w.heap.size + 1 + 1) (by simp) ⟨#[105, 100]⟩ 1 ty 100 (by decide) (by decide) (by decide)
    have n2 : ∀ ty, (Instr.next (.pointer (some ⟨w.heap.size + 1 + 1, 0, none⟩)) true ty).run Try.prog (World.iter ((w.alloc (.cells #[.int .i64 1, .int .i64 i, .int .i64 n, .string d] 30 (0, 0))).alloc (.cells #[.string ⟨#[105]⟩, .string ⟨#[105, 100]⟩, .string ⟨#[105, 110]⟩, .string ⟨#[100]⟩, .string ⟨#[110]⟩, .string ⟨#[]⟩, .string ⟨#[105]⟩, .string ⟨#[110]⟩] 9 (0, 0))) ⟨#[105, 100]⟩ 2) = .ok (.tuple #[.bool false]) (World.iter ((w.alloc (.cells #[.int .i64 1, .int .i64 i, .int .i64 n, .string d] 30 (0, 0))).alloc (.cells #[.string ⟨#[105]⟩, .string ⟨#[105, 100]⟩, .string ⟨#[105, 110]⟩, .string ⟨#[100]⟩, .string ⟨#[110]⟩, .string ⟨#[]⟩, .string ⟨#[105]⟩, .string ⟨#[110]⟩] 9 (0, 0))) ⟨#[105, 100]⟩ 2) := fun ty => next_end ((w.alloc (.cells #[.int .i64 1, .int .i64 i, .int .i64 n, .string d] 30 (0, 0))).alloc (.cells #[.string ⟨#[105]⟩, .string ⟨#[105, 100]⟩, .string ⟨#[105, 110]⟩, .string ⟨#[100]⟩, .string ⟨#[110]⟩, .string ⟨#[]⟩, .string ⟨#[105]⟩, .string ⟨#[110]⟩] 9 (0, 0))) (w.heap.size + 1 + 1) (by simp) ⟨#[105, 100]⟩ 2 ty (by decide)
    have HBK : ∀ (i n : Int) (d : ByteArray), (World.iter ((w.alloc (.cells #[.int .i64 1, .int .i64 i, .int .i64 n, .string d] 30 (0, 0))).alloc (.cells #[.string ⟨#[105]⟩, .string ⟨#[105, 100]⟩, .string ⟨#[105, 110]⟩, .string ⟨#[100]⟩, .string ⟨#[110]⟩, .string ⟨#[]⟩, .string ⟨#[105]⟩, .string ⟨#[110]⟩] 9 (0, 0))) ⟨#[105, 100]⟩ 2).heap[w.heap.size]? = some (.cells #[.int .i64 1, .int .i64 i, .int .i64 n, .string d] 30 (0, 0)) := fun i n d => blk_alloc (blk_alloc (blk_new w _) _) (.stringIter ⟨#[105, 100]⟩ 2)
    have e1 : ∀ i n d, (World.iter ((w.alloc (.cells #[.int .i64 1, .int .i64 i, .int .i64 n, .string d] 30 (0, 0))).alloc (.cells #[.string ⟨#[105]⟩, .string ⟨#[105, 100]⟩, .string ⟨#[105, 110]⟩, .string ⟨#[100]⟩, .string ⟨#[110]⟩, .string ⟨#[]⟩, .string ⟨#[105]⟩, .string ⟨#[110]⟩] 9 (0, 0))) ⟨#[105, 100]⟩ 2).cell? ⟨w.heap.size, 1, none⟩ = some (.int .i64 i) := fun i n d => (blk_cell (HBK i n d) 1).trans rfl
    have e2 : ∀ i n d, (World.iter ((w.alloc (.cells #[.int .i64 1, .int .i64 i, .int .i64 n, .string d] 30 (0, 0))).alloc (.cells #[.string ⟨#[105]⟩, .string ⟨#[105, 100]⟩, .string ⟨#[105, 110]⟩, .string ⟨#[100]⟩, .string ⟨#[110]⟩, .string ⟨#[]⟩, .string ⟨#[105]⟩, .string ⟨#[110]⟩] 9 (0, 0))) ⟨#[105, 100]⟩ 2).cell? ⟨w.heap.size, 2, none⟩ = some (.int .i64 n) := fun i n d => (blk_cell (HBK i n d) 2).trans rfl
    have e3 : ∀ i n d, (World.iter ((w.alloc (.cells #[.int .i64 1, .int .i64 i, .int .i64 n, .string d] 30 (0, 0))).alloc (.cells #[.string ⟨#[105]⟩, .string ⟨#[105, 100]⟩, .string ⟨#[105, 110]⟩, .string ⟨#[100]⟩, .string ⟨#[110]⟩, .string ⟨#[]⟩, .string ⟨#[105]⟩, .string ⟨#[110]⟩] 9 (0, 0))) ⟨#[105, 100]⟩ 2).cell? ⟨w.heap.size, 3, none⟩ = some (.string d) := fun i n d => (blk_cell (HBK i n d) 3).trans rfl
    clear HBK
    go_enter Try.func11, Try.ntmps11
    go_wp2
    refine wp_loop_rounds 3 ?_
    rw [rounds_succ]
    go_wp2
    rw [rounds_succ]
    go_wp2
    rw [rounds_succ]
    go_wp2
    all_goals go_returns
    all_goals refine ⟨congrArg (fun b => Ending.returned (.bool b)) ?_, ?_⟩
    all_goals simp only [HZ.out] at *
    all_goals have hc := HC.out
    all_goals first
      | exact below3 _ _ _ (.stringIter _ _)
      | (rw [empty_size]; exact evB_of (by dsimp only; omega))
      | (show false = evB _; exact evB_false (by dsimp only; omega))
      | (show true = evB _; exact evB_true (by dsimp only; omega))
      | (show decide (_) = evB _; exact evB_of (by dsimp only; omega))
  · have n0 : ∀ ty, (Instr.next (.pointer (some ⟨w.heap.size + 1 + 1, 0, none⟩)) true ty).run Try.prog (World.iter ((w.alloc (.cells #[.int .i64 2, .int .i64 i, .int .i64 n, .string d] 30 (0, 0))).alloc (.cells #[.string ⟨#[105]⟩, .string ⟨#[105, 100]⟩, .string ⟨#[105, 110]⟩, .string ⟨#[100]⟩, .string ⟨#[110]⟩, .string ⟨#[]⟩, .string ⟨#[105]⟩, .string ⟨#[110]⟩] 9 (0, 0))) ⟨#[105, 110]⟩ 0) = .ok (.tuple #[.bool true, .int .i64 0, .int .i32 105]) (World.iter ((w.alloc (.cells #[.int .i64 2, .int .i64 i, .int .i64 n, .string d] 30 (0, 0))).alloc (.cells #[.string ⟨#[105]⟩, .string ⟨#[105, 100]⟩, .string ⟨#[105, 110]⟩, .string ⟨#[100]⟩, .string ⟨#[110]⟩, .string ⟨#[]⟩, .string ⟨#[105]⟩, .string ⟨#[110]⟩] 9 (0, 0))) ⟨#[105, 110]⟩ 1) := fun ty => next_at ((w.alloc (.cells #[.int .i64 2, .int .i64 i, .int .i64 n, .string d] 30 (0, 0))).alloc (.cells #[.string ⟨#[105]⟩, .string ⟨#[105, 100]⟩, .string ⟨#[105, 110]⟩, .string ⟨#[100]⟩, .string ⟨#[110]⟩, .string ⟨#[]⟩, .string ⟨#[105]⟩, .string ⟨#[110]⟩] 9 (0, 0))) (w.heap.size + 1 + 1) (by simp) ⟨#[105, 110]⟩ 0 ty 105 (by decide) (by decide) (by decide)
    have n1 : ∀ ty, (Instr.next (.pointer (some ⟨w.heap.size + 1 + 1, 0, none⟩)) true ty).run Try.prog (World.iter ((w.alloc (.cells #[.int .i64 2, .int .i64 i, .int .i64 n, .string d] 30 (0, 0))).alloc (.cells #[.string ⟨#[105]⟩, .string ⟨#[105, 100]⟩, .string ⟨#[105, 110]⟩, .string ⟨#[100]⟩, .string ⟨#[110]⟩, .string ⟨#[]⟩, .string ⟨#[105]⟩, .string ⟨#[110]⟩] 9 (0, 0))) ⟨#[105, 110]⟩ 1) = .ok (.tuple #[.bool true, .int .i64 1, .int .i32 110]) (World.iter ((w.alloc (.cells #[.int .i64 2, .int .i64 i, .int .i64 n, .string d] 30 (0, 0))).alloc (.cells #[.string ⟨#[105]⟩, .string ⟨#[105, 100]⟩, .string ⟨#[105, 110]⟩, .string ⟨#[100]⟩, .string ⟨#[110]⟩, .string ⟨#[]⟩, .string ⟨#[105]⟩, .string ⟨#[110]⟩] 9 (0, 0))) ⟨#[105, 110]⟩ 2) := fun ty => next_at ((w.alloc (.cells #[.int .i64 2, .int .i64 i, .int .i64 n, .string d] 30 (0, 0))).alloc (.cells #[.string ⟨#[105]⟩, .string ⟨#[105, 100]⟩, .string ⟨#[105, 110]⟩, .string ⟨#[100]⟩, .string ⟨#[110]⟩, .string ⟨#[]⟩, .string ⟨#[105]⟩, .string ⟨#[110]⟩] 9 (0, 0))) (w.heap.size + 1 + 1) (by simp) ⟨#[105, 110]⟩ 1 ty 110 (by decide) (by decide) (by decide)
    have n2 : ∀ ty, (Instr.next (.pointer (some ⟨w.heap.size + 1 + 1, 0, none⟩)) true ty).run Try.prog (World.iter ((w.alloc (.cells #[.int .i64 2, .int .i64 i, .int .i64 n, .string d] 30 (0, 0))).alloc (.cells #[.string ⟨#[105]⟩, .string ⟨#[105, 100]⟩, .string ⟨#[105, 110]⟩, .string ⟨#[100]⟩, .string ⟨#[110]⟩, .string ⟨#[]⟩, .string ⟨#[105]⟩, .string ⟨#[110]⟩] 9 (0, 0))) ⟨#[105, 110]⟩ 2) = .ok (.tuple #[.bool false]) (World.iter ((w.alloc (.cells #[.int .i64 2, .int .i64 i, .int .i64 n, .string d] 30 (0, 0))).alloc (.cells #[.string ⟨#[105]⟩, .string ⟨#[105, 100]⟩, .string ⟨#[105, 110]⟩, .string ⟨#[100]⟩, .string ⟨#[110]⟩, .string ⟨#[]⟩, .string ⟨#[105]⟩, .string ⟨#[110]⟩] 9 (0, 0))) ⟨#[105, 110]⟩ 2) := fun ty => next_end ((w.alloc (.cells #[.int .i64 2, .int .i64 i, .int .i64 n, .string d] 30 (0, 0))).alloc (.cells #[.string ⟨#[105]⟩, .string ⟨#[105, 100]⟩, .string ⟨#[105, 110]⟩, .string ⟨#[100]⟩, .string ⟨#[110]⟩, .string ⟨#[]⟩, .string ⟨#[105]⟩, .string ⟨#[110]⟩] 9 (0, 0))) (w.heap.size + 1 + 1) (by simp) ⟨#[105, 110]⟩ 2 ty (by decide)
    have HBK : ∀ (i n : Int) (d : ByteArray), (World.iter ((w.alloc (.cells #[.int .i64 2, .int .i64 i, .int .i64 n, .string d] 30 (0, 0))).alloc (.cells #[.string ⟨#[105]⟩, .string ⟨#[105, 100]⟩, .string ⟨#[105, 110]⟩, .string ⟨#[100]⟩, .string ⟨#[110]⟩, .string ⟨#[]⟩, .string ⟨#[105]⟩, .string ⟨#[110]⟩] 9 (0, 0))) ⟨#[105, 110]⟩ 2).heap[w.heap.size]? = some (.cells #[.int .i64 2, .int .i64 i, .int .i64 n, .string d] 30 (0, 0)) := fun i n d => blk_alloc (blk_alloc (blk_new w _) _) (.stringIter ⟨#[105, 110]⟩ 2)
    have e1 : ∀ i n d, (World.iter ((w.alloc (.cells #[.int .i64 2, .int .i64 i, .int .i64 n, .string d] 30 (0, 0))).alloc (.cells #[.string ⟨#[105]⟩, .string ⟨#[105, 100]⟩, .string ⟨#[105, 110]⟩, .string ⟨#[100]⟩, .string ⟨#[110]⟩, .string ⟨#[]⟩, .string ⟨#[105]⟩, .string ⟨#[110]⟩] 9 (0, 0))) ⟨#[105, 110]⟩ 2).cell? ⟨w.heap.size, 1, none⟩ = some (.int .i64 i) := fun i n d => (blk_cell (HBK i n d) 1).trans rfl
    have e2 : ∀ i n d, (World.iter ((w.alloc (.cells #[.int .i64 2, .int .i64 i, .int .i64 n, .string d] 30 (0, 0))).alloc (.cells #[.string ⟨#[105]⟩, .string ⟨#[105, 100]⟩, .string ⟨#[105, 110]⟩, .string ⟨#[100]⟩, .string ⟨#[110]⟩, .string ⟨#[]⟩, .string ⟨#[105]⟩, .string ⟨#[110]⟩] 9 (0, 0))) ⟨#[105, 110]⟩ 2).cell? ⟨w.heap.size, 2, none⟩ = some (.int .i64 n) := fun i n d => (blk_cell (HBK i n d) 2).trans rfl
    have e3 : ∀ i n d, (World.iter ((w.alloc (.cells #[.int .i64 2, .int .i64 i, .int .i64 n, .string d] 30 (0, 0))).alloc (.cells #[.string ⟨#[105]⟩, .string ⟨#[105, 100]⟩, .string ⟨#[105, 110]⟩, .string ⟨#[100]⟩, .string ⟨#[110]⟩, .string ⟨#[]⟩, .string ⟨#[105]⟩, .string ⟨#[110]⟩] 9 (0, 0))) ⟨#[105, 110]⟩ 2).cell? ⟨w.heap.size, 3, none⟩ = some (.string d) := fun i n d => (blk_cell (HBK i n d) 3).trans rfl
    clear HBK
    go_enter Try.func11, Try.ntmps11
    go_wp2
    refine wp_loop_rounds 3 ?_
    rw [rounds_succ]
    go_wp2
    rw [rounds_succ]
    go_wp2
    rw [rounds_succ]
    go_wp2
    all_goals go_returns
    all_goals refine ⟨congrArg (fun b => Ending.returned (.bool b)) ?_, ?_⟩
    all_goals simp only [HZ.out] at *
    all_goals have hc := HC.out
    all_goals first
      | exact below3 _ _ _ (.stringIter _ _)
      | (rw [empty_size]; exact evB_of (by dsimp only; omega))
      | (show false = evB _; exact evB_false (by dsimp only; omega))
      | (show true = evB _; exact evB_true (by dsimp only; omega))
      | (show decide (_) = evB _; exact evB_of (by dsimp only; omega))
  · have n0 : ∀ ty, (Instr.next (.pointer (some ⟨w.heap.size + 1 + 1, 0, none⟩)) true ty).run Try.prog (World.iter ((w.alloc (.cells #[.int .i64 3, .int .i64 i, .int .i64 n, .string d] 30 (0, 0))).alloc (.cells #[.string ⟨#[105]⟩, .string ⟨#[105, 100]⟩, .string ⟨#[105, 110]⟩, .string ⟨#[100]⟩, .string ⟨#[110]⟩, .string ⟨#[]⟩, .string ⟨#[105]⟩, .string ⟨#[110]⟩] 9 (0, 0))) ⟨#[100]⟩ 0) = .ok (.tuple #[.bool true, .int .i64 0, .int .i32 100]) (World.iter ((w.alloc (.cells #[.int .i64 3, .int .i64 i, .int .i64 n, .string d] 30 (0, 0))).alloc (.cells #[.string ⟨#[105]⟩, .string ⟨#[105, 100]⟩, .string ⟨#[105, 110]⟩, .string ⟨#[100]⟩, .string ⟨#[110]⟩, .string ⟨#[]⟩, .string ⟨#[105]⟩, .string ⟨#[110]⟩] 9 (0, 0))) ⟨#[100]⟩ 1) := fun ty => next_at ((w.alloc (.cells #[.int .i64 3, .int .i64 i, .int .i64 n, .string d] 30 (0, 0))).alloc (.cells #[.string ⟨#[105]⟩, .string ⟨#[105, 100]⟩, .string ⟨#[105, 110]⟩, .string ⟨#[100]⟩, .string ⟨#[110]⟩, .string ⟨#[]⟩, .string ⟨#[105]⟩, .string ⟨#[110]⟩] 9 (0, 0))) (w.heap.size + 1 + 1) (by simp) ⟨#[100]⟩ 0 ty 100 (by decide) (by decide) (by decide)
    have n1 : ∀ ty, (Instr.next (.pointer (some ⟨w.heap.size + 1 + 1, 0, none⟩)) true ty).run Try.prog (World.iter ((w.alloc (.cells #[.int .i64 3, .int .i64 i, .int .i64 n, .string d] 30 (0, 0))).alloc (.cells #[.string ⟨#[105]⟩, .string ⟨#[105, 100]⟩, .string ⟨#[105, 110]⟩, .string ⟨#[100]⟩, .string ⟨#[110]⟩, .string ⟨#[]⟩, .string ⟨#[105]⟩, .string ⟨#[110]⟩] 9 (0, 0))) ⟨#[100]⟩ 1) = .ok (.tuple #[.bool false]) (World.iter ((w.alloc (.cells #[.int .i64 3, .int .i64 i, .int .i64 n, .string d] 30 (0, 0))).alloc (.cells #[.string ⟨#[105]⟩, .string ⟨#[105, 100]⟩, .string ⟨#[105, 110]⟩, .string ⟨#[100]⟩, .string ⟨#[110]⟩, .string ⟨#[]⟩, .string ⟨#[105]⟩, .string ⟨#[110]⟩] 9 (0, 0))) ⟨#[100]⟩ 1) := fun ty => next_end ((w.alloc (.cells #[.int .i64 3, .int .i64 i, .int .i64 n, .string d] 30 (0, 0))).alloc (.cells #[.string ⟨#[105]⟩, .string ⟨#[105, 100]⟩, .string ⟨#[105, 110]⟩, .string ⟨#[100]⟩, .string ⟨#[110]⟩, .string ⟨#[]⟩, .string ⟨#[105]⟩, .string ⟨#[110]⟩] 9 (0, 0))) (w.heap.size + 1 + 1) (by simp) ⟨#[100]⟩ 1 ty (by decide)
    have HBK : ∀ (i n : Int) (d : ByteArray), (World.iter ((w.alloc (.cells #[.int .i64 3, .int .i64 i, .int .i64 n, .string d] 30 (0, 0))).alloc (.cells #[.string ⟨#[105]⟩, .string ⟨#[105, 100]⟩, .string ⟨#[105, 110]⟩, .string ⟨#[100]⟩, .string ⟨#[110]⟩, .string ⟨#[]⟩, .string ⟨#[105]⟩, .string ⟨#[110]⟩] 9 (0, 0))) ⟨#[100]⟩ 1).heap[w.heap.size]? = some (.cells #[.int .i64 3, .int .i64 i, .int .i64 n, .string d] 30 (0, 0)) := fun i n d => blk_alloc (blk_alloc (blk_new w _) _) (.stringIter ⟨#[100]⟩ 1)
    have e1 : ∀ i n d, (World.iter ((w.alloc (.cells #[.int .i64 3, .int .i64 i, .int .i64 n, .string d] 30 (0, 0))).alloc (.cells #[.string ⟨#[105]⟩, .string ⟨#[105, 100]⟩, .string ⟨#[105, 110]⟩, .string ⟨#[100]⟩, .string ⟨#[110]⟩, .string ⟨#[]⟩, .string ⟨#[105]⟩, .string ⟨#[110]⟩] 9 (0, 0))) ⟨#[100]⟩ 1).cell? ⟨w.heap.size, 1, none⟩ = some (.int .i64 i) := fun i n d => (blk_cell (HBK i n d) 1).trans rfl
    have e2 : ∀ i n d, (World.iter ((w.alloc (.cells #[.int .i64 3, .int .i64 i, .int .i64 n, .string d] 30 (0, 0))).alloc (.cells #[.string ⟨#[105]⟩, .string ⟨#[105, 100]⟩, .string ⟨#[105, 110]⟩, .string ⟨#[100]⟩, .string ⟨#[110]⟩, .string ⟨#[]⟩, .string ⟨#[105]⟩, .string ⟨#[110]⟩] 9 (0, 0))) ⟨#[100]⟩ 1).cell? ⟨w.heap.size, 2, none⟩ = some (.int .i64 n) := fun i n d => (blk_cell (HBK i n d) 2).trans rfl
    have e3 : ∀ i n d, (World.iter ((w.alloc (.cells #[.int .i64 3, .int .i64 i, .int .i64 n, .string d] 30 (0, 0))).alloc (.cells #[.string ⟨#[105]⟩, .string ⟨#[105, 100]⟩, .string ⟨#[105, 110]⟩, .string ⟨#[100]⟩, .string ⟨#[110]⟩, .string ⟨#[]⟩, .string ⟨#[105]⟩, .string ⟨#[110]⟩] 9 (0, 0))) ⟨#[100]⟩ 1).cell? ⟨w.heap.size, 3, none⟩ = some (.string d) := fun i n d => (blk_cell (HBK i n d) 3).trans rfl
    clear HBK
    go_enter Try.func11, Try.ntmps11
    go_wp2
    refine wp_loop_rounds 2 ?_
    rw [rounds_succ]
    go_wp2
    rw [rounds_succ]
    go_wp2
    all_goals go_returns
    all_goals refine ⟨congrArg (fun b => Ending.returned (.bool b)) ?_, ?_⟩
    all_goals simp only [HZ.out] at *
    all_goals have hc := HC.out
    all_goals first
      | exact below3 _ _ _ (.stringIter _ _)
      | (rw [empty_size]; exact evB_of (by dsimp only; omega))
      | (show false = evB _; exact evB_false (by dsimp only; omega))
      | (show true = evB _; exact evB_true (by dsimp only; omega))
      | (show decide (_) = evB _; exact evB_of (by dsimp only; omega))
  · have n0 : ∀ ty, (Instr.next (.pointer (some ⟨w.heap.size + 1 + 1, 0, none⟩)) true ty).run Try.prog (World.iter ((w.alloc (.cells #[.int .i64 4, .int .i64 i, .int .i64 n, .string d] 30 (0, 0))).alloc (.cells #[.string ⟨#[105]⟩, .string ⟨#[105, 100]⟩, .string ⟨#[105, 110]⟩, .string ⟨#[100]⟩, .string ⟨#[110]⟩, .string ⟨#[]⟩, .string ⟨#[105]⟩, .string ⟨#[110]⟩] 9 (0, 0))) ⟨#[110]⟩ 0) = .ok (.tuple #[.bool true, .int .i64 0, .int .i32 110]) (World.iter ((w.alloc (.cells #[.int .i64 4, .int .i64 i, .int .i64 n, .string d] 30 (0, 0))).alloc (.cells #[.string ⟨#[105]⟩, .string ⟨#[105, 100]⟩, .string ⟨#[105, 110]⟩, .string ⟨#[100]⟩, .string ⟨#[110]⟩, .string ⟨#[]⟩, .string ⟨#[105]⟩, .string ⟨#[110]⟩] 9 (0, 0))) ⟨#[110]⟩ 1) := fun ty => next_at ((w.alloc (.cells #[.int .i64 4, .int .i64 i, .int .i64 n, .string d] 30 (0, 0))).alloc (.cells #[.string ⟨#[105]⟩, .string ⟨#[105, 100]⟩, .string ⟨#[105, 110]⟩, .string ⟨#[100]⟩, .string ⟨#[110]⟩, .string ⟨#[]⟩, .string ⟨#[105]⟩, .string ⟨#[110]⟩] 9 (0, 0))) (w.heap.size + 1 + 1) (by simp) ⟨#[110]⟩ 0 ty 110 (by decide) (by decide) (by decide)
    have n1 : ∀ ty, (Instr.next (.pointer (some ⟨w.heap.size + 1 + 1, 0, none⟩)) true ty).run Try.prog (World.iter ((w.alloc (.cells #[.int .i64 4, .int .i64 i, .int .i64 n, .string d] 30 (0, 0))).alloc (.cells #[.string ⟨#[105]⟩, .string ⟨#[105, 100]⟩, .string ⟨#[105, 110]⟩, .string ⟨#[100]⟩, .string ⟨#[110]⟩, .string ⟨#[]⟩, .string ⟨#[105]⟩, .string ⟨#[110]⟩] 9 (0, 0))) ⟨#[110]⟩ 1) = .ok (.tuple #[.bool false]) (World.iter ((w.alloc (.cells #[.int .i64 4, .int .i64 i, .int .i64 n, .string d] 30 (0, 0))).alloc (.cells #[.string ⟨#[105]⟩, .string ⟨#[105, 100]⟩, .string ⟨#[105, 110]⟩, .string ⟨#[100]⟩, .string ⟨#[110]⟩, .string ⟨#[]⟩, .string ⟨#[105]⟩, .string ⟨#[110]⟩] 9 (0, 0))) ⟨#[110]⟩ 1) := fun ty => next_end ((w.alloc (.cells #[.int .i64 4, .int .i64 i, .int .i64 n, .string d] 30 (0, 0))).alloc (.cells #[.string ⟨#[105]⟩, .string ⟨#[105, 100]⟩, .string ⟨#[105, 110]⟩, .string ⟨#[100]⟩, .string ⟨#[110]⟩, .string ⟨#[]⟩, .string ⟨#[105]⟩, .string ⟨#[110]⟩] 9 (0, 0))) (w.heap.size + 1 + 1) (by simp) ⟨#[110]⟩ 1 ty (by decide)
    have HBK : ∀ (i n : Int) (d : ByteArray), (World.iter ((w.alloc (.cells #[.int .i64 4, .int .i64 i, .int .i64 n, .string d] 30 (0, 0))).alloc (.cells #[.string ⟨#[105]⟩, .string ⟨#[105, 100]⟩, .string ⟨#[105, 110]⟩, .string ⟨#[100]⟩, .string ⟨#[110]⟩, .string ⟨#[]⟩, .string ⟨#[105]⟩, .string ⟨#[110]⟩] 9 (0, 0))) ⟨#[110]⟩ 1).heap[w.heap.size]? = some (.cells #[.int .i64 4, .int .i64 i, .int .i64 n, .string d] 30 (0, 0)) := fun i n d => blk_alloc (blk_alloc (blk_new w _) _) (.stringIter ⟨#[110]⟩ 1)
    have e1 : ∀ i n d, (World.iter ((w.alloc (.cells #[.int .i64 4, .int .i64 i, .int .i64 n, .string d] 30 (0, 0))).alloc (.cells #[.string ⟨#[105]⟩, .string ⟨#[105, 100]⟩, .string ⟨#[105, 110]⟩, .string ⟨#[100]⟩, .string ⟨#[110]⟩, .string ⟨#[]⟩, .string ⟨#[105]⟩, .string ⟨#[110]⟩] 9 (0, 0))) ⟨#[110]⟩ 1).cell? ⟨w.heap.size, 1, none⟩ = some (.int .i64 i) := fun i n d => (blk_cell (HBK i n d) 1).trans rfl
    have e2 : ∀ i n d, (World.iter ((w.alloc (.cells #[.int .i64 4, .int .i64 i, .int .i64 n, .string d] 30 (0, 0))).alloc (.cells #[.string ⟨#[105]⟩, .string ⟨#[105, 100]⟩, .string ⟨#[105, 110]⟩, .string ⟨#[100]⟩, .string ⟨#[110]⟩, .string ⟨#[]⟩, .string ⟨#[105]⟩, .string ⟨#[110]⟩] 9 (0, 0))) ⟨#[110]⟩ 1).cell? ⟨w.heap.size, 2, none⟩ = some (.int .i64 n) := fun i n d => (blk_cell (HBK i n d) 2).trans rfl
    have e3 : ∀ i n d, (World.iter ((w.alloc (.cells #[.int .i64 4, .int .i64 i, .int .i64 n, .string d] 30 (0, 0))).alloc (.cells #[.string ⟨#[105]⟩, .string ⟨#[105, 100]⟩, .string ⟨#[105, 110]⟩, .string ⟨#[100]⟩, .string ⟨#[110]⟩, .string ⟨#[]⟩, .string ⟨#[105]⟩, .string ⟨#[110]⟩] 9 (0, 0))) ⟨#[110]⟩ 1).cell? ⟨w.heap.size, 3, none⟩ = some (.string d) := fun i n d => (blk_cell (HBK i n d) 3).trans rfl
    clear HBK
    go_enter Try.func11, Try.ntmps11
    go_wp2
    refine wp_loop_rounds 2 ?_
    rw [rounds_succ]
    go_wp2
    rw [rounds_succ]
    go_wp2
    all_goals go_returns
    all_goals refine ⟨congrArg (fun b => Ending.returned (.bool b)) ?_, ?_⟩
    all_goals simp only [HZ.out] at *
    all_goals have hc := HC.out
    all_goals first
      | exact below3 _ _ _ (.stringIter _ _)
      | (rw [empty_size]; exact evB_of (by dsimp only; omega))
      | (show false = evB _; exact evB_false (by dsimp only; omega))
      | (show true = evB _; exact evB_true (by dsimp only; omega))
      | (show decide (_) = evB _; exact evB_of (by dsimp only; omega))
  · have n0 : ∀ ty, (Instr.next (.pointer (some ⟨w.heap.size + 1 + 1, 0, none⟩)) true ty).run Try.prog (World.iter ((w.alloc (.cells #[.int .i64 5, .int .i64 i, .int .i64 n, .string d] 30 (0, 0))).alloc (.cells #[.string ⟨#[105]⟩, .string ⟨#[105, 100]⟩, .string ⟨#[105, 110]⟩, .string ⟨#[100]⟩, .string ⟨#[110]⟩, .string ⟨#[]⟩, .string ⟨#[105]⟩, .string ⟨#[110]⟩] 9 (0, 0))) ⟨#[]⟩ 0) = .ok (.tuple #[.bool false]) (World.iter ((w.alloc (.cells #[.int .i64 5, .int .i64 i, .int .i64 n, .string d] 30 (0, 0))).alloc (.cells #[.string ⟨#[105]⟩, .string ⟨#[105, 100]⟩, .string ⟨#[105, 110]⟩, .string ⟨#[100]⟩, .string ⟨#[110]⟩, .string ⟨#[]⟩, .string ⟨#[105]⟩, .string ⟨#[110]⟩] 9 (0, 0))) ⟨#[]⟩ 0) := fun ty => next_end ((w.alloc (.cells #[.int .i64 5, .int .i64 i, .int .i64 n, .string d] 30 (0, 0))).alloc (.cells #[.string ⟨#[105]⟩, .string ⟨#[105, 100]⟩, .string ⟨#[105, 110]⟩, .string ⟨#[100]⟩, .string ⟨#[110]⟩, .string ⟨#[]⟩, .string ⟨#[105]⟩, .string ⟨#[110]⟩] 9 (0, 0))) (w.heap.size + 1 + 1) (by simp) ⟨#[]⟩ 0 ty (by decide)
    have HBK : ∀ (i n : Int) (d : ByteArray), (World.iter ((w.alloc (.cells #[.int .i64 5, .int .i64 i, .int .i64 n, .string d] 30 (0, 0))).alloc (.cells #[.string ⟨#[105]⟩, .string ⟨#[105, 100]⟩, .string ⟨#[105, 110]⟩, .string ⟨#[100]⟩, .string ⟨#[110]⟩, .string ⟨#[]⟩, .string ⟨#[105]⟩, .string ⟨#[110]⟩] 9 (0, 0))) ⟨#[]⟩ 0).heap[w.heap.size]? = some (.cells #[.int .i64 5, .int .i64 i, .int .i64 n, .string d] 30 (0, 0)) := fun i n d => blk_alloc (blk_alloc (blk_new w _) _) (.stringIter ⟨#[]⟩ 0)
    have e1 : ∀ i n d, (World.iter ((w.alloc (.cells #[.int .i64 5, .int .i64 i, .int .i64 n, .string d] 30 (0, 0))).alloc (.cells #[.string ⟨#[105]⟩, .string ⟨#[105, 100]⟩, .string ⟨#[105, 110]⟩, .string ⟨#[100]⟩, .string ⟨#[110]⟩, .string ⟨#[]⟩, .string ⟨#[105]⟩, .string ⟨#[110]⟩] 9 (0, 0))) ⟨#[]⟩ 0).cell? ⟨w.heap.size, 1, none⟩ = some (.int .i64 i) := fun i n d => (blk_cell (HBK i n d) 1).trans rfl
    have e2 : ∀ i n d, (World.iter ((w.alloc (.cells #[.int .i64 5, .int .i64 i, .int .i64 n, .string d] 30 (0, 0))).alloc (.cells #[.string ⟨#[105]⟩, .string ⟨#[105, 100]⟩, .string ⟨#[105, 110]⟩, .string ⟨#[100]⟩, .string ⟨#[110]⟩, .string ⟨#[]⟩, .string ⟨#[105]⟩, .string ⟨#[110]⟩] 9 (0, 0))) ⟨#[]⟩ 0).cell? ⟨w.heap.size, 2, none⟩ = some (.int .i64 n) := fun i n d => (blk_cell (HBK i n d) 2).trans rfl
    have e3 : ∀ i n d, (World.iter ((w.alloc (.cells #[.int .i64 5, .int .i64 i, .int .i64 n, .string d] 30 (0, 0))).alloc (.cells #[.string ⟨#[105]⟩, .string ⟨#[105, 100]⟩, .string ⟨#[105, 110]⟩, .string ⟨#[100]⟩, .string ⟨#[110]⟩, .string ⟨#[]⟩, .string ⟨#[105]⟩, .string ⟨#[110]⟩] 9 (0, 0))) ⟨#[]⟩ 0).cell? ⟨w.heap.size, 3, none⟩ = some (.string d) := fun i n d => (blk_cell (HBK i n d) 3).trans rfl
    clear HBK
    go_enter Try.func11, Try.ntmps11
    go_wp2
    refine wp_loop_rounds 1 ?_
    rw [rounds_succ]
    go_wp2
    all_goals go_returns
    all_goals refine ⟨congrArg (fun b => Ending.returned (.bool b)) ?_, ?_⟩
    all_goals simp only [HZ.out] at *
    all_goals have hc := HC.out
    all_goals first
      | exact below3 _ _ _ (.stringIter _ _)
      | (rw [empty_size]; exact evB_of (by dsimp only; omega))
      | (show false = evB _; exact evB_false (by dsimp only; omega))
      | (show true = evB _; exact evB_true (by dsimp only; omega))
      | (show decide (_) = evB _; exact evB_of (by dsimp only; omega))
  · have n0 : ∀ ty, (Instr.next (.pointer (some ⟨w.heap.size + 1 + 1, 0, none⟩)) true ty).run Try.prog (World.iter ((w.alloc (.cells #[.int .i64 6, .int .i64 i, .int .i64 n, .string d] 30 (0, 0))).alloc (.cells #[.string ⟨#[105]⟩, .string ⟨#[105, 100]⟩, .string ⟨#[105, 110]⟩, .string ⟨#[100]⟩, .string ⟨#[110]⟩, .string ⟨#[]⟩, .string ⟨#[105]⟩, .string ⟨#[110]⟩] 9 (0, 0))) ⟨#[105]⟩ 0) = .ok (.tuple #[.bool true, .int .i64 0, .int .i32 105]) (World.iter ((w.alloc (.cells #[.int .i64 6, .int .i64 i, .int .i64 n, .string d] 30 (0, 0))).alloc (.cells #[.string ⟨#[105]⟩, .string ⟨#[105, 100]⟩, .string ⟨#[105, 110]⟩, .string ⟨#[100]⟩, .string ⟨#[110]⟩, .string ⟨#[]⟩, .string ⟨#[105]⟩, .string ⟨#[110]⟩] 9 (0, 0))) ⟨#[105]⟩ 1) := fun ty => next_at ((w.alloc (.cells #[.int .i64 6, .int .i64 i, .int .i64 n, .string d] 30 (0, 0))).alloc (.cells #[.string ⟨#[105]⟩, .string ⟨#[105, 100]⟩, .string ⟨#[105, 110]⟩, .string ⟨#[100]⟩, .string ⟨#[110]⟩, .string ⟨#[]⟩, .string ⟨#[105]⟩, .string ⟨#[110]⟩] 9 (0, 0))) (w.heap.size + 1 + 1) (by simp) ⟨#[105]⟩ 0 ty 105 (by decide) (by decide) (by decide)
    have n1 : ∀ ty, (Instr.next (.pointer (some ⟨w.heap.size + 1 + 1, 0, none⟩)) true ty).run Try.prog (World.iter ((w.alloc (.cells #[.int .i64 6, .int .i64 i, .int .i64 n, .string d] 30 (0, 0))).alloc (.cells #[.string ⟨#[105]⟩, .string ⟨#[105, 100]⟩, .string ⟨#[105, 110]⟩, .string ⟨#[100]⟩, .string ⟨#[110]⟩, .string ⟨#[]⟩, .string ⟨#[105]⟩, .string ⟨#[110]⟩] 9 (0, 0))) ⟨#[105]⟩ 1) = .ok (.tuple #[.bool false]) (World.iter ((w.alloc (.cells #[.int .i64 6, .int .i64 i, .int .i64 n, .string d] 30 (0, 0))).alloc (.cells #[.string ⟨#[105]⟩, .string ⟨#[105, 100]⟩, .string ⟨#[105, 110]⟩, .string ⟨#[100]⟩, .string ⟨#[110]⟩, .string ⟨#[]⟩, .string ⟨#[105]⟩, .string ⟨#[110]⟩] 9 (0, 0))) ⟨#[105]⟩ 1) := fun ty => next_end ((w.alloc (.cells #[.int .i64 6, .int .i64 i, .int .i64 n, .string d] 30 (0, 0))).alloc (.cells #[.string ⟨#[105]⟩, .string ⟨#[105, 100]⟩, .string ⟨#[105, 110]⟩, .string ⟨#[100]⟩, .string ⟨#[110]⟩, .string ⟨#[]⟩, .string ⟨#[105]⟩, .string ⟨#[110]⟩] 9 (0, 0))) (w.heap.size + 1 + 1) (by simp) ⟨#[105]⟩ 1 ty (by decide)
    have HBK : ∀ (i n : Int) (d : ByteArray), (World.iter ((w.alloc (.cells #[.int .i64 6, .int .i64 i, .int .i64 n, .string d] 30 (0, 0))).alloc (.cells #[.string ⟨#[105]⟩, .string ⟨#[105, 100]⟩, .string ⟨#[105, 110]⟩, .string ⟨#[100]⟩, .string ⟨#[110]⟩, .string ⟨#[]⟩, .string ⟨#[105]⟩, .string ⟨#[110]⟩] 9 (0, 0))) ⟨#[105]⟩ 1).heap[w.heap.size]? = some (.cells #[.int .i64 6, .int .i64 i, .int .i64 n, .string d] 30 (0, 0)) := fun i n d => blk_alloc (blk_alloc (blk_new w _) _) (.stringIter ⟨#[105]⟩ 1)
    have e1 : ∀ i n d, (World.iter ((w.alloc (.cells #[.int .i64 6, .int .i64 i, .int .i64 n, .string d] 30 (0, 0))).alloc (.cells #[.string ⟨#[105]⟩, .string ⟨#[105, 100]⟩, .string ⟨#[105, 110]⟩, .string ⟨#[100]⟩, .string ⟨#[110]⟩, .string ⟨#[]⟩, .string ⟨#[105]⟩, .string ⟨#[110]⟩] 9 (0, 0))) ⟨#[105]⟩ 1).cell? ⟨w.heap.size, 1, none⟩ = some (.int .i64 i) := fun i n d => (blk_cell (HBK i n d) 1).trans rfl
    have e2 : ∀ i n d, (World.iter ((w.alloc (.cells #[.int .i64 6, .int .i64 i, .int .i64 n, .string d] 30 (0, 0))).alloc (.cells #[.string ⟨#[105]⟩, .string ⟨#[105, 100]⟩, .string ⟨#[105, 110]⟩, .string ⟨#[100]⟩, .string ⟨#[110]⟩, .string ⟨#[]⟩, .string ⟨#[105]⟩, .string ⟨#[110]⟩] 9 (0, 0))) ⟨#[105]⟩ 1).cell? ⟨w.heap.size, 2, none⟩ = some (.int .i64 n) := fun i n d => (blk_cell (HBK i n d) 2).trans rfl
    have e3 : ∀ i n d, (World.iter ((w.alloc (.cells #[.int .i64 6, .int .i64 i, .int .i64 n, .string d] 30 (0, 0))).alloc (.cells #[.string ⟨#[105]⟩, .string ⟨#[105, 100]⟩, .string ⟨#[105, 110]⟩, .string ⟨#[100]⟩, .string ⟨#[110]⟩, .string ⟨#[]⟩, .string ⟨#[105]⟩, .string ⟨#[110]⟩] 9 (0, 0))) ⟨#[105]⟩ 1).cell? ⟨w.heap.size, 3, none⟩ = some (.string d) := fun i n d => (blk_cell (HBK i n d) 3).trans rfl
    clear HBK
    go_enter Try.func11, Try.ntmps11
    go_wp2
    refine wp_loop_rounds 2 ?_
    rw [rounds_succ]
    go_wp2
    rw [rounds_succ]
    go_wp2
    all_goals go_returns
    all_goals refine ⟨congrArg (fun b => Ending.returned (.bool b)) ?_, ?_⟩
    all_goals simp only [HZ.out] at *
    all_goals have hc := HC.out
    all_goals first
      | exact below3 _ _ _ (.stringIter _ _)
      | (rw [empty_size]; exact evB_of (by dsimp only; omega))
      | (show false = evB _; exact evB_false (by dsimp only; omega))
      | (show true = evB _; exact evB_true (by dsimp only; omega))
      | (show decide (_) = evB _; exact evB_of (by dsimp only; omega))
  · have n0 : ∀ ty, (Instr.next (.pointer (some ⟨w.heap.size + 1 + 1, 0, none⟩)) true ty).run Try.prog (World.iter ((w.alloc (.cells #[.int .i64 7, .int .i64 i, .int .i64 n, .string d] 30 (0, 0))).alloc (.cells #[.string ⟨#[105]⟩, .string ⟨#[105, 100]⟩, .string ⟨#[105, 110]⟩, .string ⟨#[100]⟩, .string ⟨#[110]⟩, .string ⟨#[]⟩, .string ⟨#[105]⟩, .string ⟨#[110]⟩] 9 (0, 0))) ⟨#[110]⟩ 0) = .ok (.tuple #[.bool true, .int .i64 0, .int .i32 110]) (World.iter ((w.alloc (.cells #[.int .i64 7, .int .i64 i, .int .i64 n, .string d] 30 (0, 0))).alloc (.cells #[.string ⟨#[105]⟩, .string ⟨#[105, 100]⟩, .string ⟨#[105, 110]⟩, .string ⟨#[100]⟩, .string ⟨#[110]⟩, .string ⟨#[]⟩, .string ⟨#[105]⟩, .string ⟨#[110]⟩] 9 (0, 0))) ⟨#[110]⟩ 1) := fun ty => next_at ((w.alloc (.cells #[.int .i64 7, .int .i64 i, .int .i64 n, .string d] 30 (0, 0))).alloc (.cells #[.string ⟨#[105]⟩, .string ⟨#[105, 100]⟩, .string ⟨#[105, 110]⟩, .string ⟨#[100]⟩, .string ⟨#[110]⟩, .string ⟨#[]⟩, .string ⟨#[105]⟩, .string ⟨#[110]⟩] 9 (0, 0))) (w.heap.size + 1 + 1) (by simp) ⟨#[110]⟩ 0 ty 110 (by decide) (by decide) (by decide)
    have n1 : ∀ ty, (Instr.next (.pointer (some ⟨w.heap.size + 1 + 1, 0, none⟩)) true ty).run Try.prog (World.iter ((w.alloc (.cells #[.int .i64 7, .int .i64 i, .int .i64 n, .string d] 30 (0, 0))).alloc (.cells #[.string ⟨#[105]⟩, .string ⟨#[105, 100]⟩, .string ⟨#[105, 110]⟩, .string ⟨#[100]⟩, .string ⟨#[110]⟩, .string ⟨#[]⟩, .string ⟨#[105]⟩, .string ⟨#[110]⟩] 9 (0, 0))) ⟨#[110]⟩ 1) = .ok (.tuple #[.bool false]) (World.iter ((w.alloc (.cells #[.int .i64 7, .int .i64 i, .int .i64 n, .string d] 30 (0, 0))).alloc (.cells #[.string ⟨#[105]⟩, .string ⟨#[105, 100]⟩, .string ⟨#[105, 110]⟩, .string ⟨#[100]⟩, .string ⟨#[110]⟩, .string ⟨#[]⟩, .string ⟨#[105]⟩, .string ⟨#[110]⟩] 9 (0, 0))) ⟨#[110]⟩ 1) := fun ty => next_end ((w.alloc (.cells #[.int .i64 7, .int .i64 i, .int .i64 n, .string d] 30 (0, 0))).alloc (.cells #[.string ⟨#[105]⟩, .string ⟨#[105, 100]⟩, .string ⟨#[105, 110]⟩, .string ⟨#[100]⟩, .string ⟨#[110]⟩, .string ⟨#[]⟩, .string ⟨#[105]⟩, .string ⟨#[110]⟩] 9 (0, 0))) (w.heap.size + 1 + 1) (by simp) ⟨#[110]⟩ 1 ty (by decide)
    have HBK : ∀ (i n : Int) (d : ByteArray), (World.iter ((w.alloc (.cells #[.int .i64 7, .int .i64 i, .int .i64 n, .string d] 30 (0, 0))).alloc (.cells #[.string ⟨#[105]⟩, .string ⟨#[105, 100]⟩, .string ⟨#[105, 110]⟩, .string ⟨#[100]⟩, .string ⟨#[110]⟩, .string ⟨#[]⟩, .string ⟨#[105]⟩, .string ⟨#[110]⟩] 9 (0, 0))) ⟨#[110]⟩ 1).heap[w.heap.size]? = some (.cells #[.int .i64 7, .int .i64 i, .int .i64 n, .string d] 30 (0, 0)) := fun i n d => blk_alloc (blk_alloc (blk_new w _) _) (.stringIter ⟨#[110]⟩ 1)
    have e1 : ∀ i n d, (World.iter ((w.alloc (.cells #[.int .i64 7, .int .i64 i, .int .i64 n, .string d] 30 (0, 0))).alloc (.cells #[.string ⟨#[105]⟩, .string ⟨#[105, 100]⟩, .string ⟨#[105, 110]⟩, .string ⟨#[100]⟩, .string ⟨#[110]⟩, .string ⟨#[]⟩, .string ⟨#[105]⟩, .string ⟨#[110]⟩] 9 (0, 0))) ⟨#[110]⟩ 1).cell? ⟨w.heap.size, 1, none⟩ = some (.int .i64 i) := fun i n d => (blk_cell (HBK i n d) 1).trans rfl
    have e2 : ∀ i n d, (World.iter ((w.alloc (.cells #[.int .i64 7, .int .i64 i, .int .i64 n, .string d] 30 (0, 0))).alloc (.cells #[.string ⟨#[105]⟩, .string ⟨#[105, 100]⟩, .string ⟨#[105, 110]⟩, .string ⟨#[100]⟩, .string ⟨#[110]⟩, .string ⟨#[]⟩, .string ⟨#[105]⟩, .string ⟨#[110]⟩] 9 (0, 0))) ⟨#[110]⟩ 1).cell? ⟨w.heap.size, 2, none⟩ = some (.int .i64 n) := fun i n d => (blk_cell (HBK i n d) 2).trans rfl
    have e3 : ∀ i n d, (World.iter ((w.alloc (.cells #[.int .i64 7, .int .i64 i, .int .i64 n, .string d] 30 (0, 0))).alloc (.cells #[.string ⟨#[105]⟩, .string ⟨#[105, 100]⟩, .string ⟨#[105, 110]⟩, .string ⟨#[100]⟩, .string ⟨#[110]⟩, .string ⟨#[]⟩, .string ⟨#[105]⟩, .string ⟨#[110]⟩] 9 (0, 0))) ⟨#[110]⟩ 1).cell? ⟨w.heap.size, 3, none⟩ = some (.string d) := fun i n d => (blk_cell (HBK i n d) 3).trans rfl
    clear HBK
    go_enter Try.func11, Try.ntmps11
    go_wp2
    refine wp_loop_rounds 2 ?_
    rw [rounds_succ]
    go_wp2
    rw [rounds_succ]
    go_wp2
    all_goals go_returns
    all_goals refine ⟨congrArg (fun b => Ending.returned (.bool b)) ?_, ?_⟩
    all_goals simp only [HZ.out] at *
    all_goals have hc := HC.out
    all_goals first
      | exact below3 _ _ _ (.stringIter _ _)
      | (rw [empty_size]; exact evB_of (by dsimp only; omega))
      | (show false = evB _; exact evB_false (by dsimp only; omega))
      | (show true = evB _; exact evB_true (by dsimp only; omega))
      | (show decide (_) = evB _; exact evB_of (by dsimp only; omega))
end Go.Proofs.Ythhibgkgbcdjnaa.ScrW

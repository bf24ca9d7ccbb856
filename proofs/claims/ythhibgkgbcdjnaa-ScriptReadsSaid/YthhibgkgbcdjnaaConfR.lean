/- What kibitzerlaw13.Right computes: whether each of the eight parts lies within its bounds. -/
import Derived.Test.YthhibgkgbcdjnaaScrP
import Derived.Test.YthhibgkgbcdjnaaProg
import Derived.Test.YthhibgkgbcdjnaaFr
import Derived.Test.YthhibgkgbcdjnaaWLast
import Derived.WalkKit
import Derived.KernelRfl
import Derived.RowKit3
import Derived.Outline
namespace Go.Proofs.Ythhibgkgbcdjnaa.ConfW
open Go.RowKit Go.Proofs.YthhibgkgbcdjnaaW.PrintWords Go.Proofs.YthhibgkgbcdjnaaW.PrintLast Go.Proofs.YthhibgkgbcdjnaaW.PrintMore

def rightB (a0 a1 a2 a3 a4 a5 a6 a7 : Int) : Bool :=
  decide ((1 ≤ a0 ∧ a0 ≤ 65536) ∧ (1 ≤ a1 ∧ a1 ≤ 2042) ∧ (220 ≤ a2 ∧ a2 ≤ 65536) ∧ (1 ≤ a3 ∧ a3 ≤ 65536) ∧ (0 ≤ a4 ∧ a4 ≤ 9) ∧ (1 ≤ a5 ∧ a5 ≤ 1000) ∧ (0 ≤ a6 ∧ a6 ≤ 1000) ∧ (1 ≤ a7 ∧ a7 ≤ 500))
def okTo (a0 a1 a2 a3 a4 a5 a6 a7 : Int) (k : Nat) : Prop :=
  (0 < k → (1 ≤ a0 ∧ a0 ≤ 65536)) ∧ (1 < k → (1 ≤ a1 ∧ a1 ≤ 2042)) ∧ (2 < k → (220 ≤ a2 ∧ a2 ≤ 65536)) ∧ (3 < k → (1 ≤ a3 ∧ a3 ≤ 65536)) ∧ (4 < k → (0 ≤ a4 ∧ a4 ≤ 9)) ∧ (5 < k → (1 ≤ a5 ∧ a5 ≤ 1000)) ∧ (6 < k → (0 ≤ a6 ∧ a6 ≤ 1000)) ∧ (7 < k → (1 ≤ a7 ∧ a7 ≤ 500))
def row24 (a0 a1 a2 a3 a4 a5 a6 a7 : Int) : Array Value := #[.int .i64 a0, .int .i64 1, .int .i64 65536, .int .i64 a1, .int .i64 1, .int .i64 2042, .int .i64 a2, .int .i64 220, .int .i64 65536, .int .i64 a3, .int .i64 1, .int .i64 65536, .int .i64 a4, .int .i64 0, .int .i64 9, .int .i64 a5, .int .i64 1, .int .i64 1000, .int .i64 a6, .int .i64 0, .int .i64 1000, .int .i64 a7, .int .i64 1, .int .i64 500]

theorem post_false {a0 a1 a2 a3 a4 a5 a6 a7 : Int} {w : World} {e : Ending} {w' : World} (he : e = .returned (.bool false)) (hb : Below w.heap.size w w') (hn : ¬ ((1 ≤ a0 ∧ a0 ≤ 65536) ∧ (1 ≤ a1 ∧ a1 ≤ 2042) ∧ (220 ≤ a2 ∧ a2 ≤ 65536) ∧ (1 ≤ a3 ∧ a3 ≤ 65536) ∧ (0 ≤ a4 ∧ a4 ≤ 9) ∧ (1 ≤ a5 ∧ a5 ≤ 1000) ∧ (0 ≤ a6 ∧ a6 ≤ 1000) ∧ (1 ≤ a7 ∧ a7 ≤ 500))) :
    e = .returned (.bool (rightB a0 a1 a2 a3 a4 a5 a6 a7)) ∧ Below w.heap.size w w' := by
  refine ⟨?_, hb⟩
  rw [he, rightB, decide_eq_false hn]

set_option maxRecDepth 100000 in
set_option maxHeartbeats 4000000 in
theorem right_calls (a0 a1 a2 a3 a4 a5 a6 a7 : Int) (w : World) :
    Calls Try.prog 9 #[.agg #[.int .i64 a0, .int .i64 a1, .int .i64 a2, .int .i64 a3, .int .i64 a4, .int .i64 a5, .int .i64 a6, .int .i64 a7]] w fun e w' => e = .returned (.bool (rightB a0 a1 a2 a3 a4 a5 a6 a7)) ∧ Below w.heap.size w w' := by
  go_enter Try.func9, Try.ntmps9
  go_wp2
  go_loopw [5, 33] (fun _ v33 wr => ∃ k : Nat, k ≤ 8 ∧ v33 = .int .i64 k ∧ Below w.heap.size w wr ∧ w.heap.size + 1 < wr.heap.size ∧ wr.heap[w.heap.size + 1]? = some (.cells (row24 a0 a1 a2 a3 a4 a5 a6 a7) 47 (0, 0)) ∧ okTo a0 a1 a2 a3 a4 a5 a6 a7 k) (fun _ i _ => 8 - (intOf i).toNat)
  case atStart =>
    refine ⟨0, by omega, rfl, ((Below.refl _ _).alloc (Nat.le_refl _) _).alloc (by simp) _, by simp, ?_, ?_⟩
    · have := heap_alloc_new (w.alloc (.cells #[.int .i64 a0, .int .i64 a1, .int .i64 a2, .int .i64 a3, .int .i64 a4, .int .i64 a5, .int .i64 a6, .int .i64 a7] 23)) (.cells (row24 a0 a1 a2 a3 a4 a5 a6 a7) 47 (0, 0))
      rw [show (w.alloc (.cells #[.int .i64 a0, .int .i64 a1, .int .i64 a2, .int .i64 a3, .int .i64 a4, .int .i64 a5, .int .i64 a6, .int .i64 a7] 23)).heap.size = w.heap.size + 1 from by simp] at this
      exact this
    · simp [okTo]
  case round =>
    obtain ⟨k, hk, rfl, hB, hsz, hblk, hok⟩ := hrel
    have HOK := Aside0.mk hok
    have HBLK := Aside0.mk hblk
    have HB := Aside0.mk hB
    clear hok hblk hB
    rcases (by omega : k = 0 ∨ k = 1 ∨ k = 2 ∨ k = 3 ∨ k = 4 ∨ k = 5 ∨ k = 6 ∨ k = 7 ∨ k = 8) with rfl | rfl | rfl | rfl | rfl | rfl | rfl | rfl | rfl
    · have c0 : wr.cell? ⟨w.heap.size + 1, 0, none⟩ = some (.int .i64 a0) := (blk_cell HBLK.out 0).trans rfl
      have c1 : wr.cell? ⟨w.heap.size + 1, 1, none⟩ = some (.int .i64 1) := (blk_cell HBLK.out 1).trans rfl
      have c2 : wr.cell? ⟨w.heap.size + 1, 2, none⟩ = some (.int .i64 65536) := (blk_cell HBLK.out 2).trans rfl
      go_wp2
      all_goals first
        | (go_ret; exact post_false rfl (below_alloc HB.out _) (by omega))
        | exact ⟨⟨1, by omega, rfl, below_alloc HB.out _, by simp; omega, blk_alloc HBLK.out _, by have h := HOK.out; unfold okTo at h ⊢; omega⟩, by simp [intOf]⟩
    · have c0 : wr.cell? ⟨w.heap.size + 1, 3, none⟩ = some (.int .i64 a1) := (blk_cell HBLK.out 3).trans rfl
      have c1 : wr.cell? ⟨w.heap.size + 1, 4, none⟩ = some (.int .i64 1) := (blk_cell HBLK.out 4).trans rfl
      have c2 : wr.cell? ⟨w.heap.size + 1, 5, none⟩ = some (.int .i64 2042) := (blk_cell HBLK.out 5).trans rfl
      go_wp2
      all_goals first
        | (go_ret; exact post_false rfl (below_alloc HB.out _) (by omega))
        | exact ⟨⟨2, by omega, rfl, below_alloc HB.out _, by simp; omega, blk_alloc HBLK.out _, by have h := HOK.out; unfold okTo at h ⊢; omega⟩, by simp [intOf]⟩
    · have c0 : wr.cell? ⟨w.heap.size + 1, 6, none⟩ = some (.int .i64 a2) := (blk_cell HBLK.out 6).trans rfl
      have c1 : wr.cell? ⟨w.heap.size + 1, 7, none⟩ = some (.int .i64 220) := (blk_cell HBLK.out 7).trans rfl
      have c2 : wr.cell? ⟨w.heap.size + 1, 8, none⟩ = some (.int .i64 65536) := (blk_cell HBLK.out 8).trans rfl
      go_wp2
      all_goals first
        | (go_ret; exact post_false rfl (below_alloc HB.out _) (by omega))
        | exact ⟨⟨3, by omega, rfl, below_alloc HB.out _, by simp; omega, blk_alloc HBLK.out _, by have h := HOK.out; unfold okTo at h ⊢; omega⟩, by simp [intOf]⟩
    · have c0 : wr.cell? ⟨w.heap.size + 1, 9, none⟩ = some (.int .i64 a3) := (blk_cell HBLK.out 9).trans rfl
      have c1 : wr.cell? ⟨w.heap.size + 1, 10, none⟩ = some (.int .i64 1) := (blk_cell HBLK.out 10).trans rfl
      have c2 : wr.cell? ⟨w.heap.size + 1, 11, none⟩ = some (.int .i64 65536) := (blk_cell HBLK.out 11).trans rfl
      go_wp2
      all_goals first
        | (go_ret; exact post_false rfl (below_alloc HB.out _) (by omega))
        | exact ⟨⟨4, by omega, rfl, below_alloc HB.out _, by simp; omega, blk_alloc HBLK.out _, by have h := HOK.out; unfold okTo at h ⊢; omega⟩, by simp [intOf]⟩
    · have c0 : wr.cell? ⟨w.heap.size + 1, 12, none⟩ = some (.int .i64 a4) := (blk_cell HBLK.out 12).trans rfl
      have c1 : wr.cell? ⟨w.heap.size + 1, 13, none⟩ = some (.int .i64 0) := (blk_cell HBLK.out 13).trans rfl
      have c2 : wr.cell? ⟨w.heap.size + 1, 14, none⟩ = some (.int .i64 9) := (blk_cell HBLK.out 14).trans rfl
      go_wp2
      all_goals first
        | (go_ret; exact post_false rfl (below_alloc HB.out _) (by omega))
        | exact ⟨⟨5, by omega, rfl, below_alloc HB.out _, by simp; omega, blk_alloc HBLK.out _, by have h := HOK.out; unfold okTo at h ⊢; omega⟩, by simp [intOf]⟩
    · have c0 : wr.cell? ⟨w.heap.size + 1, 15, none⟩ = some (.int .i64 a5) := (blk_cell HBLK.out 15).trans rfl
      have c1 : wr.cell? ⟨w.heap.size + 1, 16, none⟩ = some (.int .i64 1) := (blk_cell HBLK.out 16).trans rfl
      have c2 : wr.cell? ⟨w.heap.size + 1, 17, none⟩ = some (.int .i64 1000) := (blk_cell HBLK.out 17).trans rfl
      go_wp2
      all_goals first
        | (go_ret; exact post_false rfl (below_alloc HB.out _) (by omega))
        | exact ⟨⟨6, by omega, rfl, below_alloc HB.out _, by simp; omega, blk_alloc HBLK.out _, by have h := HOK.out; unfold okTo at h ⊢; omega⟩, by simp [intOf]⟩
    · have c0 : wr.cell? ⟨w.heap.size + 1, 18, none⟩ = some (.int .i64 a6) := (blk_cell HBLK.out 18).trans rfl
      have c1 : wr.cell? ⟨w.heap.size + 1, 19, none⟩ = some (.int .i64 0) := (blk_cell HBLK.out 19).trans rfl
      have c2 : wr.cell? ⟨w.heap.size + 1, 20, none⟩ = some (.int .i64 1000) := (blk_cell HBLK.out 20).trans rfl
      go_wp2
      all_goals first
        | (go_ret; exact post_false rfl (below_alloc HB.out _) (by omega))
        | exact ⟨⟨7, by omega, rfl, below_alloc HB.out _, by simp; omega, blk_alloc HBLK.out _, by have h := HOK.out; unfold okTo at h ⊢; omega⟩, by simp [intOf]⟩
    · have c0 : wr.cell? ⟨w.heap.size + 1, 21, none⟩ = some (.int .i64 a7) := (blk_cell HBLK.out 21).trans rfl
      have c1 : wr.cell? ⟨w.heap.size + 1, 22, none⟩ = some (.int .i64 1) := (blk_cell HBLK.out 22).trans rfl
      have c2 : wr.cell? ⟨w.heap.size + 1, 23, none⟩ = some (.int .i64 500) := (blk_cell HBLK.out 23).trans rfl
      go_wp2
      all_goals first
        | (go_ret; exact post_false rfl (below_alloc HB.out _) (by omega))
        | exact ⟨⟨8, by omega, rfl, below_alloc HB.out _, by simp; omega, blk_alloc HBLK.out _, by have h := HOK.out; unfold okTo at h ⊢; omega⟩, by simp [intOf]⟩
    · go_wp2
      go_ret
      refine ⟨?_, HB.out⟩
      have h := HOK.out
      unfold okTo at h
      have hd : rightB a0 a1 a2 a3 a4 a5 a6 a7 = true := decide_eq_true (by omega)
      rw [hd]
      rfl
end Go.Proofs.Ythhibgkgbcdjnaa.ConfW

/- number: a number's bytes behind others. -/
import Derived.Test.YthhibgkgbcdjnaaScrS
import Derived.Test.YthhibgkgbcdjnaaWGuard
import Derived.LoopN
namespace Go.Proofs.Ythhibgkgbcdjnaa.ScrW
open Go.RowKit Go.Proofs.YthhibgkgbcdjnaaW.PrintWords Go.Proofs.YthhibgkgbcdjnaaW.PrintMore Go.Proofs.Ythhibgkgbcdjnaa.Fr Go.Proofs.Ythhibgkgbcdjnaa.ScrP Go.Proofs.Ythhibgkgbcdjnaa.Openers
set_option linter.unusedVariables false
set_option linter.unusedSimpArgs false

/-- the row lies where the other lay, or is new -/
def AtRow (w : World) (v1 v0 : Value) : Prop := v1.ownBlock = v0.ownBlock ∨ ∃ b, v1.ownBlock = some b ∧ w.heap.size ≤ b
theorem num_step {S : Nat → Prop} {w w1 w2 : World} {base : Nat} {v v1 : Value} {e : TypeId} {size n : Nat} {xs : List Value} {o : Obj} (h : Fr S w w1) (hr : w1.ownsRow base e size v n xs) (ht : AtRow w v v1) (hf : Fr (rowOf v) (w1.alloc o) w2) (hb : base ≤ w.heap.size) (hS : ∀ i, rowOf v1 i → S i) : Fr S w w2 :=
  (h.alloc o).trans hf fun i hi hs => by
    rcases ht with ht | ⟨b, hb1, hb2⟩
    · exact hS i (by unfold rowOf at *; rw [← ht]; exact hs)
    · have : b = i := by unfold rowOf at hs; rw [hb1] at hs; exact Option.some.inj hs
      omega
theorem num_at {S : Nat → Prop} {w w1 : World} {v v1 v2 : Value} {o : Obj} (h : Fr S w w1) (ht : AtRow w v v2) (hat : v1.ownBlock = v.ownBlock ∨ ∃ b, v1.ownBlock = some b ∧ (w1.alloc o).heap.size ≤ b) : AtRow w v1 v2 := by
  rcases hat with hat | ⟨b, hb1, hb2⟩
  · unfold AtRow at *; rw [hat]; exact ht
  · have h1 := h.size
    simp at hb2
    exact .inr ⟨b, hb1, by omega⟩

set_option maxHeartbeats 2000000 in
set_option maxRecDepth 100000 in
theorem number3_calls (n : Int) (h0 : 0 ≤ n) (h1 : n ≤ 65536) (base : Nat) (A : Option Addr) (cp : Nat) (xs : List Int) (w : World) (hb : base ≤ w.heap.size) (hl : xs.length ≤ 1000000)
    (ho : w.ownsRow base 5 1 (.slice A xs.length cp) xs.length (nums .u8 xs)) :
    Calls Try.prog 19 #[.slice A xs.length cp, .int .i64 n, .int .i64 3] w fun e w' => ∃ v1, e = .returned v1 ∧ w'.ownsRow base 5 1 v1 (xs ++ be3 n).length (nums .u8 (xs ++ be3 n)) ∧ Fr (rowOf (.slice A xs.length cp)) w w' ∧ AtRow w v1 (.slice A xs.length cp) := by
  have HO0 := Aside0.mk ho
  have HF0 : Aside0 (Fr (rowOf (.slice A xs.length cp)) w w) := ⟨Fr.refl _ _⟩
  have HT0 : Aside0 (AtRow w (.slice A xs.length cp) (.slice A xs.length cp)) := ⟨.inl rfl⟩
  clear ho
  go_enter Try.func19, Try.ntmps19
  go_wp2
  refine wp_loop_rounds 4 ?_
  obtain ⟨x1, hx1⟩ : ∃ x, x = xs ++ [n / 65536] := ⟨_, rfl⟩
  have hlx1 : x1.length ≤ xs.length + 1 := by rw [hx1]; simp
  have HX1 := Aside0.mk hx1
  clear hx1
  rw [rounds_succ]
  go_wp2_with (first | ((with_reducible refine gate_builtin (b := .append) (xs := #[.tmp 14, .tmp 20]) rfl ?_); at_builtin; refine app_nums rfl (.tmp 14) (.tmp 20) 32 5 .u8 1 rfl Try.underlying32 info5 (by decide) base (.slice A xs.length cp) xs [n / 65536] _ 1 1 rfl rfl ?aO ?aR ?aB ?aL ?_; (case aO => exact HO0.out.alloc _); (case aR => exact reads_one w .u8 (n / 65536) 5); (case aB => exact (by rw [World.size_alloc]; omega)); (case aL => exact (by omega)); intro v1 w1 ho1 hf1 hat1; rw [← HX1.out] at ho1; obtain ⟨A1, c1, rfl⟩ := own_slice ho1; have HO1 := Aside0.mk ho1; have HF1 := Aside0.mk (num_step HF0.out HO0.out HT0.out hf1 hb (fun _ h => h)); have HT1 := Aside0.mk (num_at HF0.out HT0.out hat1); have hs1 : w.heap.size ≤ w1.heap.size := (by have h9 := hf1.size; rw [World.size_alloc] at h9; omega); clear ho1 hf1 hat1))
  obtain ⟨x2, hx2⟩ : ∃ x, x = x1 ++ [n / 256 % 256] := ⟨_, rfl⟩
  have hlx2 : x2.length ≤ x1.length + 1 := by rw [hx2]; simp
  have HX2 := Aside0.mk hx2
  clear hx2
  rw [rounds_succ]
  go_wp2_with (first | ((with_reducible refine gate_builtin (b := .append) (xs := #[.tmp 14, .tmp 20]) rfl ?_); at_builtin; refine app_nums rfl (.tmp 14) (.tmp 20) 32 5 .u8 1 rfl Try.underlying32 info5 (by decide) base (.slice A1 x1.length c1) x1 [n / 256 % 256] _ 1 1 rfl rfl ?aO ?aR ?aB ?aL ?_; (case aO => exact HO1.out.alloc _); (case aR => exact reads_one w1 .u8 (n / 256 % 256) 5); (case aB => exact (by rw [World.size_alloc]; omega)); (case aL => exact (by omega)); intro v2 w2 ho1 hf1 hat1; rw [← HX2.out] at ho1; obtain ⟨A2, c2, rfl⟩ := own_slice ho1; have HO2 := Aside0.mk ho1; have HF2 := Aside0.mk (num_step HF1.out HO1.out HT1.out hf1 hb (fun _ h => h)); have HT2 := Aside0.mk (num_at HF1.out HT1.out hat1); have hs2 : w1.heap.size ≤ w2.heap.size := (by have h9 := hf1.size; rw [World.size_alloc] at h9; omega); clear ho1 hf1 hat1))
  obtain ⟨x3, hx3⟩ : ∃ x, x = x2 ++ [n % 256] := ⟨_, rfl⟩
  have hlx3 : x3.length ≤ x2.length + 1 := by rw [hx3]; simp
  have HX3 := Aside0.mk hx3
  clear hx3
  rw [rounds_succ]
  go_wp2_with (first | ((with_reducible refine gate_builtin (b := .append) (xs := #[.tmp 14, .tmp 20]) rfl ?_); at_builtin; refine app_nums rfl (.tmp 14) (.tmp 20) 32 5 .u8 1 rfl Try.underlying32 info5 (by decide) base (.slice A2 x2.length c2) x2 [n % 256] _ 1 1 rfl rfl ?aO ?aR ?aB ?aL ?_; (case aO => exact HO2.out.alloc _); (case aR => exact reads_one w2 .u8 (n % 256) 5); (case aB => exact (by rw [World.size_alloc]; omega)); (case aL => exact (by omega)); intro v3 w3 ho1 hf1 hat1; rw [← HX3.out] at ho1; obtain ⟨A3, c3, rfl⟩ := own_slice ho1; have HO3 := Aside0.mk ho1; have HF3 := Aside0.mk (num_step HF2.out HO2.out HT2.out hf1 hb (fun _ h => h)); have HT3 := Aside0.mk (num_at HF2.out HT2.out hat1); have hs3 : w2.heap.size ≤ w3.heap.size := (by have h9 := hf1.size; rw [World.size_alloc] at h9; omega); clear ho1 hf1 hat1))
  rw [rounds_succ]
  go_wp2
  go_returns
  have hfin : x3 = xs ++ be3 n := by
    rw [HX3.out, HX2.out, HX1.out]
    unfold be3
    rw [show n / 65536 % 256 = n / 65536 by omega]
    simp
  have h1 := HO3.out
  rw [hfin] at h1
  exact ⟨_, rfl, by rw [hfin]; exact h1, HF3.out, HT3.out⟩

set_option maxHeartbeats 2000000 in
set_option maxRecDepth 100000 in
theorem number2_calls (n : Int) (h0 : 0 ≤ n) (h1 : n ≤ 65535) (base : Nat) (A : Option Addr) (cp : Nat) (xs : List Int) (w : World) (hb : base ≤ w.heap.size) (hl : xs.length ≤ 1000000)
    (ho : w.ownsRow base 5 1 (.slice A xs.length cp) xs.length (nums .u8 xs)) :
    Calls Try.prog 19 #[.slice A xs.length cp, .int .i64 n, .int .i64 2] w fun e w' => ∃ v1, e = .returned v1 ∧ w'.ownsRow base 5 1 v1 (xs ++ be2 n).length (nums .u8 (xs ++ be2 n)) ∧ Fr (rowOf (.slice A xs.length cp)) w w' ∧ AtRow w v1 (.slice A xs.length cp) := by
  have HO0 := Aside0.mk ho
  have HF0 : Aside0 (Fr (rowOf (.slice A xs.length cp)) w w) := ⟨Fr.refl _ _⟩
  have HT0 : Aside0 (AtRow w (.slice A xs.length cp) (.slice A xs.length cp)) := ⟨.inl rfl⟩
  clear ho
  go_enter Try.func19, Try.ntmps19
  go_wp2
  refine wp_loop_rounds 3 ?_
  obtain ⟨x1, hx1⟩ : ∃ x, x = xs ++ [n / 256] := ⟨_, rfl⟩
  have hlx1 : x1.length ≤ xs.length + 1 := by rw [hx1]; simp
  have HX1 := Aside0.mk hx1
  clear hx1
  rw [rounds_succ]
  go_wp2_with (first | ((with_reducible refine gate_builtin (b := .append) (xs := #[.tmp 14, .tmp 20]) rfl ?_); at_builtin; refine app_nums rfl (.tmp 14) (.tmp 20) 32 5 .u8 1 rfl Try.underlying32 info5 (by decide) base (.slice A xs.length cp) xs [n / 256] _ 1 1 rfl rfl ?aO ?aR ?aB ?aL ?_; (case aO => exact HO0.out.alloc _); (case aR => exact reads_one w .u8 (n / 256) 5); (case aB => exact (by rw [World.size_alloc]; omega)); (case aL => exact (by omega)); intro v1 w1 ho1 hf1 hat1; rw [← HX1.out] at ho1; obtain ⟨A1, c1, rfl⟩ := own_slice ho1; have HO1 := Aside0.mk ho1; have HF1 := Aside0.mk (num_step HF0.out HO0.out HT0.out hf1 hb (fun _ h => h)); have HT1 := Aside0.mk (num_at HF0.out HT0.out hat1); have hs1 : w.heap.size ≤ w1.heap.size := (by have h9 := hf1.size; rw [World.size_alloc] at h9; omega); clear ho1 hf1 hat1))
  obtain ⟨x2, hx2⟩ : ∃ x, x = x1 ++ [n % 256] := ⟨_, rfl⟩
  have hlx2 : x2.length ≤ x1.length + 1 := by rw [hx2]; simp
  have HX2 := Aside0.mk hx2
  clear hx2
  rw [rounds_succ]
  go_wp2_with (first | ((with_reducible refine gate_builtin (b := .append) (xs := #[.tmp 14, .tmp 20]) rfl ?_); at_builtin; refine app_nums rfl (.tmp 14) (.tmp 20) 32 5 .u8 1 rfl Try.underlying32 info5 (by decide) base (.slice A1 x1.length c1) x1 [n % 256] _ 1 1 rfl rfl ?aO ?aR ?aB ?aL ?_; (case aO => exact HO1.out.alloc _); (case aR => exact reads_one w1 .u8 (n % 256) 5); (case aB => exact (by rw [World.size_alloc]; omega)); (case aL => exact (by omega)); intro v2 w2 ho1 hf1 hat1; rw [← HX2.out] at ho1; obtain ⟨A2, c2, rfl⟩ := own_slice ho1; have HO2 := Aside0.mk ho1; have HF2 := Aside0.mk (num_step HF1.out HO1.out HT1.out hf1 hb (fun _ h => h)); have HT2 := Aside0.mk (num_at HF1.out HT1.out hat1); have hs2 : w1.heap.size ≤ w2.heap.size := (by have h9 := hf1.size; rw [World.size_alloc] at h9; omega); clear ho1 hf1 hat1))
  rw [rounds_succ]
  go_wp2
  go_returns
  have hfin : x2 = xs ++ be2 n := by
    rw [HX2.out, HX1.out]
    unfold be2
    rw [show n / 256 % 256 = n / 256 by omega]
    simp
  have h1 := HO2.out
  rw [hfin] at h1
  exact ⟨_, rfl, by rw [hfin]; exact h1, HF2.out, HT2.out⟩

end Go.Proofs.Ythhibgkgbcdjnaa.ScrW

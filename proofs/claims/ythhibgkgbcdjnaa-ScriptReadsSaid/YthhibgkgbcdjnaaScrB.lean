/- The statements' own Bytes: a conf and events as bytes. -/
import Derived.Test.YthhibgkgbcdjnaaScrC
namespace Go.Proofs.Ythhibgkgbcdjnaa.ScrW
open Go.RowKit Go.Proofs.YthhibgkgbcdjnaaW.PrintWords Go.Proofs.YthhibgkgbcdjnaaW.PrintMore Go.Proofs.Ythhibgkgbcdjnaa.Fr Go.Proofs.Ythhibgkgbcdjnaa.ScrP Go.Proofs.Ythhibgkgbcdjnaa.Openers
set_option linter.unusedVariables false
set_option linter.unusedSimpArgs false

theorem own_empty (w : World) (b : Nat) (e : TypeId) (hb : b ≤ w.heap.size) : (w.alloc (.cells #[] e)).ownsRow b e 1 (.slice (some ⟨w.heap.size, 0, none⟩) 0 0) 0 [] :=
  ⟨rfl, .inr ⟨w.heap.size, 0, #[], rfl, hb, heap_alloc_new w _, Nat.le_refl _, by simp [maxLen], rfl, rfl⟩⟩
theorem reads_three (w : World) (a b c : Int) (e : TypeId) : ReadsInt (w.alloc (.cells #[.int .u8 a, .int .u8 b, .int .u8 c] e)) .u8 (some ⟨w.heap.size, 0, none⟩) 3 [a, b, c] := reads_lit w .u8 [a, b, c] e (0, 0) (by simp)
theorem reads_two (w : World) (a b : Int) (e : TypeId) : ReadsInt (w.alloc (.cells #[.int .u8 a, .int .u8 b] e)) .u8 (some ⟨w.heap.size, 0, none⟩) 2 [a, b] := reads_lit w .u8 [a, b] e (0, 0) (by simp)
theorem reads_two_at (w : World) (a b : Int) (e : TypeId) (H : Nat) (hH : w.heap.size = H) : ReadsInt (w.alloc (.cells #[.int .u8 a, .int .u8 b] e)) .u8 (some ⟨H, 0, none⟩) 2 [a, b] := by subst hH; exact reads_two w a b e

set_option maxHeartbeats 2000000 in
set_option maxRecDepth 100000 in
theorem bytes_calls (c : Cf) (L : List Ev) (A : Option Addr) (cp : Nat) (w : World) (hr : ReadsEv w A L) (hcb : cfB c = true) (hev : ∀ e ∈ L, evB e = true) (hL : L.length ≤ 8200) (hs : sz L ≤ 100000) :
    Calls Try.prog 14 #[cfV c, .slice A L.length cp] w fun e w' => ∃ v, e = .returned v ∧ Fr nope w w' ∧ Owns w w' v (encB c L) := by
  unfold cfV
  have hlm := hr.1
  have HR := Aside0.mk hr
  have HCB := Aside0.mk hcb
  have HEV := Aside0.mk hev
  have HS := Aside0.mk hs
  have H8 := Aside0.mk hL
  clear hr hcb hev hs hL
  go_enter Try.func14, Try.ntmps14
  go_wp2
  have HC : Aside0 ((((w.alloc (.cells (cfCells c) 23)).alloc (.cells #[] 5)).alloc (.cells (cfCells c) 3)).heap[w.heap.size + 1 + 1]? = some (.cells (cfCells c) 3 (0, 0))) := ⟨by
    rw [← World.size_alloc w (.cells (cfCells c) 23), ← World.size_alloc _ (.cells #[] 5)]; exact blk_new _ _⟩
  have HO0 : Aside0 ((((w.alloc (.cells (cfCells c) 23)).alloc (.cells #[] 5)).alloc (.cells (cfCells c) 3)).ownsRow w.heap.size 5 1 (.slice (some ⟨w.heap.size + 1, 0, none⟩) 0 0) 0 (nums .u8 [])) := ⟨by
    rw [← World.size_alloc w (.cells (cfCells c) 23)]; exact (own_empty _ _ _ (by simp)).alloc _⟩
  have HF0 : Aside0 (Fr nope w (((w.alloc (.cells (cfCells c) 23)).alloc (.cells #[] 5)).alloc (.cells (cfCells c) 3))) := ⟨(((Fr.refl _ _).alloc _).alloc _).alloc _⟩
  go_loopw [5, 29] (fun v5 v29 wr => ∃ (k : Nat) (xs : List Int) (A5 : Option Addr) (c5 : Nat), v29 = .int .i64 k ∧ k ≤ 8 ∧ v5 = .slice A5 xs.length c5 ∧ Aside0 (xs = cfPre c k) ∧ xs.length ≤ 24 ∧ Aside0 (wr.ownsRow w.heap.size 5 1 (.slice A5 xs.length c5) xs.length (nums .u8 xs)) ∧ Aside0 (∀ b, (Value.slice A5 xs.length c5).ownBlock = some b → b ≠ w.heap.size + 1 + 1) ∧ Aside0 (wr.heap[w.heap.size + 1 + 1]? = some (.cells (cfCells c) 3 (0, 0))) ∧ Aside0 (Fr nope w wr)) (fun _ i _ => 8 - (intOf i).toNat)
  case atStart => exact ⟨0, [], _, 0, rfl, Nat.zero_le _, rfl, ⟨rfl⟩, Nat.zero_le _, HO0, ⟨fun b hb => by simp [Value.ownBlock] at hb; omega⟩, HC, HF0⟩
  case round =>
    clear HC HO0 HF0
    obtain ⟨k, xs, A5, c5, rfl, hk, rfl, HX, hxl, HO, HNE, HC, HF⟩ := hrel
    by_cases hlt : k < 8
    · have hx := cf_bound HCB.out k hlt
      have p2 : wr.cell? ⟨w.heap.size + 1 + 1, k, none⟩ = some (.int .i64 ((cfL c).getD k 0)) := (blk_cell HC.out k).trans (cfCells_at _ k hlt)
      obtain ⟨x, hxe⟩ : ∃ x, (cfL c).getD k 0 = x := ⟨_, rfl⟩
      rw [hxe] at hx p2
      obtain ⟨ys, hys⟩ : ∃ l, l = xs ++ be3 x := ⟨_, rfl⟩
      have HX2 : Aside0 (ys = cfPre c (k + 1)) := ⟨by rw [hys, cfPre_succ c k x hlt hxe, HX.out]⟩
      have hyl : ys.length ≤ 24 := by rw [HX2.out, cfPre_len c (k + 1) (by omega)]; omega
      have HYS : Aside0 (ys = xs ++ [x / 65536 % 256, x / 256 % 256, x % 256]) := ⟨hys⟩
      have hsz : w.heap.size ≤ wr.heap.size := HF.out.size
      clear hxe hys
      go_wp2_with (first | (go_at_call 22; refine (three_calls x hx.1 hx.2 _).mono ?_; rintro e w3 ⟨rfl, rfl⟩) | ((with_reducible refine gate_builtin (b := .append) (xs := #[.tmp 33, .tmp 35]) rfl ?_); at_builtin; refine app_nums rfl (.tmp 33) (.tmp 35) 32 5 .u8 1 rfl Try.underlying32 info5 (by decide) w.heap.size (.slice A5 xs.length c5) xs [x / 65536 % 256, x / 256 % 256, x % 256] _ 3 3 rfl rfl ?aO ?aR ?aB ?aL ?_; (case aO => exact HO.out.alloc _); (case aR => exact reads_three wr _ _ _ _); (case aB => exact (by rw [World.size_alloc]; omega)); (case aL => exact (by omega)); intro v1 w1 ho1 hf1 hat1; rw [← HYS.out] at ho1; obtain ⟨A1, c1, rfl⟩ := own_slice ho1; have HO1 := Aside0.mk ho1; have HF1 := Aside0.mk ((HF.out.alloc _).trans hf1 (fun i hi hs => absurd (own_old HO.out hs).1 (by omega))); have HC1 := Aside0.mk (hf1.blk (blk_alloc HC.out _) (fun hs => HNE.out _ hs rfl)); have HNE1 := Aside0.mk (ne_row hat1 HNE.out (blk_lt (blk_alloc HC.out _))); clear ho1 hf1 hat1))
      case roundEnd =>
        refine ⟨⟨k + 1, ys, A1, c1, by push_cast; rfl, by omega, rfl, HX2, hyl, HO1, HNE1, HC1, HF1⟩, ?_⟩
        simp only [intOf]
        omega
    · have hk8 : k = 8 := by omega
      have HX8 : Aside0 (xs = cfBytes c ++ flat (L.take 0)) := ⟨by rw [HX.out, hk8]; simp [flat]; rfl⟩
      go_wp2
      go_loopw [5, 40] (fun v5 v40 wr => ∃ (j : Nat) (ys : List Int) (A7 : Option Addr) (c7 : Nat), v40 = .int .i64 j ∧ j ≤ L.length ∧ v5 = .slice A7 ys.length c7 ∧ Aside0 (ys = cfBytes c ++ flat (L.take j)) ∧ Aside0 (wr.ownsRow w.heap.size 5 1 (.slice A7 ys.length c7) ys.length (nums .u8 ys)) ∧ Aside0 (Fr nope w wr)) (fun _ i _ => L.length - (intOf i).toNat)
      case atStart => exact ⟨0, xs, A5, c5, rfl, Nat.zero_le _, rfl, HX8, HO, HF⟩
      case round =>
        clear HX8 HX HO HF HC HNE hxl hk8 hlt hk
        obtain ⟨j, ys, A7, c7, rfl, hj, rfl, HX, HO, HF⟩ := hrel
        by_cases hlt : j < L.length
        · obtain ⟨e, he⟩ : ∃ e, L.getD j ev0 = e := ⟨_, rfl⟩
          obtain ⟨ad, rfl, g0, g1, g2, g3, hsz⟩ := evCells HR.out j hlt e he HF.out
          have hyl : ys.length ≤ 200000 := by
            rw [HX.out, List.length_append, cfBytes_len, flat_len, List.length_take]
            have := sz_le L j hlt e he
            have := HS.out
            have := H8.out
            omega
          have HFT := Aside0.mk (flat_take L j hlt e he)
          have hev := HEV.out e (getD_mem L j hlt e he)
          obtain ⟨⟨hk1, hk2⟩, ⟨hi1, hi2⟩, ⟨hn1, hn2⟩, hd4⟩ := evB_facts hev
          obtain ⟨y1, hy1⟩ : ∃ l, l = ys ++ [e.k, e.i] := ⟨_, rfl⟩
          obtain ⟨y2, hy2⟩ : ∃ l, l = y1 ++ be3 e.n := ⟨_, rfl⟩
          obtain ⟨y3, hy3⟩ : ∃ l, l = y2 ++ [(e.d.size : Int) / 256, (e.d.size : Int) % 256] := ⟨_, rfl⟩
          obtain ⟨y4, hy4⟩ : ∃ l, l = y3 ++ bytesOf e.d := ⟨_, rfl⟩
          have hl1 : y1.length ≤ ys.length + 2 := by rw [hy1]; simp
          have hl2 : y2.length ≤ y1.length + 3 := by rw [hy2]; simp [be3]
          have hl3 : y3.length ≤ y2.length + 2 := by rw [hy3]; simp
          have HX4 : Aside0 (y4 = cfBytes c ++ flat (L.take (j + 1))) := ⟨by rw [HFT.out, hy4, hy3, hy2, hy1, HX.out]; simp only [evBytes, be2]; rw [show e.k % 256 = e.k by omega, show e.i % 256 = e.i by omega, show (e.d.size : Int) / 256 % 256 = (e.d.size : Int) / 256 by omega]; simp⟩
          have HY1 := Aside0.mk hy1
          have HY2 : Aside0 (y2 = y1 ++ [e.n / 65536 % 256, e.n / 256 % 256, e.n % 256]) := ⟨hy2⟩
          have HY3 := Aside0.mk hy3
          have HY4 := Aside0.mk hy4
          have hsw : w.heap.size ≤ wr.heap.size := HF.out.size
          clear hy1 hy2 hy3 hy4 he hev
          have HFA : Aside0 (Fr nope w (wr.alloc (.cells #[.int .i64 e.k, .int .i64 e.i, .int .i64 e.n, .string e.d] 30))) := ⟨HF.out.alloc _⟩
          have HOA : Aside0 ((wr.alloc (.cells #[.int .i64 e.k, .int .i64 e.i, .int .i64 e.n, .string e.d] 30)).ownsRow w.heap.size 5 1 (.slice A7 ys.length c7) ys.length (nums .u8 ys)) := ⟨HO.out.alloc _⟩
          have HBA : Aside0 ((wr.alloc (.cells #[.int .i64 e.k, .int .i64 e.i, .int .i64 e.n, .string e.d] 30)).heap[wr.heap.size]? = some (.cells #[.int .i64 e.k, .int .i64 e.i, .int .i64 e.n, .string e.d] 30 (0, 0))) := ⟨blk_new wr _⟩
          have HNA : Aside0 (∀ b, (Value.slice A7 ys.length c7).ownBlock = some b → b ≠ wr.heap.size) := ⟨fun b hb => by have := (own_old HO.out hb).2; omega⟩
          go_wp2_with (first | ((with_reducible refine gate_builtin (b := .append) (xs := #[.tmp 44, .tmp 51]) rfl ?_); at_builtin; refine app_nums rfl (.tmp 44) (.tmp 51) 32 5 .u8 1 rfl Try.underlying32 info5 (by decide) w.heap.size (.slice A7 ys.length c7) ys [e.k, e.i] _ 2 2 rfl rfl ?aO ?aR ?aB ?aL ?_; (case aO => exact HOA.out.alloc _); (case aR => exact reads_two_at _ _ _ _ _ (by simp)); (case aB => exact (by rw [World.size_alloc, World.size_alloc]; omega)); (case aL => exact (by omega)); intro v4 w4 ho4 hf4 hat4; rw [← HY1.out] at ho4; obtain ⟨A4, c4, rfl⟩ := own_slice ho4; have HO4 := Aside0.mk ho4; have HF4 := Aside0.mk ((HFA.out.alloc _).trans hf4 (fun i hi hs => absurd (own_old HOA.out hs).1 (by omega))); have HB4 := Aside0.mk (hf4.blk (blk_alloc HBA.out _) (fun hs => HNA.out _ hs rfl)); have HN4 := Aside0.mk (ne_row hat4 HNA.out (blk_lt (blk_alloc HBA.out _))); have q2 : w4.cell? ⟨wr.heap.size, 2, none⟩ = some (.int .i64 e.n) := (blk_cell HB4.out 2).trans rfl; clear ho4 hf4 hat4) | (go_at_call 22; refine (three_calls e.n hn1 hn2 _).mono ?_; rintro e3 w3 ⟨rfl, rfl⟩) | ((with_reducible refine gate_builtin (b := .append) (xs := #[.tmp 53, .tmp 56]) rfl ?_); at_builtin; refine app_nums rfl (.tmp 53) (.tmp 56) 32 5 .u8 1 rfl Try.underlying32 info5 (by decide) w.heap.size (.slice A4 y1.length c4) y1 [e.n / 65536 % 256, e.n / 256 % 256, e.n % 256] _ 3 3 rfl rfl ?aO ?aR ?aB ?aL ?_; (case aO => exact HO4.out.alloc _); (case aR => exact reads_three _ _ _ _ _); (case aB => exact (by have := HF4.out.size; rw [World.size_alloc]; omega)); (case aL => exact (by omega)); intro v5 w5 ho5 hf5 hat5; rw [← HY2.out] at ho5; obtain ⟨A5, c5, rfl⟩ := own_slice ho5; have HO5 := Aside0.mk ho5; have HF5 := Aside0.mk ((HF4.out.alloc _).trans hf5 (fun i hi hs => absurd (own_old HO4.out hs).1 (by omega))); have HB5 := Aside0.mk (hf5.blk (blk_alloc HB4.out _) (fun hs => HN4.out _ hs rfl)); have HN5 := Aside0.mk (ne_row hat5 HN4.out (blk_lt (blk_alloc HB4.out _))); have q3 : w5.cell? ⟨wr.heap.size, 3, none⟩ = some (.string e.d) := (blk_cell HB5.out 3).trans rfl; clear ho5 hf5 hat5) | ((with_reducible refine gate_builtin (b := .append) (xs := #[.tmp 58, .tmp 69]) rfl ?_); at_builtin; refine app_nums rfl (.tmp 58) (.tmp 69) 32 5 .u8 1 rfl Try.underlying32 info5 (by decide) w.heap.size (.slice A5 y2.length c5) y2 [(e.d.size : Int) / 256, (e.d.size : Int) % 256] _ 2 2 rfl rfl ?aO ?aR ?aB ?aL ?_; (case aO => exact HO5.out.alloc _); (case aR => exact reads_two_at _ _ _ _ _ (by simp)); (case aB => exact (by have := HF5.out.size; rw [World.size_alloc]; omega)); (case aL => exact (by omega)); intro v6 w6 ho6 hf6 hat6; rw [← HY3.out] at ho6; obtain ⟨A6, c6, rfl⟩ := own_slice ho6; have HO6 := Aside0.mk ho6; have HF6 := Aside0.mk ((HF5.out.alloc _).trans hf6 (fun i hi hs => absurd (own_old HO5.out hs).1 (by omega))); have HB6 := Aside0.mk (hf6.blk (blk_alloc HB5.out _) (fun hs => HN5.out _ hs rfl)); have q6 : w6.cell? ⟨wr.heap.size, 3, none⟩ = some (.string e.d) := (blk_cell HB6.out 3).trans rfl; clear ho6 hf6 hat6) | ((with_reducible refine gate_builtin (b := .append) (xs := #[.tmp 71, .tmp 73]) rfl ?_); at_builtin; refine print_append_str (w0 := w6) w.heap.size rfl (.tmp 71) (.tmp 73) 32 9 5 rfl Try.underlying32 Try.underlying9 info5 (.slice A6 y3.length c6) y3 e.d rfl rfl HO6.out (Below.refl _ _) HF6.out.size (by omega) ?_; intro v7 w7 ho7 hb7 hg7; rw [← HY4.out] at ho7; obtain ⟨A7', c7', rfl⟩ := own_slice ho7; have HO7 := Aside0.mk ho7; have HF7 := Aside0.mk (HF6.out.grown hg7 (fun b hb hlt => absurd (own_old HO6.out hb).1 (by omega))); clear ho7 hb7 hg7))
          case roundEnd =>
            refine ⟨⟨j + 1, y4, A7', c7', by push_cast; rfl, hlt, rfl, HX4, HO7, HF7⟩, ?_⟩
            simp only [intOf]
            omega
        · have hjl : j = L.length := by omega
          have HX9 : Aside0 (ys = encB c L) := ⟨by rw [HX.out, hjl, List.take_length]; rfl⟩
          clear hjl
          go_wp2
          go_returns
          exact ⟨_, rfl, HF.out, by rw [← HX9.out]; exact HO.out⟩
end Go.Proofs.Ythhibgkgbcdjnaa.ScrW

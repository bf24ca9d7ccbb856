/- play: Do. Printed by tools/mkdo.py. -/
import Derived.Test.YtfkamoiamebngaaGreatDoorM20
import Derived.Test.YtfkamoiamebngaaGreatDoorM03
namespace Go.Proofs.YtfkamoiamebngaaGreatDoor.BroW
open Go.RowKit Go.Proofs.YtfkamoiamebngaaGreatDoorW.PrintWords Go.Proofs.YtfkamoiamebngaaGreatDoorW.PrintMore Go.Proofs.YtfkamoiamebngaaGreatDoor.Fr Go.Proofs.YtfkamoiamebngaaGreatDoor.ScrW Go.Proofs.YtfkamoiamebngaaGreatDoor.ScrP Go.Proofs.YtfkamoiamebngaaGreatDoor.Mod
set_option linter.unusedVariables false
set_option linter.unusedSimpArgs false

/-- what came of an event -/
def QD (L : Lay) (o : Own) (w : World) (S : St) (x : Int) (bs : List Int) (e : Ending) (w' : World) : Prop := ∃ L' o', e = .returned (.agg #[.int .i64 x, .string (strOfNums bs)]) ∧ Rep w' L' o' S ∧ L'.bg = L.bg ∧ Step (fun t => t ≠ .no) w o w' o'
theorem conv_out {o : Own} {base : Nat} {v : Value} {bs : List Int} {w : World} (h : v = .slice none 0 0 ∧ bs = [] ∨ BytesOut o base v bs w) : (convert 29 9 v).run Tryz.prog w = .ok (.string (strOfNums bs)) w := by
  rcases h with ⟨rfl, rfl⟩ | h
  · exact string_of_reads Tryz.underlying29 Tryz.underlying5 Tryz.underlying9 (reads_nil w .u8 none)
  · obtain ⟨A, c, rfl⟩ := own_slice h.1
    exact string_of_reads Tryz.underlying29 Tryz.underlying5 Tryz.underlying9 (own_readsInt h.1)
theorem wf255 {i : Int} (h0 : 0 ≤ i) (h1 : i ≤ 255) : (Lit.int .i64 i).wf = true := by simp [Lit.wf, IntKind.min, IntKind.max, IntKind.bits, IntKind.signed]; omega
theorem Step.more {T : Tag → Prop} {w w1 w2 : World} {o o1 : Own} (h : Step T w o w1 o1) {N : Nat → Prop} (hs : Fr N w1 w2) (hN : ∀ b, N b → w.heap.size ≤ b) : Step T w o w2 o1 :=
  ⟨h.old, fun b hb => h.new b (Nat.le_trans hs.size hb), h.fr.trans hs (fun b hb hn => by have := hN b hn; omega)⟩
theorem strOf_nil : (⟨#[]⟩ : ByteArray) = strOfNums [] := rfl

set_option maxRecDepth 100000 in
set_option maxHeartbeats 16000000 in
theorem do_calls (w : World) (L : Lay) (o : Own) (S : St) (e : Ev) (h : Rep w L o S) (hw : WF S) (hl : S.log.length + outLen e ≤ 8100) :
    Calls Tryz.prog 23 #[.pointer (some ⟨L.bg, 0, none⟩), .agg #[.int .i64 e.k, .int .i64 e.i, .int .i64 e.n, .string e.d]] w (QD L o w (Mod.step S e).1 (Mod.step S e).2.1 (Mod.step S e).2.2) := by
  obtain ⟨W0, hW0⟩ : ∃ W0, W0 = (w.alloc (.cells #[.int .i64 e.k, .int .i64 e.i, .int .i64 e.n, .string e.d] 33)).alloc (.cells #[.int .i64 0, .string ⟨#[]⟩] 46) := ⟨_, rfl⟩
  have hf0 : Fr nope w W0 := by rw [hW0]; exact ((Fr.refl nope w).alloc _).alloc _
  have hE : W0.heap[w.heap.size]? = some (.cells #[.int .i64 e.k, .int .i64 e.i, .int .i64 e.n, .string e.d] 33 (0, 0)) := by rw [hW0]; exact blk_alloc (blk_new w _) _
  have hO : W0.heap[w.heap.size + 1]? = some (.cells #[.int .i64 0, .string ⟨#[]⟩] 46 (0, 0)) := by rw [hW0]; exact blk_second w _ _
  have HE := Aside0.mk hE
  have HO := Aside0.mk hO
  have HF0 := Aside0.mk hf0
  have HW0 := Aside0.mk hW0
  have HR := Aside0.mk h
  have HW := Aside0.mk hw
  have HL := Aside0.mk hl
  have hno1 : o w.heap.size = .no := h.fresh _ (Nat.le_refl _)
  have hno2 : o (w.heap.size + 1) = .no := h.fresh _ (by omega)
  have HNO := Aside0.mk (And.intro hno1 hno2)
  have HLT := Aside0.mk (fun i hi => h.lib.1.lt (i := i) hi)
  -- the end of each way
  have hend : ∀ (w2 : World) (L2 : Lay) (o2 : Own) (S2 : St) (v0 v1 : Value), Rep w2 L2 o2 S2 → L2.bg = L.bg → Step (fun t => t ≠ .no) w o w2 o2 → o2 (w.heap.size + 1) = .no → Rep ((w2.setCell ⟨w.heap.size + 1, 0, none⟩ v0).setCell ⟨w.heap.size + 1, 1, none⟩ v1) L2 o2 S2 ∧ L2.bg = L.bg ∧ Step (fun t => t ≠ .no) w o ((w2.setCell ⟨w.heap.size + 1, 0, none⟩ v0).setCell ⟨w.heap.size + 1, 1, none⟩ v1) o2 := fun w2 L2 o2 S2 v0 v1 q1 q2 q3 q4 => by
    have hs := ((Fr.refl (only (w.heap.size + 1)) w2).set (fun _ => rfl) 0 v0).set (fun _ => rfl) 1 v1
    refine ⟨q1.fr hs (fun b hb => ?_), q2, q3.more hs (fun b hb => by rw [show b = w.heap.size + 1 from hb]; omega)⟩
    rw [show b = w.heap.size + 1 from hb]
    exact ⟨q4, fun hl => by have := HLT.out _ hl; omega⟩
  have HEND := Aside0.mk hend
  obtain ⟨S2, hS2⟩ : ∃ S2, S2 = (Mod.step S e).1 := ⟨_, rfl⟩
  obtain ⟨x2, hx2⟩ : ∃ x2, x2 = (Mod.step S e).2.1 := ⟨_, rfl⟩
  obtain ⟨bs2, hbs2⟩ : ∃ b, b = (Mod.step S e).2.2 := ⟨_, rfl⟩
  rw [← hS2, ← hx2, ← hbs2]
  unfold Mod.step at hS2 hx2 hbs2
  clear h hw hl hW0 hE hO hf0 hno1 hno2 hend
  by_cases hev : evB e = true
  case neg =>
    rw [if_neg hev] at hS2 hx2 hbs2
    have HEV : Aside0 (evB e = false) := ⟨by simpa using hev⟩
    have HS2 := Aside0.mk (And.intro hS2 (And.intro hx2 hbs2))
    clear hev hS2 hx2 hbs2
    go_enter Tryz.func23, Tryz.ntmps23
    go_wp2_with (go_at_call 33; rw [← HW0.out]; refine (evRight_calls e _).mono ?_; rintro e1 w1 ⟨rfl, hw1⟩; rw [HEV.out]; have HF1 := Aside0.mk (HF0.out.trans (Fr.of_below (S := nope) hw1) (fun _ _ h => h)); have hB1 := (Fr.of_below (S := nope) hw1).blk HO.out (fun h => h); have hE1 := (Fr.of_below (S := nope) hw1).blk HE.out (fun h => h); have m0 : w1.cell? ⟨w.heap.size, 0, none⟩ = some (.int .i64 e.k) := (blk_cell hE1 0).trans rfl; have m1 : w1.cell? ⟨w.heap.size, 1, none⟩ = some (.int .i64 e.i) := (blk_cell hE1 1).trans rfl; have m2 : w1.cell? ⟨w.heap.size, 2, none⟩ = some (.int .i64 e.n) := (blk_cell hE1 2).trans rfl; have m3 : w1.cell? ⟨w.heap.size, 3, none⟩ = some (.string e.d) := (blk_cell hE1 3).trans rfl; have hel := blk_lt hE1; have p0 : w1.cell? ⟨w.heap.size + 1, 0, none⟩ = some (.int .i64 0) := (blk_cell hB1 0).trans rfl; have p1 : w1.cell? ⟨w.heap.size + 1, 1, none⟩ = some (.string ⟨#[]⟩) := (blk_cell hB1 1).trans rfl; have q0 := blk_frozen hB1 0; have q1 := blk_frozen hB1 1; have hbl := blk_lt hB1; have HB1 := Aside0.mk hB1; clear hw1 hB1 hE1)
    obtain ⟨W4, hW4, z0, z1⟩ := set2 HB1.out (.int .i64 1) (.string ⟨#[]⟩)
    obtain ⟨r1, r2, r3⟩ := HEND.out w1 L o S (.int .i64 1) (.string ⟨#[]⟩) (HR.out.quiet HF1.out) rfl (HR.out.step HF1.out) HNO.out.2
    rw [← hW4] at r1 r3 ⊢
    clear hW4
    refine bodyPost_ret (by simp [results, Tryz.results23, go_sem, z0, z1]; try rfl) rfl ?_
    rw [HS2.out.1, HS2.out.2.1, HS2.out.2.2]
    exact ⟨L, o, rfl, r1, r2, r3⟩
  case pos =>
  rw [if_pos hev] at hS2 hx2 hbs2
  have hfa := evB_facts hev
  have hiw := wf255 hfa.2.1.1 hfa.2.1.2
  have hk0 := hfa.1.1
  have hk7 := hfa.1.2
  have hn0 := hfa.2.2.1.1
  have hn1 := hfa.2.2.1.2
  have hdz := hfa.2.2.2
  have HEV := Aside0.mk hev
  have kcv : ∀ W, (convert 9 29 (.string e.d)).run Tryz.prog W = .ok (.slice (some ⟨W.heap.size, 0, none⟩) e.d.size (grownCap W e.d.size 0 5)) (Lib.bytesWorld W 5 e.d) := fun W => Lib.run_convert_string_bytes W 9 29 5 e.d Tryz.underlying9 Tryz.underlying29 Tryz.underlying5
  clear hev hfa
  by_cases h0 : e.k = 0
  · rw [if_pos h0] at hS2 hx2 hbs2
    have HKE := Aside0.mk h0
    have HS2 := Aside0.mk (And.intro hS2 (And.intro hx2 hbs2))
    clear hS2 hx2 hbs2
    clear h0
    go_enter Tryz.func23, Tryz.ntmps23
    go_wp2_with (first | (go_at_call 33; rw [← HW0.out]; refine (evRight_calls e _).mono ?_; rintro e1 w1 ⟨rfl, hw1⟩; rw [HEV.out]; have HF1 := Aside0.mk (HF0.out.trans (Fr.of_below (S := nope) hw1) (fun _ _ h => h)); have hB1 := (Fr.of_below (S := nope) hw1).blk HO.out (fun h => h); have hE1 := (Fr.of_below (S := nope) hw1).blk HE.out (fun h => h); have m0 : w1.cell? ⟨w.heap.size, 0, none⟩ = some (.int .i64 0) := (blk_cell hE1 0).trans (by rw [← HKE.out]; rfl); have m1 : w1.cell? ⟨w.heap.size, 1, none⟩ = some (.int .i64 e.i) := (blk_cell hE1 1).trans rfl; have m2 : w1.cell? ⟨w.heap.size, 2, none⟩ = some (.int .i64 e.n) := (blk_cell hE1 2).trans rfl; have m3 : w1.cell? ⟨w.heap.size, 3, none⟩ = some (.string e.d) := (blk_cell hE1 3).trans rfl; have hel := blk_lt hE1;  have HB1 := Aside0.mk hB1; clear hw1 hB1 hE1) | (go_at_call 36; refine (bconnect_calls _ L o S e.i (HR.out.quiet HF1.out) HW.out hiw).mono ?_; rintro e2 w2 ⟨L2, o2, rfl, hr2, hb2, hst2⟩; have HST2 := Aside0.mk ((HR.out.step (HF1.out)).trans hst2); have hB1 := hst2.fr.blk (HB1.out) (fun hx => hx HNO.out.2); have p0 : w2.cell? ⟨w.heap.size + 1, 0, none⟩ = some (.int .i64 0) := (blk_cell hB1 0).trans rfl; have p1 : w2.cell? ⟨w.heap.size + 1, 1, none⟩ = some (.string ⟨#[]⟩) := (blk_cell hB1 1).trans rfl; have q0 := blk_frozen hB1 0; have q1 := blk_frozen hB1 1; have hbl := blk_lt hB1; have ho2 : o2 (w.heap.size + 1) = .no := (hst2.old _ (blk_lt HB1.out)).trans HNO.out.2; have HR2 := Aside0.mk (And.intro hr2 (And.intro hb2 ho2)); have HB2 := Aside0.mk hB1; clear hr2 hb2 hst2 ho2 hB1))
    obtain ⟨W4, hW4, z0, z1⟩ := set2 HB2.out (.int .i64 (connectM S e.i).2) (.string ⟨#[]⟩)
    obtain ⟨r1, r2, r3⟩ := HEND.out w2 L2 o2 _ (.int .i64 (connectM S e.i).2) (.string ⟨#[]⟩) HR2.out.1 HR2.out.2.1 HST2.out HR2.out.2.2
    rw [← hW4] at r1 r3 ⊢
    clear hW4
    refine bodyPost_ret (by simp [results, Tryz.results23, go_sem, z0, z1]; try rfl) rfl ?_
    rw [HS2.out.1, HS2.out.2.1, HS2.out.2.2]
    exact ⟨L2, o2, rfl, r1, r2, r3⟩
  rw [if_neg h0] at hS2 hx2 hbs2
  by_cases h1 : e.k = 1
  · rw [if_pos h1] at hS2 hx2 hbs2
    have HKE := Aside0.mk h1
    have HS2 := Aside0.mk (And.intro hS2 (And.intro hx2 hbs2))
    clear hS2 hx2 hbs2
    clear h1
    have hbc : ∀ W cp, Fr nope w W → Calls Tryz.prog 37 #[.pointer (some ⟨L.bg, 0, none⟩), .int .i64 e.i, .slice (some ⟨W.heap.size, 0, none⟩) e.d.size cp] (Lib.bytesWorld W 5 e.d) (QL L o (Lib.bytesWorld W 5 e.d) (bytesM S e.i (bytesOf e.d)).1 (.int .i64 (bytesM S e.i (bytesOf e.d)).2)) := fun W cp hF => by
      have hq := bbytes_calls (Lib.bytesWorld W 5 e.d) L o S e.i (bytesOf e.d) (some ⟨W.heap.size, 0, none⟩) cp (HR.out.quiet (fr_bytes hF _ _)) HW.out hiw (by rw [bytesOf_len]; omega) (bytes_reads W 5 e.d (by omega)) (bytesOf_isB' e.d) (fun ad e => by cases e; exact HR.out.fresh _ hF.size)
      rw [bytesOf_len] at hq
      exact hq
    have HBC := Aside0.mk hbc
    clear hbc
    go_enter Tryz.func23, Tryz.ntmps23
    go_wp2_with (first | (go_at_call 33; rw [← HW0.out]; refine (evRight_calls e _).mono ?_; rintro e1 w1 ⟨rfl, hw1⟩; rw [HEV.out]; have HF1 := Aside0.mk (HF0.out.trans (Fr.of_below (S := nope) hw1) (fun _ _ h => h)); have hB1 := (Fr.of_below (S := nope) hw1).blk HO.out (fun h => h); have hE1 := (Fr.of_below (S := nope) hw1).blk HE.out (fun h => h); have m0 : w1.cell? ⟨w.heap.size, 0, none⟩ = some (.int .i64 1) := (blk_cell hE1 0).trans (by rw [← HKE.out]; rfl); have m1 : w1.cell? ⟨w.heap.size, 1, none⟩ = some (.int .i64 e.i) := (blk_cell hE1 1).trans rfl; have m2 : w1.cell? ⟨w.heap.size, 2, none⟩ = some (.int .i64 e.n) := (blk_cell hE1 2).trans rfl; have m3 : w1.cell? ⟨w.heap.size, 3, none⟩ = some (.string e.d) := (blk_cell hE1 3).trans rfl; have hel := blk_lt hE1;  have HB1 := Aside0.mk hB1; clear hw1 hB1 hE1) | (go_at_call 37; refine (HBC.out w1 _ HF1.out).mono ?_; rintro e2 w2 ⟨L2, o2, rfl, hr2, hb2, hst2⟩; have HST2 := Aside0.mk ((HR.out.step (fr_bytes HF1.out 5 e.d)).trans hst2); have hB1 := hst2.fr.blk (((fr_bytes (Fr.refl nope w1) 5 e.d).blk HB1.out (fun h => h))) (fun hx => hx HNO.out.2); have p0 : w2.cell? ⟨w.heap.size + 1, 0, none⟩ = some (.int .i64 0) := (blk_cell hB1 0).trans rfl; have p1 : w2.cell? ⟨w.heap.size + 1, 1, none⟩ = some (.string ⟨#[]⟩) := (blk_cell hB1 1).trans rfl; have q0 := blk_frozen hB1 0; have q1 := blk_frozen hB1 1; have hbl := blk_lt hB1; have ho2 : o2 (w.heap.size + 1) = .no := (hst2.old _ (blk_lt ((fr_bytes (Fr.refl nope w1) 5 e.d).blk HB1.out (fun h => h)))).trans HNO.out.2; have HR2 := Aside0.mk (And.intro hr2 (And.intro hb2 ho2)); have HB2 := Aside0.mk hB1; clear hr2 hb2 hst2 ho2 hB1))
    obtain ⟨W4, hW4, z0, z1⟩ := set2 HB2.out (.int .i64 (bytesM S e.i (bytesOf e.d)).2) (.string ⟨#[]⟩)
    obtain ⟨r1, r2, r3⟩ := HEND.out w2 L2 o2 _ (.int .i64 (bytesM S e.i (bytesOf e.d)).2) (.string ⟨#[]⟩) HR2.out.1 HR2.out.2.1 HST2.out HR2.out.2.2
    rw [← hW4] at r1 r3 ⊢
    clear hW4
    refine bodyPost_ret (by simp [results, Tryz.results23, go_sem, z0, z1]; try rfl) rfl ?_
    rw [HS2.out.1, HS2.out.2.1, HS2.out.2.2]
    exact ⟨L2, o2, rfl, r1, r2, r3⟩
  rw [if_neg h1] at hS2 hx2 hbs2
  by_cases h2 : e.k = 2
  · rw [if_pos h2] at hS2 hx2 hbs2
    have HKE := Aside0.mk h2
    have HS2 := Aside0.mk (And.intro hS2 (And.intro hx2 hbs2))
    clear hS2 hx2 hbs2
    clear h2
    go_enter Tryz.func23, Tryz.ntmps23
    go_wp2_with (first | (go_at_call 33; rw [← HW0.out]; refine (evRight_calls e _).mono ?_; rintro e1 w1 ⟨rfl, hw1⟩; rw [HEV.out]; have HF1 := Aside0.mk (HF0.out.trans (Fr.of_below (S := nope) hw1) (fun _ _ h => h)); have hB1 := (Fr.of_below (S := nope) hw1).blk HO.out (fun h => h); have hE1 := (Fr.of_below (S := nope) hw1).blk HE.out (fun h => h); have m0 : w1.cell? ⟨w.heap.size, 0, none⟩ = some (.int .i64 2) := (blk_cell hE1 0).trans (by rw [← HKE.out]; rfl); have m1 : w1.cell? ⟨w.heap.size, 1, none⟩ = some (.int .i64 e.i) := (blk_cell hE1 1).trans rfl; have m2 : w1.cell? ⟨w.heap.size, 2, none⟩ = some (.int .i64 e.n) := (blk_cell hE1 2).trans rfl; have m3 : w1.cell? ⟨w.heap.size, 3, none⟩ = some (.string e.d) := (blk_cell hE1 3).trans rfl; have hel := blk_lt hE1;  have HB1 := Aside0.mk hB1; clear hw1 hB1 hE1) | (go_at_call 38; refine (bwrite_calls _ L o S e.i e.n (HR.out.quiet HF1.out) HW.out hiw hn0 (by omega)).mono ?_; rintro e2 w2 ⟨v2, L2, o2, rfl, hr2, hb2, hst2, hv2⟩; have HST2 := Aside0.mk ((HR.out.step (HF1.out)).trans hst2); have hB1 := hst2.fr.blk (HB1.out) (fun hx => hx HNO.out.2); have p0 : w2.cell? ⟨w.heap.size + 1, 0, none⟩ = some (.int .i64 0) := (blk_cell hB1 0).trans rfl; have p1 : w2.cell? ⟨w.heap.size + 1, 1, none⟩ = some (.string ⟨#[]⟩) := (blk_cell hB1 1).trans rfl; have q0 := blk_frozen hB1 0; have q1 := blk_frozen hB1 1; have hbl := blk_lt hB1; have ho2 : o2 (w.heap.size + 1) = .no := (hst2.old _ (blk_lt HB1.out)).trans HNO.out.2; have HR2 := Aside0.mk (And.intro hr2 (And.intro hb2 ho2)); have HB2 := Aside0.mk hB1; have hcv2 := conv_out hv2; clear hr2 hb2 hst2 ho2 hB1 hv2))
    obtain ⟨W4, hW4, z0, z1⟩ := set2 HB2.out (.int .i64 (writeM S e.i e.n).2.2) (.string (strOfNums (writeM S e.i e.n).2.1))
    obtain ⟨r1, r2, r3⟩ := HEND.out w2 L2 o2 _ (.int .i64 (writeM S e.i e.n).2.2) (.string (strOfNums (writeM S e.i e.n).2.1)) HR2.out.1 HR2.out.2.1 HST2.out HR2.out.2.2
    rw [← hW4] at r1 r3 ⊢
    clear hW4
    refine bodyPost_ret (by simp [results, Tryz.results23, go_sem, z0, z1]; try rfl) rfl ?_
    rw [HS2.out.1, HS2.out.2.1, HS2.out.2.2]
    exact ⟨L2, o2, rfl, r1, r2, r3⟩
  rw [if_neg h2] at hS2 hx2 hbs2
  by_cases h3 : e.k = 3
  · rw [if_pos h3] at hS2 hx2 hbs2
    have HKE := Aside0.mk h3
    have HS2 := Aside0.mk (And.intro hS2 (And.intro hx2 hbs2))
    clear hS2 hx2 hbs2
    clear h3
    have hol : (bytesOf e.d).length = outLen e := by rw [bytesOf_len]; unfold outLen; rw [if_pos HKE.out]
    have hbc : ∀ W cp, Fr nope w W → Calls Tryz.prog 39 #[.pointer (some ⟨L.bg, 0, none⟩), .slice (some ⟨W.heap.size, 0, none⟩) e.d.size cp] (Lib.bytesWorld W 5 e.d) (QL L o (Lib.bytesWorld W 5 e.d) (outputM S (bytesOf e.d)).1 (.int .i64 (outputM S (bytesOf e.d)).2)) := fun W cp hF => by
      have hq := boutput_calls (Lib.bytesWorld W 5 e.d) L o S (bytesOf e.d) (some ⟨W.heap.size, 0, none⟩) cp (HR.out.quiet (fr_bytes hF _ _)) HW.out (by rw [hol]; exact HL.out) (bytes_reads W 5 e.d (by omega)) (fun ad e => by cases e; exact HR.out.fresh _ hF.size)
      rw [bytesOf_len] at hq
      exact hq
    have HBC := Aside0.mk hbc
    clear hbc hol
    go_enter Tryz.func23, Tryz.ntmps23
    go_wp2_with (first | (go_at_call 33; rw [← HW0.out]; refine (evRight_calls e _).mono ?_; rintro e1 w1 ⟨rfl, hw1⟩; rw [HEV.out]; have HF1 := Aside0.mk (HF0.out.trans (Fr.of_below (S := nope) hw1) (fun _ _ h => h)); have hB1 := (Fr.of_below (S := nope) hw1).blk HO.out (fun h => h); have hE1 := (Fr.of_below (S := nope) hw1).blk HE.out (fun h => h); have m0 : w1.cell? ⟨w.heap.size, 0, none⟩ = some (.int .i64 3) := (blk_cell hE1 0).trans (by rw [← HKE.out]; rfl); have m1 : w1.cell? ⟨w.heap.size, 1, none⟩ = some (.int .i64 e.i) := (blk_cell hE1 1).trans rfl; have m2 : w1.cell? ⟨w.heap.size, 2, none⟩ = some (.int .i64 e.n) := (blk_cell hE1 2).trans rfl; have m3 : w1.cell? ⟨w.heap.size, 3, none⟩ = some (.string e.d) := (blk_cell hE1 3).trans rfl; have hel := blk_lt hE1;  have HB1 := Aside0.mk hB1; clear hw1 hB1 hE1) | (go_at_call 39; refine (HBC.out w1 _ HF1.out).mono ?_; rintro e2 w2 ⟨L2, o2, rfl, hr2, hb2, hst2⟩; have HST2 := Aside0.mk ((HR.out.step (fr_bytes HF1.out 5 e.d)).trans hst2); have hB1 := hst2.fr.blk (((fr_bytes (Fr.refl nope w1) 5 e.d).blk HB1.out (fun h => h))) (fun hx => hx HNO.out.2); have p0 : w2.cell? ⟨w.heap.size + 1, 0, none⟩ = some (.int .i64 0) := (blk_cell hB1 0).trans rfl; have p1 : w2.cell? ⟨w.heap.size + 1, 1, none⟩ = some (.string ⟨#[]⟩) := (blk_cell hB1 1).trans rfl; have q0 := blk_frozen hB1 0; have q1 := blk_frozen hB1 1; have hbl := blk_lt hB1; have ho2 : o2 (w.heap.size + 1) = .no := (hst2.old _ (blk_lt ((fr_bytes (Fr.refl nope w1) 5 e.d).blk HB1.out (fun h => h)))).trans HNO.out.2; have HR2 := Aside0.mk (And.intro hr2 (And.intro hb2 ho2)); have HB2 := Aside0.mk hB1; clear hr2 hb2 hst2 ho2 hB1))
    obtain ⟨W4, hW4, z0, z1⟩ := set2 HB2.out (.int .i64 (outputM S (bytesOf e.d)).2) (.string ⟨#[]⟩)
    obtain ⟨r1, r2, r3⟩ := HEND.out w2 L2 o2 _ (.int .i64 (outputM S (bytesOf e.d)).2) (.string ⟨#[]⟩) HR2.out.1 HR2.out.2.1 HST2.out HR2.out.2.2
    rw [← hW4] at r1 r3 ⊢
    clear hW4
    refine bodyPost_ret (by simp [results, Tryz.results23, go_sem, z0, z1]; try rfl) rfl ?_
    rw [HS2.out.1, HS2.out.2.1, HS2.out.2.2]
    exact ⟨L2, o2, rfl, r1, r2, r3⟩
  rw [if_neg h3] at hS2 hx2 hbs2
  by_cases h4 : e.k = 4
  · rw [if_pos h4] at hS2 hx2 hbs2
    have HKE := Aside0.mk h4
    have HS2 := Aside0.mk (And.intro hS2 (And.intro hx2 hbs2))
    clear hS2 hx2 hbs2
    clear h4
    go_enter Tryz.func23, Tryz.ntmps23
    go_wp2_with (first | (go_at_call 33; rw [← HW0.out]; refine (evRight_calls e _).mono ?_; rintro e1 w1 ⟨rfl, hw1⟩; rw [HEV.out]; have HF1 := Aside0.mk (HF0.out.trans (Fr.of_below (S := nope) hw1) (fun _ _ h => h)); have hB1 := (Fr.of_below (S := nope) hw1).blk HO.out (fun h => h); have hE1 := (Fr.of_below (S := nope) hw1).blk HE.out (fun h => h); have m0 : w1.cell? ⟨w.heap.size, 0, none⟩ = some (.int .i64 4) := (blk_cell hE1 0).trans (by rw [← HKE.out]; rfl); have m1 : w1.cell? ⟨w.heap.size, 1, none⟩ = some (.int .i64 e.i) := (blk_cell hE1 1).trans rfl; have m2 : w1.cell? ⟨w.heap.size, 2, none⟩ = some (.int .i64 e.n) := (blk_cell hE1 2).trans rfl; have m3 : w1.cell? ⟨w.heap.size, 3, none⟩ = some (.string e.d) := (blk_cell hE1 3).trans rfl; have hel := blk_lt hE1;  have HB1 := Aside0.mk hB1; clear hw1 hB1 hE1) | (go_at_call 40; refine (bdrain_calls _ L o S e.n (HR.out.quiet HF1.out) HW.out hn0 (by omega)).mono ?_; rintro e2 w2 ⟨v2, L2, o2, rfl, hr2, hb2, hst2, hv2⟩; have HST2 := Aside0.mk ((HR.out.step (HF1.out)).trans hst2); have hB1 := hst2.fr.blk (HB1.out) (fun hx => hx HNO.out.2); have p0 : w2.cell? ⟨w.heap.size + 1, 0, none⟩ = some (.int .i64 0) := (blk_cell hB1 0).trans rfl; have p1 : w2.cell? ⟨w.heap.size + 1, 1, none⟩ = some (.string ⟨#[]⟩) := (blk_cell hB1 1).trans rfl; have q0 := blk_frozen hB1 0; have q1 := blk_frozen hB1 1; have hbl := blk_lt hB1; have ho2 : o2 (w.heap.size + 1) = .no := (hst2.old _ (blk_lt HB1.out)).trans HNO.out.2; have HR2 := Aside0.mk (And.intro hr2 (And.intro hb2 ho2)); have HB2 := Aside0.mk hB1; have hcv2 := conv_out hv2; clear hr2 hb2 hst2 ho2 hB1 hv2))
    obtain ⟨W4, hW4, z0, z1⟩ := set2 HB2.out (.int .i64 0) (.string (strOfNums (drainM S e.n).2))
    obtain ⟨r1, r2, r3⟩ := HEND.out w2 L2 o2 _ (.int .i64 0) (.string (strOfNums (drainM S e.n).2)) HR2.out.1 HR2.out.2.1 HST2.out HR2.out.2.2
    rw [← hW4] at r1 r3 ⊢
    clear hW4
    refine bodyPost_ret (by simp [results, Tryz.results23, go_sem, z0, z1]; try rfl) rfl ?_
    rw [HS2.out.1, HS2.out.2.1, HS2.out.2.2]
    exact ⟨L2, o2, rfl, r1, r2, r3⟩
  rw [if_neg h4] at hS2 hx2 hbs2
  by_cases h5 : e.k = 5
  · rw [if_pos h5] at hS2 hx2 hbs2
    have HKE := Aside0.mk h5
    have HS2 := Aside0.mk (And.intro hS2 (And.intro hx2 hbs2))
    clear hS2 hx2 hbs2
    clear h5
    go_enter Tryz.func23, Tryz.ntmps23
    go_wp2_with (first | (go_at_call 33; rw [← HW0.out]; refine (evRight_calls e _).mono ?_; rintro e1 w1 ⟨rfl, hw1⟩; rw [HEV.out]; have HF1 := Aside0.mk (HF0.out.trans (Fr.of_below (S := nope) hw1) (fun _ _ h => h)); have hB1 := (Fr.of_below (S := nope) hw1).blk HO.out (fun h => h); have hE1 := (Fr.of_below (S := nope) hw1).blk HE.out (fun h => h); have m0 : w1.cell? ⟨w.heap.size, 0, none⟩ = some (.int .i64 5) := (blk_cell hE1 0).trans (by rw [← HKE.out]; rfl); have m1 : w1.cell? ⟨w.heap.size, 1, none⟩ = some (.int .i64 e.i) := (blk_cell hE1 1).trans rfl; have m2 : w1.cell? ⟨w.heap.size, 2, none⟩ = some (.int .i64 e.n) := (blk_cell hE1 2).trans rfl; have m3 : w1.cell? ⟨w.heap.size, 3, none⟩ = some (.string e.d) := (blk_cell hE1 3).trans rfl; have hel := blk_lt hE1;  have HB1 := Aside0.mk hB1; clear hw1 hB1 hE1) | (go_at_call 42; refine (btick_calls _ L o S (HR.out.quiet HF1.out) HW.out).mono ?_; rintro e2 w2 ⟨L2, o2, rfl, hr2, hb2, hst2⟩; have HST2 := Aside0.mk ((HR.out.step (HF1.out)).trans hst2); have hB1 := hst2.fr.blk (HB1.out) (fun hx => hx HNO.out.2); have p0 : w2.cell? ⟨w.heap.size + 1, 0, none⟩ = some (.int .i64 0) := (blk_cell hB1 0).trans rfl; have p1 : w2.cell? ⟨w.heap.size + 1, 1, none⟩ = some (.string ⟨#[]⟩) := (blk_cell hB1 1).trans rfl; have q0 := blk_frozen hB1 0; have q1 := blk_frozen hB1 1; have hbl := blk_lt hB1; have ho2 : o2 (w.heap.size + 1) = .no := (hst2.old _ (blk_lt HB1.out)).trans HNO.out.2; have HR2 := Aside0.mk (And.intro hr2 (And.intro hb2 ho2)); have HB2 := Aside0.mk hB1; clear hr2 hb2 hst2 ho2 hB1))
    obtain ⟨W4, hW4, z0, z1⟩ := set2 HB2.out (.int .i64 0) (.string ⟨#[]⟩)
    obtain ⟨r1, r2, r3⟩ := HEND.out w2 L2 o2 _ (.int .i64 0) (.string ⟨#[]⟩) HR2.out.1 HR2.out.2.1 HST2.out HR2.out.2.2
    rw [← hW4] at r1 r3 ⊢
    clear hW4
    refine bodyPost_ret (by simp [results, Tryz.results23, go_sem, z0, z1]; try rfl) rfl ?_
    rw [HS2.out.1, HS2.out.2.1, HS2.out.2.2]
    exact ⟨L2, o2, rfl, r1, r2, r3⟩
  rw [if_neg h5] at hS2 hx2 hbs2
  by_cases h6 : e.k = 6
  · rw [if_pos h6] at hS2 hx2 hbs2
    have HKE := Aside0.mk h6
    have HS2 := Aside0.mk (And.intro hS2 (And.intro hx2 hbs2))
    clear hS2 hx2 hbs2
    clear h6
    go_enter Tryz.func23, Tryz.ntmps23
    go_wp2_with (first | (go_at_call 33; rw [← HW0.out]; refine (evRight_calls e _).mono ?_; rintro e1 w1 ⟨rfl, hw1⟩; rw [HEV.out]; have HF1 := Aside0.mk (HF0.out.trans (Fr.of_below (S := nope) hw1) (fun _ _ h => h)); have hB1 := (Fr.of_below (S := nope) hw1).blk HO.out (fun h => h); have hE1 := (Fr.of_below (S := nope) hw1).blk HE.out (fun h => h); have m0 : w1.cell? ⟨w.heap.size, 0, none⟩ = some (.int .i64 6) := (blk_cell hE1 0).trans (by rw [← HKE.out]; rfl); have m1 : w1.cell? ⟨w.heap.size, 1, none⟩ = some (.int .i64 e.i) := (blk_cell hE1 1).trans rfl; have m2 : w1.cell? ⟨w.heap.size, 2, none⟩ = some (.int .i64 e.n) := (blk_cell hE1 2).trans rfl; have m3 : w1.cell? ⟨w.heap.size, 3, none⟩ = some (.string e.d) := (blk_cell hE1 3).trans rfl; have hel := blk_lt hE1;  have HB1 := Aside0.mk hB1; clear hw1 hB1 hE1) | (go_at_call 43; refine (bcut_calls _ L o S e.i (HR.out.quiet HF1.out) HW.out hiw).mono ?_; rintro e2 w2 ⟨L2, o2, rfl, hr2, hb2, hst2⟩; have HST2 := Aside0.mk ((HR.out.step (HF1.out)).trans hst2); have hB1 := hst2.fr.blk (HB1.out) (fun hx => hx HNO.out.2); have p0 : w2.cell? ⟨w.heap.size + 1, 0, none⟩ = some (.int .i64 0) := (blk_cell hB1 0).trans rfl; have p1 : w2.cell? ⟨w.heap.size + 1, 1, none⟩ = some (.string ⟨#[]⟩) := (blk_cell hB1 1).trans rfl; have q0 := blk_frozen hB1 0; have q1 := blk_frozen hB1 1; have hbl := blk_lt hB1; have ho2 : o2 (w.heap.size + 1) = .no := (hst2.old _ (blk_lt HB1.out)).trans HNO.out.2; have HR2 := Aside0.mk (And.intro hr2 (And.intro hb2 ho2)); have HB2 := Aside0.mk hB1; clear hr2 hb2 hst2 ho2 hB1))
    obtain ⟨W4, hW4, z0, z1⟩ := set2 HB2.out (.int .i64 (cutM S e.i).2) (.string ⟨#[]⟩)
    obtain ⟨r1, r2, r3⟩ := HEND.out w2 L2 o2 _ (.int .i64 (cutM S e.i).2) (.string ⟨#[]⟩) HR2.out.1 HR2.out.2.1 HST2.out HR2.out.2.2
    rw [← hW4] at r1 r3 ⊢
    clear hW4
    refine bodyPost_ret (by simp [results, Tryz.results23, go_sem, z0, z1]; try rfl) rfl ?_
    rw [HS2.out.1, HS2.out.2.1, HS2.out.2.2]
    exact ⟨L2, o2, rfl, r1, r2, r3⟩
  rw [if_neg h6] at hS2 hx2 hbs2
  have h7 : e.k = 7 := by omega
  have HKE := Aside0.mk h7
  have HS2 := Aside0.mk (And.intro hS2 (And.intro hx2 hbs2))
  clear hS2 hx2 hbs2 h0 h1 h2 h3 h4 h5 h6 h7
  go_enter Tryz.func23, Tryz.ntmps23
  go_wp2_with (first | (go_at_call 33; rw [← HW0.out]; refine (evRight_calls e _).mono ?_; rintro e1 w1 ⟨rfl, hw1⟩; rw [HEV.out]; have HF1 := Aside0.mk (HF0.out.trans (Fr.of_below (S := nope) hw1) (fun _ _ h => h)); have hB1 := (Fr.of_below (S := nope) hw1).blk HO.out (fun h => h); have hE1 := (Fr.of_below (S := nope) hw1).blk HE.out (fun h => h); have m0 : w1.cell? ⟨w.heap.size, 0, none⟩ = some (.int .i64 7) := (blk_cell hE1 0).trans (by rw [← HKE.out]; rfl); have m1 : w1.cell? ⟨w.heap.size, 1, none⟩ = some (.int .i64 e.i) := (blk_cell hE1 1).trans rfl; have m2 : w1.cell? ⟨w.heap.size, 2, none⟩ = some (.int .i64 e.n) := (blk_cell hE1 2).trans rfl; have m3 : w1.cell? ⟨w.heap.size, 3, none⟩ = some (.string e.d) := (blk_cell hE1 3).trans rfl; have hel := blk_lt hE1;  have HB1 := Aside0.mk hB1; clear hw1 hB1 hE1) | (go_at_call 41; refine (bend_calls _ L o S e.n (HR.out.quiet HF1.out) HW.out).mono ?_; rintro e2 w2 ⟨L2, o2, rfl, hr2, hb2, hst2⟩; have HST2 := Aside0.mk ((HR.out.step (HF1.out)).trans hst2); have hB1 := hst2.fr.blk (HB1.out) (fun hx => hx HNO.out.2); have p0 : w2.cell? ⟨w.heap.size + 1, 0, none⟩ = some (.int .i64 0) := (blk_cell hB1 0).trans rfl; have p1 : w2.cell? ⟨w.heap.size + 1, 1, none⟩ = some (.string ⟨#[]⟩) := (blk_cell hB1 1).trans rfl; have q0 := blk_frozen hB1 0; have q1 := blk_frozen hB1 1; have hbl := blk_lt hB1; have ho2 : o2 (w.heap.size + 1) = .no := (hst2.old _ (blk_lt HB1.out)).trans HNO.out.2; have HR2 := Aside0.mk (And.intro hr2 (And.intro hb2 ho2)); have HB2 := Aside0.mk hB1; clear hr2 hb2 hst2 ho2 hB1))
  obtain ⟨W4, hW4, z0, z1⟩ := set2 HB2.out (.int .i64 (endM S e.n).2) (.string ⟨#[]⟩)
  obtain ⟨r1, r2, r3⟩ := HEND.out w2 L2 o2 _ (.int .i64 (endM S e.n).2) (.string ⟨#[]⟩) HR2.out.1 HR2.out.2.1 HST2.out HR2.out.2.2
  rw [← hW4] at r1 r3 ⊢
  clear hW4
  refine bodyPost_ret (by simp [results, Tryz.results23, go_sem, z0, z1]; try rfl) rfl ?_
  rw [HS2.out.1, HS2.out.2.1, HS2.out.2.2]
  exact ⟨L2, o2, rfl, r1, r2, r3⟩
end Go.Proofs.YtfkamoiamebngaaGreatDoor.BroW

/- Decode: bytes as a conf and events. -/
namespace Go.Proofs.YtfkamoiamebngaaGreatDoor.ScrW
open Go.RowKit Go.Proofs.YtfkamoiamebngaaGreatDoorW.PrintWords Go.Proofs.YtfkamoiamebngaaGreatDoorW.PrintMore Go.Proofs.YtfkamoiamebngaaGreatDoor.Fr Go.Proofs.YtfkamoiamebngaaGreatDoor.ScrP Go.Proofs.YtfkamoiamebngaaGreatDoor.Openers
set_option linter.unusedVariables false
set_option linter.unusedSimpArgs false

theorem infoEv : (Tryz.prog.info? 33).map (fun i => (i.zero, i.size, i.bytes)) = some (some (evV ev0), 4, 40) := by kernel_rfl
def evC (e : Ev) : List Value := [.int .i64 e.k, .int .i64 e.i, .int .i64 e.n, .string e.d]
def evs (L : List Ev) : List Value := (L.map evC).flatten
theorem evC_one (e : Ev) : ∀ u ∈ evC e, u.oneCell' = true := by
  intro u hu
  simp only [evC, List.mem_cons, List.not_mem_nil, or_false] at hu
  rcases hu with rfl | rfl | rfl | rfl <;> rfl
theorem evs_snoc (L : List Ev) (e : Ev) : evs (L ++ [e]) = evs L ++ evC e := by simp [evs]
theorem evs_len (L : List Ev) : (evs L).length = L.length * 4 := by
  induction L with
  | nil => rfl
  | cons e L ih => simp only [evs, List.map_cons, List.flatten_cons, List.length_append, List.length_cons] at *; rw [ih]; simp [evC]; omega
theorem evs_at : ∀ (L : List Ev) (j f : Nat), j < L.length → f < 4 → (evs L)[j * 4 + f]? = (evC (L.getD j ev0))[f]?
  | [], j, f, h, _ => by simp at h
  | e :: L, 0, f, _, hf => by
    have : evs (e :: L) = evC e ++ evs L := by simp [evs]
    rw [this, Nat.zero_mul, Nat.zero_add, List.getElem?_append_left (by simpa [evC] using hf)]
    rfl
  | e :: L, j + 1, f, h, hf => by
    have : evs (e :: L) = evC e ++ evs L := by simp [evs]
    rw [this, List.getElem?_append_right (by simp [evC]; omega), show (j + 1) * 4 + f - (evC e).length = j * 4 + f by simp [evC]; omega, evs_at L j f (by simpa using h) hf]
    rfl
def OwnsEv (base : Nat) (wr : World) (v : Value) (L : List Ev) : Prop := wr.ownsRow base 33 4 v L.length (evs L)
theorem own_readsEv {base : Nat} {wr : World} {v : Value} {L : List Ev} (h : OwnsEv base wr v L) (hd : ∀ e ∈ L, e.d.size ≤ 140737488351232) (hl : L.length ≤ 140737488351232) :
    ∃ A c, v = .slice A L.length c ∧ L.length ≤ c ∧ ReadsEv wr A L := by
  obtain ⟨h1, h2⟩ := h
  rcases h2 with ⟨rfl, h0⟩ | ⟨g, cap, cur, rfl, hb, hh, hn, r⟩
  · exact ⟨none, 0, by rw [h0], by omega, hl, fun h => by omega⟩
  · refine ⟨_, cap, rfl, hn, hl, fun h => ⟨_, rfl, fun j hj => ?_⟩⟩
    have hc := World.ownsRow.cells (w := wr) (base := base) (e := 33) (size := 4) (v := .slice (some ⟨g, 0, none⟩) L.length cap) (n := L.length) (xs := evs L) ⟨h1, .inr ⟨g, cap, cur, rfl, hb, hh, hn, r⟩⟩ (g := g) rfl
    refine ⟨hc (j * 4) _ ((evs_at L j 0 hj (by decide)).trans rfl), hc (j * 4 + 1) _ ((evs_at L j 1 hj (by decide)).trans rfl), hc (j * 4 + 2) _ ((evs_at L j 2 hj (by decide)).trans rfl), hc (j * 4 + 3) _ ((evs_at L j 3 hj (by decide)).trans rfl), hd _ (getD_mem L j hj _ rfl)⟩

/-- the conf so far -/
def cfPart (b : List Int) (k : Nat) : Cf :=
  ⟨if 0 < k then (cfOf b).a0 else 0, if 1 < k then (cfOf b).a1 else 0, if 2 < k then (cfOf b).a2 else 0, if 3 < k then (cfOf b).a3 else 0, if 4 < k then (cfOf b).a4 else 0, if 5 < k then (cfOf b).a5 else 0, if 6 < k then (cfOf b).a6 else 0, if 7 < k then (cfOf b).a7 else 0⟩
theorem cfPart_step (b : List Int) (k : Nat) (h : k < 8) : (cfCells (cfPart b k)).setIfInBounds k (.int .i64 (rdN ((b.take (3 * k + 3)).drop (3 * k)))) = cfCells (cfPart b (k + 1)) := by
  obtain rfl | rfl | rfl | rfl | rfl | rfl | rfl | rfl : k = 0 ∨ k = 1 ∨ k = 2 ∨ k = 3 ∨ k = 4 ∨ k = 5 ∨ k = 6 ∨ k = 7 := by omega
  all_goals rfl
theorem cells8 {w : World} {g : Nat} {T : TypeId} {c : Cf} (h : w.heap[g]? = some (.cells (cfCells c) T (0, 0))) :
    w.cell? ⟨g, 0, none⟩ = some (.int .i64 c.a0) ∧ w.cell? ⟨g, 1, none⟩ = some (.int .i64 c.a1) ∧ w.cell? ⟨g, 2, none⟩ = some (.int .i64 c.a2) ∧ w.cell? ⟨g, 3, none⟩ = some (.int .i64 c.a3) ∧ w.cell? ⟨g, 4, none⟩ = some (.int .i64 c.a4) ∧ w.cell? ⟨g, 5, none⟩ = some (.int .i64 c.a5) ∧ w.cell? ⟨g, 6, none⟩ = some (.int .i64 c.a6) ∧ w.cell? ⟨g, 7, none⟩ = some (.int .i64 c.a7) :=
  ⟨(blk_cell h 0).trans rfl, (blk_cell h 1).trans rfl, (blk_cell h 2).trans rfl, (blk_cell h 3).trans rfl, (blk_cell h 4).trans rfl, (blk_cell h 5).trans rfl, (blk_cell h 6).trans rfl, (blk_cell h 7).trans rfl⟩
theorem cells8o {w : World} {g : Nat} {T : TypeId} {c : Cf} (h : ∀ o, (w.alloc o).heap[g]? = some (.cells (cfCells c) T (0, 0))) :
    (∀ o, (w.alloc o).cell? ⟨g, 0, none⟩ = some (.int .i64 c.a0)) ∧ (∀ o, (w.alloc o).cell? ⟨g, 1, none⟩ = some (.int .i64 c.a1)) ∧ (∀ o, (w.alloc o).cell? ⟨g, 2, none⟩ = some (.int .i64 c.a2)) ∧ (∀ o, (w.alloc o).cell? ⟨g, 3, none⟩ = some (.int .i64 c.a3)) ∧ (∀ o, (w.alloc o).cell? ⟨g, 4, none⟩ = some (.int .i64 c.a4)) ∧ (∀ o, (w.alloc o).cell? ⟨g, 5, none⟩ = some (.int .i64 c.a5)) ∧ (∀ o, (w.alloc o).cell? ⟨g, 6, none⟩ = some (.int .i64 c.a6)) ∧ (∀ o, (w.alloc o).cell? ⟨g, 7, none⟩ = some (.int .i64 c.a7)) :=
  ⟨fun o => (blk_cell (h o) 0).trans rfl, fun o => (blk_cell (h o) 1).trans rfl, fun o => (blk_cell (h o) 2).trans rfl, fun o => (blk_cell (h o) 3).trans rfl, fun o => (blk_cell (h o) 4).trans rfl, fun o => (blk_cell (h o) 5).trans rfl, fun o => (blk_cell (h o) 6).trans rfl, fun o => (blk_cell (h o) 7).trans rfl⟩
theorem frozen8o {w : World} {g : Nat} {T : TypeId} {cs : Array Value} (h : ∀ o, (w.alloc o).heap[g]? = some (.cells cs T (0, 0))) :
    (∀ o, (w.alloc o).frozen? ⟨g, 0, none⟩ = false) ∧ (∀ o, (w.alloc o).frozen? ⟨g, 1, none⟩ = false) ∧ (∀ o, (w.alloc o).frozen? ⟨g, 2, none⟩ = false) ∧ (∀ o, (w.alloc o).frozen? ⟨g, 3, none⟩ = false) ∧ (∀ o, (w.alloc o).frozen? ⟨g, 4, none⟩ = false) ∧ (∀ o, (w.alloc o).frozen? ⟨g, 5, none⟩ = false) ∧ (∀ o, (w.alloc o).frozen? ⟨g, 6, none⟩ = false) ∧ (∀ o, (w.alloc o).frozen? ⟨g, 7, none⟩ = false) :=
  ⟨fun o => blk_frozen (h o) 0, fun o => blk_frozen (h o) 1, fun o => blk_frozen (h o) 2, fun o => blk_frozen (h o) 3, fun o => blk_frozen (h o) 4, fun o => blk_frozen (h o) 5, fun o => blk_frozen (h o) 6, fun o => blk_frozen (h o) 7⟩
theorem set8 {w1 : World} {g : Nat} {c : Cf} {T : TypeId} (hB : w1.heap[g]? = some (.cells (cfCells c) T (0, 0))) (d : Cf) :
    ∃ W4, W4 = (((((((w1.setCell ⟨g, 0, none⟩ (.int .i64 d.a0)).setCell ⟨g, 1, none⟩ (.int .i64 d.a1)).setCell ⟨g, 2, none⟩ (.int .i64 d.a2)).setCell ⟨g, 3, none⟩ (.int .i64 d.a3)).setCell ⟨g, 4, none⟩ (.int .i64 d.a4)).setCell ⟨g, 5, none⟩ (.int .i64 d.a5)).setCell ⟨g, 6, none⟩ (.int .i64 d.a6)).setCell ⟨g, 7, none⟩ (.int .i64 d.a7) ∧
      W4.heap[g]? = some (.cells (cfCells d) T (0, 0)) := by
  have s0 := blk_put (cs' := #[.int .i64 d.a0, .int .i64 c.a1, .int .i64 c.a2, .int .i64 c.a3, .int .i64 c.a4, .int .i64 c.a5, .int .i64 c.a6, .int .i64 c.a7]) hB 0 (.int .i64 d.a0) rfl
  have s1 := blk_put (cs' := #[.int .i64 d.a0, .int .i64 d.a1, .int .i64 c.a2, .int .i64 c.a3, .int .i64 c.a4, .int .i64 c.a5, .int .i64 c.a6, .int .i64 c.a7]) s0 1 (.int .i64 d.a1) rfl
  have s2 := blk_put (cs' := #[.int .i64 d.a0, .int .i64 d.a1, .int .i64 d.a2, .int .i64 c.a3, .int .i64 c.a4, .int .i64 c.a5, .int .i64 c.a6, .int .i64 c.a7]) s1 2 (.int .i64 d.a2) rfl
  have s3 := blk_put (cs' := #[.int .i64 d.a0, .int .i64 d.a1, .int .i64 d.a2, .int .i64 d.a3, .int .i64 c.a4, .int .i64 c.a5, .int .i64 c.a6, .int .i64 c.a7]) s2 3 (.int .i64 d.a3) rfl
  have s4 := blk_put (cs' := #[.int .i64 d.a0, .int .i64 d.a1, .int .i64 d.a2, .int .i64 d.a3, .int .i64 d.a4, .int .i64 c.a5, .int .i64 c.a6, .int .i64 c.a7]) s3 4 (.int .i64 d.a4) rfl
  have s5 := blk_put (cs' := #[.int .i64 d.a0, .int .i64 d.a1, .int .i64 d.a2, .int .i64 d.a3, .int .i64 d.a4, .int .i64 d.a5, .int .i64 c.a6, .int .i64 c.a7]) s4 5 (.int .i64 d.a5) rfl
  have s6 := blk_put (cs' := #[.int .i64 d.a0, .int .i64 d.a1, .int .i64 d.a2, .int .i64 d.a3, .int .i64 d.a4, .int .i64 d.a5, .int .i64 d.a6, .int .i64 c.a7]) s5 6 (.int .i64 d.a6) rfl
  have s7 := blk_put (cs' := #[.int .i64 d.a0, .int .i64 d.a1, .int .i64 d.a2, .int .i64 d.a3, .int .i64 d.a4, .int .i64 d.a5, .int .i64 d.a6, .int .i64 d.a7]) s6 7 (.int .i64 d.a7) rfl
  exact ⟨_, rfl, s7⟩
theorem fr_set8 {w w1 : World} (h : Fr nope w w1) {g : Nat} (hg : w.heap.size ≤ g) (u0 u1 u2 u3 u4 u5 u6 u7 : Value) :
    Fr nope w ((((((((w1.setCell ⟨g, 0, none⟩ u0).setCell ⟨g, 1, none⟩ u1).setCell ⟨g, 2, none⟩ u2).setCell ⟨g, 3, none⟩ u3).setCell ⟨g, 4, none⟩ u4).setCell ⟨g, 5, none⟩ u5).setCell ⟨g, 6, none⟩ u6).setCell ⟨g, 7, none⟩ u7) :=
  (((((((h.set (fun h => by omega) 0 _).set (fun h => by omega) 1 _).set (fun h => by omega) 2 _).set (fun h => by omega) 3 _).set (fun h => by omega) 4 _).set (fun h => by omega) 5 _).set (fun h => by omega) 6 _).set (fun h => by omega) 7 _

def DecOk (bs : List Int) (w : World) (e : Ending) (w' : World) : Prop :=
  ∃ v, e = .returned (.tuple #[cfV (decP bs).1, v, .int .i64 (decP bs).2.2.1, .int .i64 (decP bs).2.2.2]) ∧ Fr nope w w' ∧ OwnsEv w.heap.size w' v (decP bs).2.1

theorem dec_short {bs : List Int} {w w' : World} {n : Nat} {e : Ending} (h : decP bs = (cf0, [], 0, n)) (he : e = .returned (.tuple #[cfV cf0, .slice none 0 0, .int .i64 0, .int .i64 n])) (hF : Fr nope w w') : DecOk bs w e w' := by
  unfold DecOk
  rw [h]
  exact ⟨_, he, hF, World.ownsRow_nil _ _ _ _⟩

theorem dec_done {bs : List Int} {w w' : World} {c : Cf} {L : List Ev} {k x : Nat} {e : Ending} {v : Value} (h : decP bs = (c, L, k, x)) (he : e = .returned (.tuple #[cfV c, v, .int .i64 k, .int .i64 x])) (hF : Fr nope w w') (ho : OwnsEv w.heap.size w' v L) : DecOk bs w e w' := by
  unfold DecOk
  rw [h]
  exact ⟨_, he, hF, ho⟩
theorem own_apart {w : World} {b : Nat} {e : TypeId} {size n : Nat} {v : Value} {xs : List Value} (h : w.ownsRow b e size v n xs) {g : Nat} (hg : g < b) : some g ≠ v.ownBlock := by
  intro he
  have := (own_old h he.symm).1
  omega
theorem own_far8 {w : World} {b : Nat} {e : TypeId} {size n : Nat} {v : Value} {xs : List Value} (h : w.ownsRow b e size v n xs) {g : Nat} (hg : some g ≠ v.ownBlock) (u0 u1 u2 u3 u4 u5 u6 u7 : Value) :
    ((((((((w.setCell ⟨g, 0, none⟩ u0).setCell ⟨g, 1, none⟩ u1).setCell ⟨g, 2, none⟩ u2).setCell ⟨g, 3, none⟩ u3).setCell ⟨g, 4, none⟩ u4).setCell ⟨g, 5, none⟩ u5).setCell ⟨g, 6, none⟩ u6).setCell ⟨g, 7, none⟩ u7).ownsRow b e size v n xs :=
  own_setCell (own_setCell (own_setCell (own_setCell (own_setCell (own_setCell (own_setCell (own_setCell h hg _) hg _) hg _) hg _) hg _) hg _) hg _) hg _

set_option maxHeartbeats 2000000 in
set_option maxRecDepth 100000 in
theorem decode_calls (bs : List Int) (A : Option Addr) (cp : Nat) (w : World) (hc : bs.length ≤ cp) (hcm : cp ≤ 9223372036854775807) (hr : ReadsInt w .u8 A bs.length bs) (hb : isB bs) :
    Calls Tryz.prog 48 #[.slice A bs.length cp] w (DecOk bs w) := by
  have HR := Aside0.mk hr
  have HB := Aside0.mk hb
  clear hr hb
  by_cases h1 : 262144 < bs.length
  · have HE : Aside0 (decP bs = (cf0, [], 0, 6)) := ⟨by unfold decP; rw [if_pos h1]⟩
    have t1 : decide (262144 < (bs.length : Int)) = true := decide_eq_true (by omega)
    clear h1
    go_enter Tryz.func48, Tryz.ntmps48
    go_wp2
    go_returns
    exact dec_short HE.out rfl (((Fr.refl _ _).alloc _).alloc _)
  have t1 : decide (262144 < (bs.length : Int)) = false := decide_eq_false (by omega)
  by_cases h2 : bs.length < 24
  · have HE : Aside0 (decP bs = (cf0, [], 0, 5)) := ⟨by unfold decP; rw [if_neg h1, if_pos h2]⟩
    clear h1
    go_enter Tryz.func48, Tryz.ntmps48
    go_wp2
    go_returns
    exact dec_short HE.out rfl (((Fr.refl _ _).alloc _).alloc _)
  have h24 : 24 ≤ bs.length := by omega
  have HLC : Aside0 (bs.length ≤ 262144) := ⟨by omega⟩
  clear h1 h2
  go_enter Tryz.func48, Tryz.ntmps48
  go_wp2_with (first | (go_at_call 46; refine (fields_calls (w.heap.size + 1) _).mono ?_; rintro e w2 ⟨rfl, hw2⟩; have HW2 := Aside0.mk hw2; clear hw2))
  have hC6 : w2.heap[w.heap.size + 1]? = some (.cells (cfCells (cfPart bs 0)) 23 (0, 0)) := by
    rw [HW2.out]; exact blk_drew (blk_alloc (by rw [← World.size_alloc w (.cells (cfCells cf0) 23)]; exact blk_new _ _) _)
  have hC2 : w2.heap[w.heap.size]? = some (.cells (cfCells cf0) 23 (0, 0)) := by rw [HW2.out]; exact blk_drew (blk_alloc (blk_alloc (blk_new w _) _) _)
  have hP : w2.heap[w.heap.size + 1 + 1]? = some (.cells (ptrs8 (w.heap.size + 1)) 97 (0, 0)) := by
    rw [HW2.out, ← World.size_alloc w (.cells (cfCells cf0) 23), ← World.size_alloc _ (.cells (cfCells cf0) 23)]; exact blk_drew (blk_new _ _)
  have HF2 : Aside0 (Fr nope w w2) := ⟨by rw [HW2.out]; exact ((((Fr.refl _ _).alloc _).alloc _).alloc _).drew⟩
  have HC6 := Aside0.mk hC6
  have HC2 := Aside0.mk hC2
  have HP := Aside0.mk hP
  clear hC6 hC2 hP HW2
  obtain ⟨i5, hi5, hz5⟩ := Option.map_eq_some_iff.1 info5
  simp only [Prod.mk.injEq] at hz5
  have HI5 := Aside0.mk (And.intro hi5 hz5.2.1)
  clear hi5 hz5
  go_loopw [24] (fun v24 wr => ∃ (k : Nat), v24 = .int .i64 k ∧ k ≤ 8 ∧ Aside0 (wr.heap[w.heap.size + 1]? = some (.cells (cfCells (cfPart bs k)) 23 (0, 0))) ∧ Aside0 (wr.heap[w.heap.size]? = some (.cells (cfCells cf0) 23 (0, 0))) ∧ Aside0 (wr.heap[w.heap.size + 1 + 1]? = some (.cells (ptrs8 (w.heap.size + 1)) 97 (0, 0))) ∧ Aside0 (Fr nope w wr)) (fun i _ => 8 - (intOf i).toNat)
  case atStart => exact ⟨0, rfl, Nat.zero_le _, HC6, HC2, HP, HF2⟩
  case round =>
    clear HC6 HC2 HP HF2
    obtain ⟨k, rfl, hk, HC6, HC2, HP, HF⟩ := hrel
    by_cases hlt : k < 8
    · obtain ⟨A1, hs1, hr1, hl1⟩ := print_mid_int (P := Tryz.prog) (k := .u8) 29 5 Tryz.underlying29 HI5.out.1 HI5.out.2 A cp bs (3 * (k : Int)) (3 * (k : Int) + 3) (by omega) (by omega) (by omega) hc
      obtain ⟨m1, hm1⟩ : ∃ l, l = (bs.take (3 * (k : Int) + 3).toNat).drop (3 * (k : Int)).toNat := ⟨_, rfl⟩
      rw [← hm1] at hs1 hr1 hl1
      have HR1 : Aside0 (ReadsInt wr .u8 A1 m1.length m1) := ⟨hr1 wr (HF.out.reads HR.out (fun _ _ h => h))⟩
      have HL1 : Aside0 (m1.length ≤ 3) := ⟨by rw [hm1]; simp; omega⟩
      have HB1 : Aside0 (isB m1) := ⟨fun x hx => HB.out x (List.mem_of_mem_take (List.mem_of_mem_drop (by rw [← hm1]; exact hx)))⟩
      have HM1 : Aside0 (m1 = (bs.take (3 * k + 3)).drop (3 * k)) := ⟨by rw [hm1, show (3 * (k : Int) + 3).toNat = 3 * k + 3 by omega, show (3 * (k : Int)).toNat = 3 * k by omega]⟩
      have p1 : wr.cell? ⟨w.heap.size + 1 + 1, k, none⟩ = some (.pointer (some ⟨w.heap.size + 1, k, none⟩)) := (blk_cell HP.out k).trans (ptrs8_at _ k hlt)
      have c1 : wr.cell? ⟨w.heap.size + 1, k, none⟩ = some (.int .i64 ((cfL (cfPart bs k)).getD k 0)) := (blk_cell HC6.out k).trans (cfCells_at _ k hlt)
      have f1 := blk_frozen HC6.out k
      have HC6' : Aside0 ((wr.setCell ⟨w.heap.size + 1, k, none⟩ (.int .i64 (rdN m1))).heap[w.heap.size + 1]? = some (.cells (cfCells (cfPart bs (k + 1))) 23 (0, 0))) := ⟨by rw [← cfPart_step bs k hlt, ← HM1.out]; exact blk_set HC6.out k _⟩
      have HC2' : Aside0 ((wr.setCell ⟨w.heap.size + 1, k, none⟩ (.int .i64 (rdN m1))).heap[w.heap.size]? = some (.cells (cfCells cf0) 23 (0, 0))) := ⟨blk_far HC2.out (by simp) _⟩
      have HP' : Aside0 ((wr.setCell ⟨w.heap.size + 1, k, none⟩ (.int .i64 (rdN m1))).heap[w.heap.size + 1 + 1]? = some (.cells (ptrs8 (w.heap.size + 1)) 97 (0, 0))) := ⟨blk_far HP.out (by simp) _⟩
      have HF' : Aside0 (Fr nope w (wr.setCell ⟨w.heap.size + 1, k, none⟩ (.int .i64 (rdN m1)))) := ⟨HF.out.set (fun h => by omega) k _⟩
      obtain ⟨y, hy⟩ : ∃ y, (cfL (cfPart bs k)).getD k 0 = y := ⟨_, rfl⟩
      rw [hy] at c1
      clear hr1 hm1 hy
      go_wp2_with (first | (go_at_call 72; refine (read_calls m1 A1 _ _ HR1.out HB1.out HL1.out).mono ?_; rintro e w1 ⟨rfl, rfl⟩))
      case roundEnd =>
        refine ⟨⟨k + 1, by push_cast; rfl, hlt, HC6', HC2', HP', HF'⟩, ?_⟩
        simp only [intOf]
        omega
    · obtain rfl : k = 8 := by omega
      obtain ⟨c, hcf⟩ : ∃ c, cfPart bs 8 = c := ⟨_, rfl⟩
      rw [hcf] at HC6
      have HCF : Aside0 (cfOf bs = c) := ⟨hcf⟩
      clear hcf
      obtain ⟨c0, c1, c2, c3, c4, c5, c6, c7⟩ := cells8 HC6.out
      by_cases hcb : cfB c = true
      · go_wp2_with (first | (go_at_call 10; refine (confRight_calls c _).mono ?_; rintro e w5 ⟨rfl, hw5⟩; rw [hcb]; have HC6' := Aside0.mk (blk_below HC6.out hw5); have HC2' := Aside0.mk (blk_below HC2.out hw5); have HF5 := Aside0.mk (HF.out.below hw5); clear hw5))
        have HCB : Aside0 (cfB c = true) := ⟨hcb⟩
        have HDP : Aside0 (decP bs = (c, decGo bs.length bs 24 [])) := ⟨by unfold decP; rw [if_neg (by have := HLC.out; omega), if_neg (by omega), HCF.out, if_pos hcb]⟩
        clear c0 c1 c2 c3 c4 c5 c6 c7 hcb
        go_loopw [9, 10] (fun v9 v10 wq => ∃ (k f : Nat) (out : List Ev) (A9 : Option Addr) (c9 : Nat), v10 = .int .i64 k ∧ k ≤ bs.length ∧ v9 = .slice A9 out.length c9 ∧ Aside0 (bs.length ≤ k + f ∧ decGo bs.length bs 24 [] = decGo f bs k out) ∧ out.length ≤ 8192 ∧ Aside0 (OwnsEv w5.heap.size wq (.slice A9 out.length c9) out) ∧ Aside0 (Fr nope w5 wq)) (fun _ i _ => bs.length - (intOf i).toNat)
        case atStart => exact ⟨24, bs.length, [], none, 0, rfl, h24, rfl, ⟨by omega, rfl⟩, by decide, ⟨World.ownsRow_nil _ _ _ _⟩, ⟨Fr.refl _ _⟩⟩
        case round =>
          clear hk hlt HC6 HC2 HP
          obtain ⟨k, f, out, A9, c9, rfl, hk, rfl, HD, ho8, HO, HFq⟩ := hrel
          have hB6 := HFq.out.blk HC6'.out (fun h => h)
          have hB2 := HFq.out.blk HC2'.out (fun h => h)
          have HB6 := Aside0.mk hB6
          have HB2 := Aside0.mk hB2
          have hFw := HF5.out.trans HFq.out (fun i hi h => h.elim)
          have HFw := Aside0.mk hFw
          by_cases hlt : k < bs.length
          · obtain ⟨i5, hi5⟩ : ∃ i, Tryz.prog.info? 5 = some i ∧ i.size = 1 := ⟨_, HI5.out⟩
            obtain ⟨A1, hs1, hr1, hl1⟩ := print_drop_of (P := Tryz.prog) (Value.int .u8) (0 : Int) 29 5 .i64 Tryz.underlying29 hi5.1 hi5.2 A cp bs (k : Int) (by omega) (by omega) hc
            obtain ⟨m1, hm1⟩ : ∃ l, l = bs.drop (k : Int).toNat := ⟨_, rfl⟩
            rw [← hm1] at hs1 hr1 hl1
            have HM1 : Aside0 (m1 = bs.drop k) := ⟨by rw [hm1, Int.toNat_natCast]⟩
            have hbm : isB m1 := fun x hx => HB.out x (List.mem_of_mem_drop (by rw [← HM1.out]; exact hx))
            have HBM := Aside0.mk hbm
            have HL1 : Aside0 (m1.length = bs.length - k) := ⟨by rw [HM1.out, List.length_drop]⟩
            have hrw := hr1 wr (hFw.reads HR.out (fun _ _ h => h))
            obtain ⟨e, n, x, hone⟩ : ∃ e n x, oneP m1 = (e, n, x) := ⟨_, _, _, rfl⟩
            have hcall := one_calls m1 A1 (cp - (k : Int).toNat) wr hl1 (by omega) hrw hbm
            rw [hone] at hcall
            have HCALL : Aside0 (Calls Tryz.prog 73 #[.slice A1 m1.length (cp - (k : Int).toNat)] wr fun e1 w1 => e1 = .returned (.tuple #[.agg #[.int .i64 e.k, .int .i64 e.i, .int .i64 e.n, .string e.d], .int .i64 n, .int .i64 x]) ∧ Fr nope wr w1) := ⟨hcall⟩
            have HONE : Aside0 (oneP (bs.drop k) = (e, n, x)) := ⟨by rw [← HM1.out]; exact hone⟩
            have hx : x = 0 ∨ x = 5 ∨ x = 8 := by have := one_codes m1; rw [hone] at this; exact this
            clear hr1 hm1 hbm hrw hcall hone hi5 hB6 hB2 hFw
            obtain ⟨f1', rfl⟩ : ∃ f1, f = f1 + 1 := ⟨f - 1, by have := HD.out.1; omega⟩
            rcases hx with rfl | rfl | rfl
            · by_cases h92 : out.length = 8192
              · have t8 : ((out.length : Int) == 8192) = true := beq_iff_eq.2 (by omega)
                have t9 : decide ((out.length : Int) = 8192) = true := decide_eq_true (by omega)
                have H92 := Aside0.mk h92
                clear h92
                have HDD : Aside0 (decP bs = (c, out, k, 6)) := ⟨by rw [HDP.out, HD.out.2, decGo_full f1' bs k out e n hlt HONE.out H92.out]⟩
                go_wp2_with (first | (go_at_call 73; refine HCALL.out.mono ?_; rintro e1 w6 ⟨rfl, hf6⟩; have HB6o : Aside0 (∀ o, (w6.alloc o).heap[w.heap.size + 1]? = some (.cells (cfCells c) 23 (0, 0))) := ⟨fun o => blk_alloc (hf6.blk HB6.out (fun h => h)) o⟩; have HB2o : Aside0 (∀ o, (w6.alloc o).heap[w.heap.size]? = some (.cells (cfCells cf0) 23 (0, 0))) := ⟨fun o => blk_alloc (hf6.blk HB2.out (fun h => h)) o⟩; obtain ⟨c0, c1, c2, c3, c4, c5, c6, c7⟩ := cells8o HB6o.out; obtain ⟨r0, r1, r2, r3, r4, r5, r6, r7⟩ := cells8o HB2o.out; obtain ⟨f0, f1, f2, f3, f4, f5, f6, f7⟩ := frozen8o HB2o.out; have HF6 := Aside0.mk hf6; clear hf6))
                obtain ⟨W4, hW4, hb4⟩ := set8 (HB2o.out _) c
                (try dsimp only at hW4)
                rw [← hW4]
                obtain ⟨z0, z1, z2, z3, z4, z5, z6, z7⟩ := cells8 hb4
                (try dsimp only at z0 z1 z2 z3 z4 z5 z6 z7)
                refine bodyPost_ret (by simp [results, Tryz.results48, go_sem, z0, z1, z2, z3, z4, z5, z6, z7]; try rfl) rfl ?_
                rw [hW4]
                exact dec_done HDD.out rfl (fr_set8 ((HFw.out.trans HF6.out (fun i hi h => h.elim)).alloc _) (Nat.le_refl _) _ _ _ _ _ _ _ _) (own_far8 (((HF6.out.alloc _).own (own_base_le HO.out HF5.out.size) (fun _ _ h => h))) (own_apart HO.out (blk_lt HC2'.out)) _ _ _ _ _ _ _ _)
              · have t8 : ((out.length : Int) == 8192) = false := beq_eq_false_iff_ne.2 (by omega)
                have t9 : decide ((out.length : Int) = 8192) = false := decide_eq_false (by omega)
                have ho91 : out.length ≤ 8191 := by omega
                obtain ⟨g1, g2, g3, g4⟩ := one_back (bs.drop k) (fun x hx => HB.out x (List.mem_of_mem_drop hx)) e n HONE.out
                rw [List.length_drop] at g3
                obtain ⟨out2, hout⟩ : ∃ l, l = out ++ [e] := ⟨_, rfl⟩
                have HDN : Aside0 (bs.length ≤ (k + n) + f1' ∧ decGo bs.length bs 24 [] = decGo f1' bs (k + n) out2) := ⟨by have := HD.out.1; omega, by rw [hout, HD.out.2, decGo_step f1' bs k out e n hlt HONE.out h92]⟩
                have HOUT := Aside0.mk hout
                have hl2 : out2.length = out.length + 1 := by rw [hout]; simp
                have HL2 := Aside0.mk hl2
                have HFq2 : Aside0 (Fr nope w5 wr) := HFq
                clear g1 g4 h92 hout hl2
                go_wp2_with (first | (go_at_call 73; refine HCALL.out.mono ?_; rintro e1 w6 ⟨rfl, hf6⟩; have HF6 := Aside0.mk hf6; have hs6 : wr.heap.size ≤ w6.heap.size := hf6.size; clear hf6) | ((with_reducible refine gate_builtin (b := .append) (xs := #[.tmp 69, .tmp 71]) rfl ?_); at_builtin; refine print_append_cells (w0 := w6.alloc (.cells #[.int .i64 e.k, .int .i64 e.i, .int .i64 e.n, .string e.d] 33)) (W := w6.alloc (.cells #[.int .i64 e.k, .int .i64 e.i, .int .i64 e.n, .string e.d] 33)) w5.heap.size rfl (.tmp 69) (.tmp 71) 27 33 (evV ev0) 4 40 rfl Tryz.underlying27 infoEv rfl (by decide) (by decide) (.slice A9 out.length c9) out.length (evs out) (evC e) rfl (by rw [World.size_alloc]; rfl) rfl (evC_one e) ((HF6.out.alloc _).own HO.out (fun _ _ h => h)) (Below.refl _ _) (by have := HFq2.out.size; rw [World.size_alloc]; omega) (by omega) ?_; intro v1 w1 ho1 hb1 hg1 hat1; rw [← evs_snoc, ← HOUT.out, ← HL2.out] at ho1; obtain ⟨A1', c1', rfl⟩ := own_slice ho1; have HO1 := Aside0.mk (show OwnsEv w5.heap.size w1 (.slice A1' out2.length c1') out2 from ho1); have HF1 := Aside0.mk (((HFq2.out.trans HF6.out (fun i hi h => h.elim)).alloc _).grown hg1 (fun b hb hlt => absurd (own_old HO.out hb).1 (by omega))); clear ho1 hb1 hg1 hat1))
                case roundEnd =>
                  refine ⟨⟨k + n, f1', out2, A1', c1', by push_cast; rfl, by omega, rfl, HDN, by rw [HL2.out]; omega, HO1, HF1⟩, ?_⟩
                  simp only [intOf]
                  omega
            · have HDD : Aside0 (decP bs = (c, out, k, 5)) := ⟨by rw [HDP.out, HD.out.2, decGo_bad f1' bs k out 5 hlt (by rw [HONE.out]) (by decide)]⟩
              go_wp2_with (first | (go_at_call 73; refine HCALL.out.mono ?_; rintro e1 w6 ⟨rfl, hf6⟩; have HB6o : Aside0 (∀ o, (w6.alloc o).heap[w.heap.size + 1]? = some (.cells (cfCells c) 23 (0, 0))) := ⟨fun o => blk_alloc (hf6.blk HB6.out (fun h => h)) o⟩; have HB2o : Aside0 (∀ o, (w6.alloc o).heap[w.heap.size]? = some (.cells (cfCells cf0) 23 (0, 0))) := ⟨fun o => blk_alloc (hf6.blk HB2.out (fun h => h)) o⟩; obtain ⟨c0, c1, c2, c3, c4, c5, c6, c7⟩ := cells8o HB6o.out; obtain ⟨r0, r1, r2, r3, r4, r5, r6, r7⟩ := cells8o HB2o.out; obtain ⟨f0, f1, f2, f3, f4, f5, f6, f7⟩ := frozen8o HB2o.out; have HF6 := Aside0.mk hf6; clear hf6))
              obtain ⟨W4, hW4, hb4⟩ := set8 (HB2o.out _) c
              (try dsimp only at hW4)
              rw [← hW4]
              obtain ⟨z0, z1, z2, z3, z4, z5, z6, z7⟩ := cells8 hb4
              (try dsimp only at z0 z1 z2 z3 z4 z5 z6 z7)
              refine bodyPost_ret (by simp [results, Tryz.results48, go_sem, z0, z1, z2, z3, z4, z5, z6, z7]; try rfl) rfl ?_
              rw [hW4]
              exact dec_done HDD.out rfl (fr_set8 ((HFw.out.trans HF6.out (fun i hi h => h.elim)).alloc _) (Nat.le_refl _) _ _ _ _ _ _ _ _) (own_far8 (((HF6.out.alloc _).own (own_base_le HO.out HF5.out.size) (fun _ _ h => h))) (own_apart HO.out (blk_lt HC2'.out)) _ _ _ _ _ _ _ _)
            · have HDD : Aside0 (decP bs = (c, out, k, 8)) := ⟨by rw [HDP.out, HD.out.2, decGo_bad f1' bs k out 8 hlt (by rw [HONE.out]) (by decide)]⟩
              go_wp2_with (first | (go_at_call 73; refine HCALL.out.mono ?_; rintro e1 w6 ⟨rfl, hf6⟩; have HB6o : Aside0 (∀ o, (w6.alloc o).heap[w.heap.size + 1]? = some (.cells (cfCells c) 23 (0, 0))) := ⟨fun o => blk_alloc (hf6.blk HB6.out (fun h => h)) o⟩; have HB2o : Aside0 (∀ o, (w6.alloc o).heap[w.heap.size]? = some (.cells (cfCells cf0) 23 (0, 0))) := ⟨fun o => blk_alloc (hf6.blk HB2.out (fun h => h)) o⟩; obtain ⟨c0, c1, c2, c3, c4, c5, c6, c7⟩ := cells8o HB6o.out; obtain ⟨r0, r1, r2, r3, r4, r5, r6, r7⟩ := cells8o HB2o.out; obtain ⟨f0, f1, f2, f3, f4, f5, f6, f7⟩ := frozen8o HB2o.out; have HF6 := Aside0.mk hf6; clear hf6))
              obtain ⟨W4, hW4, hb4⟩ := set8 (HB2o.out _) c
              (try dsimp only at hW4)
              rw [← hW4]
              obtain ⟨z0, z1, z2, z3, z4, z5, z6, z7⟩ := cells8 hb4
              (try dsimp only at z0 z1 z2 z3 z4 z5 z6 z7)
              refine bodyPost_ret (by simp [results, Tryz.results48, go_sem, z0, z1, z2, z3, z4, z5, z6, z7]; try rfl) rfl ?_
              rw [hW4]
              exact dec_done HDD.out rfl (fr_set8 ((HFw.out.trans HF6.out (fun i hi h => h.elim)).alloc _) (Nat.le_refl _) _ _ _ _ _ _ _ _) (own_far8 (((HF6.out.alloc _).own (own_base_le HO.out HF5.out.size) (fun _ _ h => h))) (own_apart HO.out (blk_lt HC2'.out)) _ _ _ _ _ _ _ _)
          · obtain ⟨c0, c1, c2, c3, c4, c5, c6, c7⟩ := cells8 hB6
            obtain ⟨r0, r1, r2, r3, r4, r5, r6, r7⟩ := cells8 hB2
            have f0 := blk_frozen hB2 0
            have f1 := blk_frozen hB2 1
            have f2 := blk_frozen hB2 2
            have f3 := blk_frozen hB2 3
            have f4 := blk_frozen hB2 4
            have f5 := blk_frozen hB2 5
            have f6 := blk_frozen hB2 6
            have f7 := blk_frozen hB2 7
            have HDD : Aside0 (decP bs = (c, out, k, 0)) := ⟨by rw [HDP.out, HD.out.2, decGo_end f bs k out hlt]⟩
            clear hB6 hB2 hFw
            go_wp2
            obtain ⟨W4, hW4, hb4⟩ := set8 HB2.out c
            (try dsimp only at hW4)
            rw [← hW4]
            obtain ⟨z0, z1, z2, z3, z4, z5, z6, z7⟩ := cells8 hb4
            (try dsimp only at z0 z1 z2 z3 z4 z5 z6 z7)
            refine bodyPost_ret (by simp [results, Tryz.results48, go_sem, z0, z1, z2, z3, z4, z5, z6, z7]; try rfl) rfl ?_
            rw [hW4]
            exact dec_done HDD.out rfl (fr_set8 HFw.out (Nat.le_refl _) _ _ _ _ _ _ _ _) (own_far8 (own_base_le HO.out HF5.out.size) (own_apart HO.out (blk_lt HC2'.out)) _ _ _ _ _ _ _ _)
      · have hcbf : cfB c = false := by simpa using hcb
        clear hcb
        have HE : Aside0 (decP bs = (cf0, [], 0, 8)) := ⟨by unfold decP; rw [if_neg (by have := HLC.out; omega), if_neg (by omega), HCF.out, if_neg (by rw [hcbf]; decide)]⟩
        go_wp2_with (first | (go_at_call 10; refine (confRight_calls c _).mono ?_; rintro e w5 ⟨rfl, hw5⟩; rw [hcbf]; have hB2 := blk_below HC2.out hw5; have HB2 := Aside0.mk hB2; have HF5 := Aside0.mk (HF.out.below hw5); obtain ⟨r0, r1, r2, r3, r4, r5, r6, r7⟩ := cells8 hB2; have f0 := blk_frozen hB2 0; have f1 := blk_frozen hB2 1; have f2 := blk_frozen hB2 2; have f3 := blk_frozen hB2 3; have f4 := blk_frozen hB2 4; have f5 := blk_frozen hB2 5; have f6 := blk_frozen hB2 6; have f7 := blk_frozen hB2 7; clear hw5 hB2))
        obtain ⟨W4, hW4, hb4⟩ := set8 HB2.out ⟨0, 0, 0, 0, 0, 0, 0, 0⟩
        (try dsimp only at hW4)
        rw [← hW4]
        obtain ⟨z0, z1, z2, z3, z4, z5, z6, z7⟩ := cells8 hb4
        (try dsimp only at z0 z1 z2 z3 z4 z5 z6 z7)
        refine bodyPost_ret (by simp [results, Tryz.results48, go_sem, z0, z1, z2, z3, z4, z5, z6, z7]; try rfl) rfl ?_
        rw [hW4]
        exact dec_short HE.out rfl (fr_set8 HF5.out (Nat.le_refl _) _ _ _ _ _ _ _ _)
end Go.Proofs.YtfkamoiamebngaaGreatDoor.ScrW

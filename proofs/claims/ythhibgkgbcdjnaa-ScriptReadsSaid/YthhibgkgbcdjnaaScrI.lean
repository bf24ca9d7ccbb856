/- ScriptReads, walked: what is read is written so, up to where the bytes are none. -/
import Derived.Test.YthhibgkgbcdjnaaScrH
namespace Go.Proofs.Ythhibgkgbcdjnaa.ScrW
open Go.RowKit Go.Proofs.YthhibgkgbcdjnaaW.PrintWords Go.Proofs.YthhibgkgbcdjnaaW.PrintMore Go.Proofs.Ythhibgkgbcdjnaa.Fr Go.Proofs.Ythhibgkgbcdjnaa.ScrP Go.Proofs.Ythhibgkgbcdjnaa.Openers
set_option linter.unusedVariables false
set_option linter.unusedSimpArgs false

namespace Reads
attribute [local go_sem ↓] Go.wp_at_zero Go.wp_at_succ
set_option maxHeartbeats 4000000 in
set_option maxRecDepth 100000 in
theorem scriptReads_walk (bs : List Int) (A : Option Addr) (cp : Nat) (w : World) (hc : bs.length ≤ cp) (hcm : cp ≤ 9223372036854775807) (hr : ReadsInt w .u8 A bs.length bs) (hb : isB bs) :
    Calls Try.prog 4 #[.slice A bs.length cp] w fun e w' => e = .returned (.bool true) ∧ Fr nope w w' := by
  have HR := Aside0.mk hr
  have HB := Aside0.mk hb
  clear hr hb
  by_cases h8 : 800 < bs.length
  · have t1 : decide (800 < (bs.length : Int)) = true := decide_eq_true (by omega)
    clear h8
    go_enter Try.func4, Try.ntmps4
    go_wp2_with (first | (go_at_call 7; refine (head_calls _).mono ?_; rintro e1 w1 ⟨rfl, hf1⟩; have HF1 := Aside0.mk hf1; clear hf1))
    go_returns
    exact ⟨rfl, HF1.out⟩
  have t1 : decide (800 < (bs.length : Int)) = false := decide_eq_false (by omega)
  by_cases h24 : bs.length < 24
  · have hd : decP bs = (cf0, [], 0, 5) := by unfold decP; rw [if_neg (by omega), if_pos h24]
    have HD := Aside0.mk hd
    have t2 : decide ((bs.length : Int) < 24) = true := decide_eq_true (by omega)
    clear h8 h24 hd
    go_enter Try.func4, Try.ntmps4
    go_wp2_with (first | (go_at_call 7; refine (head_calls _).mono ?_; rintro e1 w1 ⟨rfl, hf1⟩; have HF1 := Aside0.mk hf1; clear hf1) | (go_at_call 13; have hq := decode_calls bs A cp w1 hc hcm (HF1.out.reads HR.out (fun _ _ h => h)) HB.out; refine hq.mono ?_; clear hq; rintro e2 w2 ⟨v2, rfl, hf2, ho2⟩; rw [HD.out] at ho2; rw [HD.out]; obtain ⟨B2, d2, rfl, _, _⟩ := own_readsEv ho2 (fun e he => by simp at he) (by simp); unfold cfV cf0; dsimp only; simp only [List.length_nil]; have HF2 := Aside0.mk (frT HF1.out hf2); clear hf2 ho2))
    go_returns
    exact ⟨rfl, HF2.out.alloc _⟩
  have t2 : decide ((bs.length : Int) < 24) = false := decide_eq_false (by omega)
  have H8 : Aside0 (24 ≤ bs.length ∧ bs.length ≤ 800) := ⟨by omega⟩
  obtain ⟨c, hcf⟩ : ∃ c, cfOf bs = c := ⟨_, rfl⟩
  have HCF := Aside0.mk hcf
  by_cases hcb : cfB c = true
  · obtain ⟨L, n, x, hd, hL, hn1, hn2, hE, hLl, hLs, hx⟩ := dec_back bs HB.out (by omega) (by omega) c hcf hcb
    have HD := Aside0.mk hd
    have HL := Aside0.mk hL
    have HE := Aside0.mk hE
    have HX := Aside0.mk hx
    have HCB := Aside0.mk hcb
    exact reads_good bs A cp w hc hcm HR HB H8 c L n x HD HL hn1 hn2 HE hLl hLs HCB HX
  · have hcbf : cfB c = false := by simpa using hcb
    have hd : decP bs = (cf0, [], 0, 8) := by unfold decP; rw [if_neg (by omega), if_neg (by omega), hcf, if_neg hcb]
    have HD := Aside0.mk hd
    have HCB := Aside0.mk hcbf
    clear hd hcf h8 h24 hcb hcbf
    go_enter Try.func4, Try.ntmps4
    go_wp2_with (first | (go_at_call 7; refine (head_calls _).mono ?_; rintro e1 w1 ⟨rfl, hf1⟩; have HF1 := Aside0.mk hf1; clear hf1) | (go_at_call 13; have hq := decode_calls bs A cp w1 hc hcm (HF1.out.reads HR.out (fun _ _ h => h)) HB.out; refine hq.mono ?_; clear hq; rintro e2 w2 ⟨v2, rfl, hf2, ho2⟩; rw [HD.out] at ho2; rw [HD.out]; obtain ⟨B2, d2, rfl, _, _⟩ := own_readsEv ho2 (fun e he => by simp at he) (by simp); unfold cfV cf0; dsimp only; simp only [List.length_nil]; have HF2 := Aside0.mk (frT HF1.out hf2); clear hf2 ho2))
    have HB0 : Aside0 (((w2.alloc (.cells (cfCells cf0) 23)).alloc (.cells (cfCells cf0) 41)).heap[w2.heap.size + 1]? = some (.cells (cfCells (cfPart bs 0)) 41 (0, 0))) := ⟨by
      rw [← World.size_alloc w2 (.cells (cfCells cf0) 23)]; exact blk_new _ _⟩
    have HF3 : Aside0 (Fr nope w ((w2.alloc (.cells (cfCells cf0) 23)).alloc (.cells (cfCells cf0) 41))) := ⟨(HF2.out.alloc _).alloc _⟩
    go_loopw [60] (fun v60 wr => ∃ k : Nat, v60 = .int .i64 k ∧ k ≤ 8 ∧ Aside0 (wr.heap[w2.heap.size + 1]? = some (.cells (cfCells (cfPart bs k)) 41 (0, 0))) ∧ Aside0 (Fr nope w wr)) (fun i _ => 8 - (intOf i).toNat)
    case atStart => exact ⟨0, rfl, Nat.zero_le _, HB0, HF3⟩
    case round =>
      clear HB0 HF3
      obtain ⟨k, rfl, hk, HBk, HF⟩ := hrel
      by_cases hlt : k < 8
      · obtain ⟨ad, hAd, _⟩ := HR.out.2.2 (by have := H8.out; omega)
        subst hAd
        obtain ⟨x0, hx0⟩ : ∃ x, bs.getD (3 * k) 0 = x := ⟨_, rfl⟩
        obtain ⟨x1, hx1⟩ : ∃ x, bs.getD (3 * k + 1) 0 = x := ⟨_, rfl⟩
        obtain ⟨x2, hx2⟩ : ∃ x, bs.getD (3 * k + 2) 0 = x := ⟨_, rfl⟩
        have HQ : Aside0 (∀ w', Fr nope w w' → w'.cell? (ad.add (3 * (k : Int)).toNat) = some (.int .u8 x0) ∧ w'.cell? (ad.add (3 * (k : Int) + 1).toNat) = some (.int .u8 x1) ∧ w'.cell? (ad.add (3 * (k : Int) + 2).toNat) = some (.int .u8 x2)) := ⟨fun w' hF => by
          obtain ⟨ad2, he, hcells⟩ := (hF.reads HR.out (fun _ _ h => h)).2.2 (by have := H8.out; omega)
          injection he with he
          subst he
          have q0 := hcells (3 * k) (by have := H8.out; omega)
          have q1 := hcells (3 * k + 1) (by have := H8.out; omega)
          have q2 := hcells (3 * k + 2) (by have := H8.out; omega)
          rw [hx0, show 3 * k = (3 * (k : Int)).toNat by omega] at q0
          rw [hx1, show 3 * k + 1 = (3 * (k : Int) + 1).toNat by omega] at q1
          rw [hx2, show 3 * k + 2 = (3 * (k : Int) + 2).toNat by omega] at q2
          exact ⟨q0, q1, q2⟩⟩
        have hr0 : 0 ≤ x0 ∧ x0 ≤ 255 := by rw [← hx0]; exact getD_isB HB.out (by have := H8.out; omega)
        have hr1 : 0 ≤ x1 ∧ x1 ≤ 255 := by rw [← hx1]; exact getD_isB HB.out (by have := H8.out; omega)
        have hr2 : 0 ≤ x2 ∧ x2 ≤ 255 := by rw [← hx2]; exact getD_isB HB.out (by have := H8.out; omega)
        have i0 : (0 : Int) ≤ 3 * (k : Int) := by omega
        have i1 : 3 * (k : Int) < (bs.length : Int) := by have := H8.out; omega
        have i2 : 3 * (k : Int) + 1 < (bs.length : Int) := by have := H8.out; omega
        have i3 : 3 * (k : Int) + 2 < (bs.length : Int) := by have := H8.out; omega
        have i4 : (k : Int) < 8 := by omega
        have j0 : (0 : Int) ≤ 3 * (k : Int) + 1 := by omega
        have j1 : (0 : Int) ≤ 3 * (k : Int) + 2 := by omega
        have v0 : IntKind.i64.wrap (3 * (k : Int)) = 3 * (k : Int) := by rw [IntKind.wrap_i64]; omega
        have v1 : IntKind.i64.wrap (3 * (k : Int) + 1) = 3 * (k : Int) + 1 := by rw [IntKind.wrap_i64]; omega
        have v2 : IntKind.i64.wrap (3 * (k : Int) + 2) = 3 * (k : Int) + 2 := by rw [IntKind.wrap_i64]; omega
        have u0 : IntKind.i64.wrap x0 = x0 := by rw [IntKind.wrap_i64]; omega
        have u1 : IntKind.i64.wrap x1 = x1 := by rw [IntKind.wrap_i64]; omega
        have u2 : IntKind.i64.wrap x2 = x2 := by rw [IntKind.wrap_i64]; omega
        have u3 : IntKind.i64.wrap (65536 * x0) = 65536 * x0 := by rw [IntKind.wrap_i64]; omega
        have u4 : IntKind.i64.wrap (256 * x1) = 256 * x1 := by rw [IntKind.wrap_i64]; omega
        have u5 : IntKind.i64.wrap (65536 * x0 + 256 * x1) = 65536 * x0 + 256 * x1 := by rw [IntKind.wrap_i64]; omega
        have u6 : IntKind.i64.wrap (65536 * x0 + 256 * x1 + x2) = 65536 * x0 + 256 * x1 + x2 := by rw [IntKind.wrap_i64]; omega
        have c1 : wr.cell? ⟨w2.heap.size + 1, k, none⟩ = some (.int .i64 ((cfL (cfPart bs k)).getD k 0)) := (blk_cell HBk.out k).trans (cfCells_at _ k hlt)
        have f1 := blk_frozen HBk.out k
        obtain ⟨y, hy⟩ : ∃ y, (cfL (cfPart bs k)).getD k 0 = y := ⟨_, rfl⟩
        rw [hy] at c1
        have HXX := Aside0.mk (And.intro hx0 (And.intro hx1 hx2))
        have HB' : Aside0 ((wr.setCell ⟨w2.heap.size + 1, k, none⟩ (.int .i64 (65536 * x0 + 256 * x1 + x2))).heap[w2.heap.size + 1]? = some (.cells (cfCells (cfPart bs (k + 1))) 41 (0, 0))) := ⟨by
          rw [← cfPart_step bs k hlt, ← rd3 bs k (by have := H8.out; omega) hx0 hx1 hx2]; exact blk_set HBk.out k _⟩
        have HF' : Aside0 (Fr nope w (wr.setCell ⟨w2.heap.size + 1, k, none⟩ (.int .i64 (65536 * x0 + 256 * x1 + x2)))) := ⟨HF.out.set (fun h => by have := HF2.out.size; omega) k _⟩
        clear hx0 hx1 hx2 hy
        go_wp2
        go_region_held3 (fun w' => w'.cell? (ad.add (3 * (k : Int)).toNat) = some (.int .u8 x0) ∧ w'.cell? (ad.add (3 * (k : Int) + 1).toNat) = some (.int .u8 x1) ∧ w'.cell? (ad.add (3 * (k : Int) + 2).toNat) = some (.int .u8 x2))
          (first | exact HQ.out _ HF.out.drew | exact HQ.out _ HF'.out.drew | fail)
          (fail)
        go_wp2
        case roundEnd =>
          refine ⟨⟨k + 1, by push_cast; rfl, hlt, HB', ⟨HF'.out.drew⟩⟩, ?_⟩
          simp only [intOf]
          omega
      · obtain rfl : k = 8 := by omega
        rw [show cfPart bs 8 = c from HCF.out] at HBk
        obtain ⟨c0, c1, c2, c3, c4, c5, c6, c7⟩ := cells8 HBk.out
        go_wp2_with (first | (go_at_call 9; refine (law13_calls c _).mono ?_; rintro e3 w3 ⟨rfl, hf3⟩; rw [HCB.out]; have HF4 := Aside0.mk (frT HF.out hf3); clear hf3))
        go_returns
        exact ⟨rfl, HF4.out⟩
theorem scriptReads_row (w : World) (A : Option Addr) (cp : Nat) (xs : List Int) (hc : xs.length ≤ cp) (hr : ReadsInt w .u8 A xs.length xs) (hw : ∀ x ∈ xs, (Lit.int .u8 x).wf = true) {p : Prop} (_ : p) (hcm : cp ≤ 9223372036854775807) :
    Calls Try.prog 4 #[.slice A xs.length cp] w fun e w' => e = .returned (.bool true) ∧ Below w.heap.size w w' :=
  (scriptReads_walk xs A cp w hc hcm hr (fun x hx => by have h := hw x hx; have e1 : IntKind.u8.min = 0 := rfl; have e2 : IntKind.u8.max = 255 := rfl; simp [Lit.wf] at h; omega)).mono fun e w' h => ⟨h.1, h.2.to_below (Nat.le_refl _) (fun i h => h.elim)⟩
end Reads
end Go.Proofs.Ythhibgkgbcdjnaa.ScrW

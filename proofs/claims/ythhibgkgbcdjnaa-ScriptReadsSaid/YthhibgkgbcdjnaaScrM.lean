/- Same: a row of events is the same as itself; head. -/
import Derived.Test.YthhibgkgbcdjnaaScrD
import Derived.Test.YthhibgkgbcdjnaaScrB
import Derived.Deep.RegionHeld3
namespace Go.Proofs.Ythhibgkgbcdjnaa.ScrW
open Go.RowKit Go.Proofs.YthhibgkgbcdjnaaW.PrintWords Go.Proofs.YthhibgkgbcdjnaaW.PrintMore Go.Proofs.Ythhibgkgbcdjnaa.Fr Go.Proofs.Ythhibgkgbcdjnaa.ScrP Go.Proofs.Ythhibgkgbcdjnaa.Openers
set_option linter.unusedVariables false
set_option linter.unusedSimpArgs false

set_option maxHeartbeats 2000000 in
set_option maxRecDepth 100000 in
theorem same_calls (L : List Ev) (A B : Option Addr) (cp cq : Nat) (w : World) (hr : ReadsEv w A L) (hr2 : ReadsEv w B L) :
    Calls Try.prog 15 #[.slice A L.length cp, .slice B L.length cq] w fun e w' => e = .returned (.bool true) ∧ Fr nope w w' := by
  have hlm := hr.1
  have HR := Aside0.mk hr
  have HR2 := Aside0.mk hr2
  clear hr hr2
  go_enter Try.func15, Try.ntmps15
  go_wp2
  go_loopw [13] (fun v13 wr => ∃ (k : Nat), v13 = .int .i64 k ∧ k ≤ L.length ∧ Aside0 (Fr nope w wr)) (fun i _ => L.length - (intOf i).toNat)
  case atStart => exact ⟨0, rfl, Nat.zero_le _, ⟨Fr.refl _ _⟩⟩
  case round =>
    obtain ⟨k, rfl, hk, HF⟩ := hrel
    by_cases hlt : k < L.length
    · obtain ⟨e, he⟩ : ∃ e, L.getD k ev0 = e := ⟨_, rfl⟩
      obtain ⟨ad, rfl, g0, g1, g2, g3, hsz⟩ := evCells HR.out k hlt e he HF.out
      obtain ⟨ad2, rfl, l0, l1, l2, l3, hsz2⟩ := evCells HR2.out k hlt e he HF.out
      have h0 : (0 : Int) ≤ (k : Int) := by omega
      have h1 : (k : Int) < (L.length : Int) := by omega
      clear he
      go_wp2
      go_quiet (fail)
      go_wp2
      case roundEnd =>
        refine ⟨⟨k + 1, by push_cast; rfl, hlt, ⟨HF.out.drewN _⟩⟩, ?_⟩
        simp only [intOf]
        omega
    · go_wp2
      go_returns
      exact ⟨rfl, HF.out⟩

def tick : Ev := ⟨5, 0, 0, ⟨#[]⟩⟩
def headB : List Int := [0, 16, 0, 0, 2, 0, 0, 8, 0, 0, 1, 0, 0, 0, 3, 0, 0, 100, 0, 0, 0, 0, 0, 80, 5, 0, 0, 0, 0, 0, 0]
theorem head_enc : encB cfD [tick] = headB := rfl
theorem cfD_right : cfB cfD = true := by decide
theorem tick_right : evB tick = true := by decide
theorem enc_dec (c : Cf) (L : List Ev) (hc : cfB c = true) (hL : ∀ e ∈ L, evB e = true) (h8 : L.length ≤ 8192) (hl : (encB c L).length ≤ 262144) : decP (encB c L) = (c, L, (encB c L).length, 0) := by
  unfold decP
  have h24 : ¬ (encB c L).length < 24 := by rw [encB_eq, List.length_append, cfBytes_len]; omega
  rw [if_neg (by omega), if_neg h24, encB_eq, cfOf_enc c _ hc, if_pos hc]
  have h := decGo_enc L (cfBytes c ++ flat L).length (cfBytes c) [] hL (by rw [List.length_append, flat_len]; omega) (by simpa using h8)
  rw [cfBytes_len] at h
  rw [h]
  rfl
theorem isB_be3 (n : Int) : isB (be3 n) := by
  intro x hx
  simp only [be3, List.mem_cons, List.not_mem_nil, or_false] at hx
  omega
theorem isB_append {a b : List Int} (ha : isB a) (hb : isB b) : isB (a ++ b) := fun x hx => by
  rcases List.mem_append.1 hx with h | h
  · exact ha x h
  · exact hb x h
theorem isB_bytesOf (d : ByteArray) : isB (bytesOf d) := by
  intro x hx
  simp only [bytesOf, List.mem_map] at hx
  obtain ⟨b, _, rfl⟩ := hx
  have := b.toNat_lt
  omega
theorem isB_ev (e : Ev) : isB (evBytes e) := by
  unfold evBytes
  refine isB_append (isB_append (isB_append ?_ (isB_be3 _)) ?_) (isB_bytesOf _)
  · intro x hx; simp only [List.mem_cons, List.not_mem_nil, or_false] at hx; omega
  · intro x hx; simp only [be2, List.mem_cons, List.not_mem_nil, or_false] at hx; omega
theorem isB_flat (L : List Ev) : isB (flat L) := by
  induction L with
  | nil => intro x hx; simp [flat] at hx
  | cons e L ih => rw [flat_cons]; exact isB_append (isB_ev e) ih
theorem isB_cf (c : Cf) : isB (cfBytes c) := by
  unfold cfBytes cfL
  simp only [List.map_cons, List.map_nil, List.flatten_cons, List.flatten_nil]
  exact isB_append (isB_be3 _) (isB_append (isB_be3 _) (isB_append (isB_be3 _) (isB_append (isB_be3 _) (isB_append (isB_be3 _) (isB_append (isB_be3 _) (isB_append (isB_be3 _) (isB_append (isB_be3 _) (fun x hx => by simp at hx))))))))
theorem isB_enc (c : Cf) (L : List Ev) : isB (encB c L) := isB_append (isB_cf c) (isB_flat L)
/-- a row of bytes of one's own, as it is read -/
theorem owns_reads {w wr : World} {v : Value} {xs : List Int} (h : Owns w wr v xs) : ∃ A c, v = .slice A xs.length c ∧ xs.length ≤ c ∧ c ≤ 9223372036854775807 ∧ ReadsInt wr .u8 A xs.length xs := by
  obtain ⟨h1, h2⟩ := h
  rcases h2 with ⟨rfl, h0⟩ | ⟨g, cap, cur, rfl, hb, hh, hn, hm, r⟩
  · have : xs = [] := List.eq_nil_of_length_eq_zero h0
    subst this
    exact ⟨none, 0, rfl, Nat.le_refl _, by omega, reads_nil _ _ _⟩
  · refine ⟨_, cap, rfl, hn, by simpa [maxLen] using hm, own_reads' (base := w.heap.size) (e := 5) (c := cap) ⟨h1, .inr ⟨g, cap, cur, rfl, hb, hh, hn, hm, r⟩⟩⟩

theorem readsEv_one {w : World} {g : Nat} {e : Ev} (hB : w.heap[g]? = some (.cells #[.int .i64 e.k, .int .i64 e.i, .int .i64 e.n, .string e.d] 30 (0, 0))) (hd : e.d.size ≤ 140737488351232) : ReadsEv w (some ⟨g, 0, none⟩) [e] := by
  refine ⟨by simp, fun _ => ⟨_, rfl, fun j hj => ?_⟩⟩
  obtain rfl : j = 0 := by simpa using hj
  refine ⟨?_, ?_, ?_, ?_, hd⟩
  · rw [add_plain]; exact (blk_cell hB 0).trans rfl
  · rw [add_plain]; exact (blk_cell hB 1).trans rfl
  · rw [add_plain]; exact (blk_cell hB 2).trans rfl
  · rw [add_plain]; exact (blk_cell hB 3).trans rfl
/-- Encode, where all may be written -/
theorem encode_good (c : Cf) (L : List Ev) (A : Option Addr) (cp : Nat) (w : World) (hr : ReadsEv w A L) (hc : cfB c = true) (hL : ∀ e ∈ L, evB e = true) (h8 : L.length ≤ 8192) (hs : sz L ≤ 100000) :
    Calls Try.prog 12 #[cfV c, .slice A L.length cp] w fun e w' => ∃ A1 c1, e = .returned (.tuple #[.slice A1 (encB c L).length c1, .int .i64 0]) ∧ (encB c L).length ≤ c1 ∧ c1 ≤ 9223372036854775807 ∧ Fr nope w w' ∧ ReadsInt w' .u8 A1 (encB c L).length (encB c L) := by
  refine (encode_calls c L A cp w hr (.inr hs)).mono ?_
  rintro e w' ⟨v, x, rfl, hF, h | h | h⟩
  · omega
  · exact absurd ⟨hc, hL⟩ h.2.1
  · obtain ⟨_, _, _, rfl, ho⟩ := h
    obtain ⟨A1, c1, rfl, h1, h2, h3⟩ := owns_reads ho
    exact ⟨A1, c1, rfl, h1, h2, hF, h3⟩
/-- Decode of what was written -/
theorem decode_good (c : Cf) (L : List Ev) (A : Option Addr) (cp : Nat) (w : World) (hc : cfB c = true) (hL : ∀ e ∈ L, evB e = true) (h8 : L.length ≤ 8192) (hs : sz L ≤ 100000) (hcp : (encB c L).length ≤ cp) (hcm : cp ≤ 9223372036854775807) (hr : ReadsInt w .u8 A (encB c L).length (encB c L)) :
    Calls Try.prog 13 #[.slice A (encB c L).length cp] w fun e w' => ∃ B d, e = .returned (.tuple #[cfV c, .slice B L.length d, .int .i64 (encB c L).length, .int .i64 0]) ∧ L.length ≤ d ∧ Fr nope w w' ∧ ReadsEv w' B L := by
  refine (decode_calls (encB c L) A cp w hcp hcm hr (isB_enc c L)).mono ?_
  rintro e w' ⟨v, rfl, hF, ho⟩
  have hl : (encB c L).length ≤ 262144 := by rw [encB_eq, List.length_append, cfBytes_len, flat_len]; omega
  rw [enc_dec c L hc hL h8 hl] at ho ⊢
  obtain ⟨B, d, rfl, hd, hr⟩ := own_readsEv ho (fun e he => by have := (evB_facts (hL e he)).2.2.2; omega) (by show L.length ≤ _; omega)
  exact ⟨B, d, rfl, hd, hF, hr⟩

set_option maxHeartbeats 2000000 in
set_option maxRecDepth 100000 in
theorem head_calls (w : World) : Calls Try.prog 7 #[] w fun e w' => e = .returned (.bool true) ∧ Fr nope w w' := by
  go_enter Try.func7, Try.ntmps7
  go_wp2_with (first | (go_at_call 16; refine (default_calls _).mono ?_; rintro e w1 ⟨rfl, hw1⟩; unfold cfV; have HW1 := Aside0.mk (Fr.of_below (S := nope) hw1); clear hw1) | (go_at_call 12; refine (encode_good cfD [tick] _ 1 _ (readsEv_one (blk_new _ _) (by decide)) cfD_right (by simp [tick_right]) (by decide) (by decide)).mono ?_; rintro e2 w2 ⟨A, cb, rfl, hc, hcm, hf2, hr2⟩; rw [head_enc] at hc hr2; rw [head_enc]; obtain ⟨ad, rfl, hcells⟩ := hr2.2.2 (by decide); have q24 : w2.cell? ⟨ad.block, ad.off + 24, none⟩ = some (.int .u8 5) := (by have h := hcells 24 (by decide); rw [show (24 : Nat) = 23 + 1 from rfl, add_succ] at h; exact h); have q30 : w2.cell? ⟨ad.block, ad.off + 30, none⟩ = some (.int .u8 0) := (by have h := hcells 30 (by decide); rw [show (30 : Nat) = 29 + 1 from rfl, add_succ] at h; exact h); have HR2 := Aside0.mk hr2; have HF2 := Aside0.mk hf2; have hc31 : 31 ≤ cb := hc; clear hcells hr2 hf2 hc) | (go_at_call 13; have hq := decode_good cfD [tick] (some ad) cb w2 cfD_right (by simp [tick_right]) (by decide) (by decide) hc31 hcm HR2.out; rw [head_enc] at hq; refine hq.mono ?_; clear hq; rintro e3 w3 ⟨B, d, rfl, hd, hf3, hr3⟩; unfold cfV; obtain ⟨ae, rfl, hcs⟩ := hr3.2 (by decide); have h0 := (hcs 0 (by decide)).1; have h1 := (hcs 0 (by decide)).2.1; have h2 := (hcs 0 (by decide)).2.2.1; have h3 := (hcs 0 (by decide)).2.2.2.1; rw [add_field _ _ _ (by decide)] at h1 h2 h3; have HE := Aside0.mk (And.intro h0 (And.intro h1 (And.intro h2 h3))); have HF3 := Aside0.mk hf3; clear hcs hr3 hf3 h0 h1 h2 h3))
  have HK : Aside0 (∀ w', Fr nope (w3.alloc (.cells (cfCells cfD) 23)) w' → Fr nope (w3.alloc (.cells (cfCells cfD) 23)) w' ∧ w'.cell? ⟨w3.heap.size, 0, none⟩ = some (.int .i64 cfD.a0) ∧ w'.cell? ⟨w3.heap.size, 1, none⟩ = some (.int .i64 cfD.a1) ∧ w'.cell? ⟨w3.heap.size, 2, none⟩ = some (.int .i64 cfD.a2) ∧ w'.cell? ⟨w3.heap.size, 3, none⟩ = some (.int .i64 cfD.a3) ∧ w'.cell? ⟨w3.heap.size, 4, none⟩ = some (.int .i64 cfD.a4) ∧ w'.cell? ⟨w3.heap.size, 5, none⟩ = some (.int .i64 cfD.a5) ∧ w'.cell? ⟨w3.heap.size, 6, none⟩ = some (.int .i64 cfD.a6) ∧ w'.cell? ⟨w3.heap.size, 7, none⟩ = some (.int .i64 cfD.a7) ∧ w'.cell? ae = some (.int .i64 5) ∧ w'.cell? ⟨ae.block, ae.off + 1, none⟩ = some (.int .i64 0) ∧ w'.cell? ⟨ae.block, ae.off + 2, none⟩ = some (.int .i64 0) ∧ w'.cell? ⟨ae.block, ae.off + 3, none⟩ = some (.string ⟨#[]⟩)) := ⟨fun w' hF => by
    have up : ∀ {a : Addr} {v : Value}, w3.cell? a = some v → w'.cell? a = some v := fun h => by
      have hb := World.block_lt_of_cell? w3 _ h
      rw [World.cell?_of_block (hF.block _ (by simp; omega) (fun h => h)), World.cell?_of_block (Below.heap_alloc w3 _ _ hb)]; exact h
    have hc := cells8 (hF.blk (blk_new w3 _) (fun h => h))
    obtain ⟨h0, h1, h2, h3⟩ := HE.out
    simp only [Nat.zero_mul] at h0 h1 h2 h3
    have ez : ae.add 0 = ae := by simp [Addr.add]
    rw [ez] at h0 h1 h2 h3
    exact ⟨hF, hc.1, hc.2.1, hc.2.2.1, hc.2.2.2.1, hc.2.2.2.2.1, hc.2.2.2.2.2.1, hc.2.2.2.2.2.2.1, hc.2.2.2.2.2.2.2, up h0, up h1, up h2, up h3⟩⟩
  have HF4 : Fr nope (w3.alloc (.cells (cfCells cfD) 23)) (w3.alloc (.cells (cfCells cfD) 23)) := Fr.refl _ _
  go_region_held3 (fun w' => Fr nope (w3.alloc (.cells (cfCells cfD) 23)) w' ∧ w'.cell? ⟨w3.heap.size, 0, none⟩ = some (.int .i64 cfD.a0) ∧ w'.cell? ⟨w3.heap.size, 1, none⟩ = some (.int .i64 cfD.a1) ∧ w'.cell? ⟨w3.heap.size, 2, none⟩ = some (.int .i64 cfD.a2) ∧ w'.cell? ⟨w3.heap.size, 3, none⟩ = some (.int .i64 cfD.a3) ∧ w'.cell? ⟨w3.heap.size, 4, none⟩ = some (.int .i64 cfD.a4) ∧ w'.cell? ⟨w3.heap.size, 5, none⟩ = some (.int .i64 cfD.a5) ∧ w'.cell? ⟨w3.heap.size, 6, none⟩ = some (.int .i64 cfD.a6) ∧ w'.cell? ⟨w3.heap.size, 7, none⟩ = some (.int .i64 cfD.a7) ∧ w'.cell? ae = some (.int .i64 5) ∧ w'.cell? ⟨ae.block, ae.off + 1, none⟩ = some (.int .i64 0) ∧ w'.cell? ⟨ae.block, ae.off + 2, none⟩ = some (.int .i64 0) ∧ w'.cell? ⟨ae.block, ae.off + 3, none⟩ = some (.string ⟨#[]⟩))
    (first | exact HK.out _ HF4.drew | exact HK.out _ hf9 | fail)
    (first | (go_at_call 16; refine (default_calls _).mono ?_; rintro e9 w9 ⟨rfl, hw9⟩; unfold cfV; have hf9 := HF4.drew.below hw9; clear hw9) | fail)
  go_wp2
  go_returns
  exact ⟨rfl, ((((HW1.out.alloc _).trans HF2.out (fun i hi h => h.elim)).trans HF3.out (fun i hi h => h.elim)).alloc _).trans hf9 (fun i hi h => h.elim)⟩
end Go.Proofs.Ythhibgkgbcdjnaa.ScrW

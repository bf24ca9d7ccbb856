/- ScriptMany: as many events as there may be, and more. -/
import Derived.Test.YthhibgkgbcdjnaaScrM
import Derived.Laws.MakeOwn
import Derived.Deep.DrawnRows
namespace Go.Proofs.Ythhibgkgbcdjnaa.ScrW
open Go.RowKit Go.Proofs.YthhibgkgbcdjnaaW.PrintWords Go.Proofs.YthhibgkgbcdjnaaW.PrintMore Go.Proofs.Ythhibgkgbcdjnaa.Fr Go.Proofs.Ythhibgkgbcdjnaa.ScrP Go.Proofs.Ythhibgkgbcdjnaa.Openers
set_option linter.unusedVariables false
set_option linter.unusedSimpArgs false

theorem i64_and7 (n : Int) : bits .and .i64 n 7 = n % 8 := by
  have h7 : (BitVec.ofInt 64 7).toNat = 2 ^ 3 - 1 := by decide
  have key : (BitVec.ofInt 64 n &&& BitVec.ofInt 64 7).toNat = (n % ((2 ^ 64 : Nat) : Int)).toNat % 2 ^ 3 := by
    rw [BitVec.toNat_and, BitVec.toNat_ofInt, h7, Nat.and_two_pow_sub_one_eq_mod]
  show IntKind.i64.wrap ((BitVec.ofInt 64 n &&& BitVec.ofInt 64 7).toNat : Nat) = n % 8
  rw [key, IntKind.wrap_i64]
  omega
theorem run_make_rowN {P : Program} (t e : TypeId) (i : TypeInfo) (z : Value) (ht : P.underlying t = some (.slice e)) (hi : P.info? e = some i) (hz : i.zero = some z)
    (kl kc : IntKind) (n c : Nat) (hnc : n ≤ c) (hbytes : i.bytes * c ≤ 281474976710656) (h63 : c ≤ 9223372036854775807) (w : World) :
    (Instr.makeSlice t (.int kl (n : Int)) (.int kc (c : Int))).run P w = .ok (.slice (some ⟨w.heap.size, 0, none⟩) n c) (w.alloc (.cells (madeCells z.cells (c * i.size)) e)) := by
  have hb : (i.bytes : Int) * (c : Int) ≤ 281474976710656 := by
    have h : ((i.bytes * c : Nat) : Int) ≤ 281474976710656 := by omega
    rwa [Int.natCast_mul] at h
  have hr := run_make (P := P) w t e i z ht hi hz kl kc n c (by omega) (by omega) hb (by omega)
  simp only [Int.toNat_natCast] at hr
  exact hr

/-- so many ticks, and empty events behind -/
def tk (k N : Nat) : List Ev := List.replicate k tick ++ List.replicate (N - k) ev0
theorem tk_len (k N : Nat) (h : k ≤ N) : (tk k N).length = N := by simp [tk]; omega
theorem tk_all (N : Nat) : tk N N = List.replicate N tick := by simp [tk]
theorem evs_append (L M : List Ev) : evs (L ++ M) = evs L ++ evs M := by simp [evs]
theorem evs_cons (e : Ev) (L : List Ev) : evs (e :: L) = evC e ++ evs L := by simp [evs]
theorem tk_step (k N : Nat) (h : k < N) : (evs (tk k N)).set (k * 4) (.int .i64 5) = evs (tk (k + 1) N) := by
  unfold tk
  obtain ⟨m, hm⟩ : ∃ m, N - k = m + 1 := ⟨N - k - 1, by omega⟩
  rw [hm, show N - (k + 1) = m by omega, evs_append, evs_append, List.replicate_succ, evs_cons, List.set_append_right _ _ (by rw [evs_len]; simp)]
  have h0 : k * 4 - (evs (List.replicate k tick)).length = 0 := by rw [evs_len]; simp
  rw [h0, List.replicate_succ', evs_snoc, List.append_assoc]
  rfl
theorem made_zero : ∀ N : Nat, (madeCells (evV ev0).cells (N * 4)).toList = evs (tk 0 N) := by
  intro N
  apply List.ext_getElem
  · rw [evs_len, tk_len 0 N (by omega), Array.length_toList, size_madeCells]
  · intro j h1 h2
    rw [Array.length_toList, size_madeCells] at h1
    have hj : j = j / 4 * 4 + j % 4 := by omega
    have hq : j / 4 < (tk 0 N).length := by rw [tk_len 0 N (by omega)]; omega
    have he := evs_at (tk 0 N) (j / 4) (j % 4) hq (by omega)
    rw [← hj] at he
    have hg : (tk 0 N).getD (j / 4) ev0 = ev0 := by
      simp [tk]
      rcases Nat.lt_or_ge (j / 4) N with h | h
      · simp [h]
      · rw [List.getElem?_eq_none (by simpa using h)]; rfl
    rw [hg, List.getElem?_eq_getElem h2] at he
    have hl : (madeCells (evV ev0).cells (N * 4)).toList[j]'(by rw [Array.length_toList, size_madeCells]; exact h1) = (evV ev0).cells[j % 4]! := by
      simp [madeCells]
      rfl
    rw [hl]
    have h4 : j % 4 = 0 ∨ j % 4 = 1 ∨ j % 4 = 2 ∨ j % 4 = 3 := by omega
    rcases h4 with h | h | h | h
    all_goals (rw [h] at he ⊢; exact (Option.some.inj he.symm))
theorem readsEv_block {w : World} {g : Nat} {L : List Ev} (hB : w.heap[g]? = some (.cells (evs L).toArray 30 (0, 0))) (hl : L.length ≤ 140737488351232) (hd : ∀ e ∈ L, e.d.size ≤ 140737488351232) : ReadsEv w (some ⟨g, 0, none⟩) L := by
  refine ⟨hl, fun _ => ⟨_, rfl, fun j hj => ?_⟩⟩
  have hc : ∀ f, f < 4 → w.cell? ((⟨g, 0, none⟩ : Addr).add (j * 4 + f)) = (evC (L.getD j ev0))[f]? := fun f hf => by
    rw [add_plain, blk_cell hB, List.getElem?_toArray, evs_at L j f hj hf]
  exact ⟨hc 0 (by decide), hc 1 (by decide), hc 2 (by decide), hc 3 (by decide), hd _ (getD_mem L j hj _ rfl)⟩
theorem ticks_right (N : Nat) : ∀ e ∈ List.replicate N tick, evB e = true := fun e h => by rw [(List.mem_replicate.1 h).2]; exact tick_right
theorem ticks_sz (N : Nat) : sz (List.replicate N tick) = 0 := by
  induction N with
  | zero => rfl
  | succ n ih => rw [List.replicate_succ]; simp only [sz, List.map_cons, List.sum_cons] at *; rw [ih]; rfl
theorem ticks_enc (N : Nat) : (encB cfD (List.replicate N tick)).length = 24 + 7 * N := by
  rw [encB_eq, List.length_append, cfBytes_len, flat_len, ticks_sz, List.length_replicate]
  omega
theorem tk_zero_at (k N : Nat) (h : k < N) : (evs (tk k N))[k * 4]? = some (.int .i64 0) := by
  have := evs_at (tk k N) k 0 (by rw [tk_len k N (by omega)]; exact h) (by decide)
  rw [Nat.add_zero] at this
  rw [this]
  have hg : (tk k N).getD k ev0 = ev0 := by
    simp [tk]
    rw [List.getElem?_append_right (by simp)]
    simp
    obtain ⟨m, hm⟩ : ∃ m, N - k = m + 1 := ⟨N - k - 1, by omega⟩
    rw [hm]; rfl
  rw [hg]
  rfl

theorem encode_long (c : Cf) (L : List Ev) (A : Option Addr) (cp : Nat) (w : World) (hr : ReadsEv w A L) (h8 : 8192 < L.length) :
    Calls Try.prog 12 #[cfV c, .slice A L.length cp] w fun e w' => e = .returned (.tuple #[.slice none 0 0, .int .i64 6]) ∧ Fr nope w w' := by
  refine (encode_calls c L A cp w hr (.inl h8)).mono ?_
  rintro e w' ⟨v, x, rfl, hF, h | h | h⟩
  · obtain ⟨_, rfl, rfl⟩ := h; exact ⟨rfl, hF⟩
  · omega
  · omega
theorem dec_long (N : Nat) (h : 8192 < N) (h2 : N ≤ 8200) : decP (encB cfD (List.replicate N tick)) = (cfD, List.replicate 8192 tick, 57368, 6) := by
  have hl := ticks_enc N
  unfold decP
  rw [if_neg (by omega), if_neg (by omega), encB_eq, cfOf_enc cfD _ cfD_right, if_pos cfD_right]
  have hm := decGo_many (List.replicate N tick) (cfBytes cfD ++ flat (List.replicate N tick)).length (cfBytes cfD) [] (ticks_right N) (by rw [← encB_eq, hl, List.length_replicate]; omega) (by simp) (by simpa using h)
  rw [cfBytes_len] at hm
  rw [hm]
  have h8 : (List.replicate N tick).take (8192 - ([] : List Ev).length) = List.replicate 8192 tick := by
    rw [List.length_nil, List.take_replicate]
    congr 1
    omega
  rw [h8, List.nil_append, List.length_append, cfBytes_len, flat_len, ticks_sz, List.length_replicate]
theorem decode_long (N : Nat) (L : List Ev) (A : Option Addr) (cp : Nat) (w : World) (hL : L = List.replicate N tick) (h : 8192 < N) (h2 : N ≤ 8200) (hcp : (encB cfD L).length ≤ cp) (hcm : cp ≤ 9223372036854775807) (hr : ReadsInt w .u8 A (encB cfD L).length (encB cfD L)) :
    Calls Try.prog 13 #[.slice A (encB cfD L).length cp] w fun e w' => ∃ B d, e = .returned (.tuple #[cfV cfD, .slice B 8192 d, .int .i64 57368, .int .i64 6]) ∧ Fr nope w w' := by
  refine (decode_calls (encB cfD L) A cp w hcp hcm hr (isB_enc cfD L)).mono ?_
  rintro e w' ⟨v, rfl, hF, ho⟩
  have hd := dec_long N h h2
  rw [← hL] at hd
  rw [hd] at ho ⊢
  obtain ⟨B, d, rfl, _, _⟩ := own_readsEv ho (fun e he => by rw [(List.mem_replicate.1 he).2]; decide) (by rw [List.length_replicate]; omega)
  refine ⟨B, d, ?_, hF⟩
  simp only [List.length_replicate]
  rfl
theorem readsEv_fr {W W1 : World} {A : Option Addr} {L : List Ev} (h : ReadsEv W A L) (hF : Fr nope W W1) : ReadsEv W1 A L := by
  refine ⟨h.1, fun h0 => ?_⟩
  obtain ⟨ad, rfl, hcs⟩ := h.2 h0
  have back : ∀ {a : Addr} {v : Value}, W.cell? a = some v → W1.cell? a = some v := fun {a v} h => by
    rw [World.cell?_of_block (hF.block _ (World.block_lt_of_cell? W _ h) (fun h => h))]; exact h
  refine ⟨ad, rfl, fun j hj => ?_⟩
  obtain ⟨h0, h1, h2, h3, h4⟩ := hcs j hj
  exact ⟨back h0, back h1, back h2, back h3, h4⟩
theorem frT {a b c : World} (h : Fr nope a b) (k : Fr nope b c) : Fr nope a c := h.trans k (fun i hi h => h.elim)
attribute [local go_sem ↓] Go.wp_at_zero Go.wp_at_succ
set_option maxHeartbeats 4000000 in
set_option maxRecDepth 100000 in
theorem scriptMany_walk (n : Int) (w : World) :
    Calls Try.prog 6 #[.int .i64 n] w fun e w' => e = .returned (.bool true) ∧ Fr nope w w' := by
  obtain ⟨m, hm1, hm2⟩ : ∃ m : Nat, bits BinOp.and IntKind.i64 n 7 = m ∧ m ≤ 7 := ⟨(n % 8).toNat, by rw [i64_and7]; omega, by omega⟩
  obtain ⟨i30, hi30, hz30⟩ := Option.map_eq_some_iff.1 infoEv
  simp only [Prod.mk.injEq] at hz30
  obtain ⟨N, hN⟩ : ∃ N, N = 8189 + m := ⟨_, rfl⟩
  have hmk : ∀ W : World, (Instr.makeSlice 24 (.int .i64 (N : Int)) (.int .i64 (N : Int))).run Try.prog W = .ok (.slice (some ⟨W.heap.size, 0, none⟩) N N) (W.alloc (.cells (evs (tk 0 N)).toArray 30)) := fun W => by
    have h := run_make_rowN (P := Try.prog) 24 30 i30 (evV ev0) Try.underlying24 hi30 hz30.1 .i64 .i64 N N (Nat.le_refl _) (by rw [hz30.2.2]; omega) (by omega) W
    rw [hz30.2.1] at h
    rw [h, ← made_zero N, Array.toArray_toList]
  have hNb : 8189 ≤ N ∧ N ≤ 8196 := by omega
  have hNm : (8189 : Int) + (m : Int) = (N : Int) := by omega
  clear hi30 hz30 hN
  go_enter Try.func6, Try.ntmps6
  go_wp2_with (first | (go_at_call 7; refine (head_calls _).mono ?_; rintro e1 w1 ⟨rfl, hf1⟩; have HF1 := Aside0.mk hf1; clear hf1))
  have HB0 : Aside0 ((w1.alloc (.cells (evs (tk 0 N)).toArray 30)).heap[w1.heap.size]? = some (.cells (evs (tk 0 N)).toArray 30 (0, 0))) := ⟨blk_new _ _⟩
  go_loopw [20] (fun v20 wr => ∃ k : Nat, v20 = .int .i64 k ∧ k ≤ N ∧ Aside0 (wr.heap[w1.heap.size]? = some (.cells (evs (tk k N)).toArray 30 (0, 0))) ∧ Aside0 (Fr nope w wr)) (fun i _ => N - (intOf i).toNat)
  case atStart => exact ⟨0, rfl, Nat.zero_le _, HB0, ⟨HF1.out.alloc _⟩⟩
  case round =>
    clear HB0
    obtain ⟨k, rfl, hk, HB, HF⟩ := hrel
    by_cases hlt : k < N
    · have c1 : wr.cell? ⟨w1.heap.size, k * 4, none⟩ = some (.int .i64 0) := (blk_cell HB.out (k * 4)).trans (by rw [List.getElem?_toArray]; exact tk_zero_at k N hlt)
      have f1 := blk_frozen HB.out (k * 4)
      have HB' : Aside0 ((wr.setCell ⟨w1.heap.size, k * 4, none⟩ (.int .i64 5)).heap[w1.heap.size]? = some (.cells (evs (tk (k + 1) N)).toArray 30 (0, 0))) := ⟨by
        have h := blk_set HB.out (k * 4) (.int .i64 5)
        rw [List.setIfInBounds_toArray, tk_step k N hlt] at h
        exact h⟩
      have HF' : Aside0 (Fr nope w (wr.setCell ⟨w1.heap.size, k * 4, none⟩ (.int .i64 5))) := ⟨HF.out.set (fun h => by have := HF1.out.size; omega) _ _⟩
      go_wp2
      case roundEnd =>
        refine ⟨⟨k + 1, by push_cast; rfl, hlt, HB', HF'⟩, ?_⟩
        simp only [intOf]
        omega
    · obtain rfl : k = N := by omega
      rw [tk_all] at HB
      obtain ⟨L, hL⟩ : ∃ L, L = List.replicate k tick := ⟨_, rfl⟩
      have hLr : Aside0 (L = List.replicate k tick) := ⟨hL⟩
      have HLR : Aside0 (∀ e ∈ L, evB e = true) := ⟨by rw [hL]; exact ticks_right k⟩
      have HLS : Aside0 (sz L = 0) := ⟨by rw [hL]; exact ticks_sz k⟩
      have HLE : Aside0 ((encB cfD L).length = 24 + 7 * k) := ⟨by rw [hL]; exact ticks_enc k⟩
      have HLL : Aside0 (L.length = k) := ⟨by rw [hL]; simp⟩
      have HREV : Aside0 (ReadsEv wr (some ⟨w1.heap.size, 0, none⟩) L) := ⟨by rw [hL]; exact readsEv_block HB.out (by simp; omega) (fun e h => by rw [(List.mem_replicate.1 h).2]; decide)⟩
      by_cases h4 : 8192 < k
      · have t1 : decide ((8192 : Int) < (k : Int)) = true := decide_eq_true (by omega)
        clear hlt hk hL
        go_wp2_with (first | (go_at_call 16; refine (default_calls _).mono ?_; rintro e2 w2 ⟨rfl, hw2⟩; have HF2 := Aside0.mk (Fr.of_below (S := nope) hw2); clear hw2) | (go_at_call 12; have hq := encode_long cfD L (some ⟨w1.heap.size, 0, none⟩) k w2 (readsEv_fr HREV.out HF2.out) (by rw [HLL.out]; omega); rw [HLL.out] at hq; refine hq.mono ?_; clear hq; rintro e3 w3 ⟨rfl, hf3⟩; have HF3 := Aside0.mk (frT HF2.out hf3); clear hf3) | (go_at_call 14; have hq := bytes_calls cfD L (some ⟨w1.heap.size, 0, none⟩) k w2 (readsEv_fr HREV.out (frT HF3.out HF2.out)) cfD_right HLR.out (by rw [HLL.out]; omega) (by rw [HLS.out]; omega); rw [HLL.out] at hq; refine hq.mono ?_; clear hq; rintro e4 w4 ⟨v4, rfl, hf4, ho4⟩; obtain ⟨A4, c4, rfl, h41, h42, hr4⟩ := owns_reads ho4; have HR4 := Aside0.mk hr4; have HF4 := Aside0.mk (frT (frT HF3.out HF2.out) hf4); clear hf4 ho4 hr4) | (go_at_call 13; have hq := decode_long k L A4 c4 w4 hLr.out (by omega) (by omega) h41 h42 HR4.out; refine hq.mono ?_; clear hq; rintro e5 w5 ⟨B5, d5, rfl, hf5⟩; unfold cfV; have HF5 := Aside0.mk (frT HF4.out hf5); clear hf5))
        go_returns
        exact ⟨rfl, (frT HF.out HF5.out).alloc _⟩
      · have t1 : decide ((8192 : Int) < (k : Int)) = false := decide_eq_false (by omega)
        clear hlt hk hL
        go_wp2_with (first | (go_at_call 16; refine (default_calls _).mono ?_; rintro e2 w2 ⟨rfl, hw2⟩; have HF2 := Aside0.mk (Fr.of_below (S := nope) hw2); clear hw2) | (go_at_call 12; have hq := encode_good cfD L (some ⟨w1.heap.size, 0, none⟩) k w2 (readsEv_fr HREV.out HF2.out) cfD_right HLR.out (by rw [HLL.out]; omega) (by rw [HLS.out]; omega); rw [HLL.out] at hq; refine hq.mono ?_; clear hq; rintro e3 w3 ⟨A3, c3, rfl, h31, h32, hf3, hr3⟩; rw [HLE.out]; have HF3 := Aside0.mk (frT HF2.out hf3); clear hf3 hr3) | (go_at_call 14; have hq := bytes_calls cfD L (some ⟨w1.heap.size, 0, none⟩) k w2 (readsEv_fr HREV.out (frT HF3.out HF2.out)) cfD_right HLR.out (by rw [HLL.out]; omega) (by rw [HLS.out]; omega); rw [HLL.out] at hq; refine hq.mono ?_; clear hq; rintro e4 w4 ⟨v4, rfl, hf4, ho4⟩; obtain ⟨A4, c4, rfl, h41, h42, hr4⟩ := owns_reads ho4; have HR4 := Aside0.mk hr4; have HF4 := Aside0.mk (frT (frT HF3.out HF2.out) hf4); clear hf4 ho4 hr4) | (go_at_call 13; have hq := decode_good cfD L A4 c4 w4 cfD_right HLR.out (by rw [HLL.out]; omega) (by rw [HLS.out]; omega) h41 h42 HR4.out; refine hq.mono ?_; clear hq; rintro e5 w5 ⟨B5, d5, rfl, hd5, hf5, hr5⟩; rw [HLE.out, HLL.out]; unfold cfV; have HF5 := Aside0.mk (frT HF4.out hf5); clear hf5 hr5 hd5))
        all_goals go_returns
        all_goals exact ⟨rfl, (frT HF.out HF5.out).alloc _⟩
theorem scriptMany_row (w : World) (n : Int) {p : Prop} (_ : p) : Calls Try.prog 6 #[.int .i64 n] w fun e w' => e = .returned (.bool true) ∧ Below w.heap.size w w' :=
  (scriptMany_walk n w).mono fun e w' h => ⟨h.1, h.2.to_below (Nat.le_refl _) (fun i h => h.elim)⟩
end Go.Proofs.Ythhibgkgbcdjnaa.ScrW

/- ScriptReads: what is read is written so, up to where the bytes are none. -/
import Derived.Test.YthhibgkgbcdjnaaScrM
import Derived.Deep.DrawnRows
namespace Go.Proofs.Ythhibgkgbcdjnaa.ScrW
open Go.RowKit Go.Proofs.YthhibgkgbcdjnaaW.PrintWords Go.Proofs.YthhibgkgbcdjnaaW.PrintMore Go.Proofs.Ythhibgkgbcdjnaa.Fr Go.Proofs.Ythhibgkgbcdjnaa.ScrP Go.Proofs.Ythhibgkgbcdjnaa.Openers
set_option linter.unusedVariables false
set_option linter.unusedSimpArgs false

namespace Reads
theorem law13_calls (c : Cf) (w : World) : Calls Try.prog 9 #[cfV c] w fun e w' => e = .returned (.bool (cfB c)) ∧ Fr nope w w' :=
  (ConfW.right_calls c.a0 c.a1 c.a2 c.a3 c.a4 c.a5 c.a6 c.a7 w).mono fun e w' h => ⟨h.1, Fr.of_below h.2⟩
theorem readsEv_fr {W W1 : World} {A : Option Addr} {L : List Ev} (h : ReadsEv W A L) (hF : Fr nope W W1) : ReadsEv W1 A L := by
  refine ⟨h.1, fun h0 => ?_⟩
  obtain ⟨ad, rfl, hcs⟩ := h.2 h0
  have back : ∀ {a : Addr} {v : Value}, W.cell? a = some v → W1.cell? a = some v := fun {a v} h => by
    rw [World.cell?_of_block (hF.block _ (World.block_lt_of_cell? W _ h) (fun h => h))]; exact h
  refine ⟨ad, rfl, fun j hj => ?_⟩
  obtain ⟨h0, h1, h2, h3, h4⟩ := hcs j hj
  exact ⟨back h0, back h1, back h2, back h3, h4⟩
theorem frT {a b c : World} (h : Fr nope a b) (k : Fr nope b c) : Fr nope a c := h.trans k (fun i hi h => h.elim)
theorem dec_back (bs : List Int) (hb : isB bs) (h24 : 24 ≤ bs.length) (h8 : bs.length ≤ 800) (c : Cf) (hcf : cfOf bs = c) (hc : cfB c = true) :
    ∃ L k x, decP bs = (c, L, k, x) ∧ (∀ e ∈ L, evB e = true) ∧ 24 ≤ k ∧ k ≤ bs.length ∧ bs.take k = encB c L ∧ L.length ≤ 800 ∧ sz L ≤ 800 ∧
      ((x = 0 ∧ k = bs.length) ∨ (x = 5 ∧ k < bs.length ∧ (oneP (bs.drop k)).2.2 = 5) ∨ (x = 8 ∧ k < bs.length ∧ (oneP (bs.drop k)).2.2 = 8)) := by
  obtain ⟨L, k, x, h1, h2, h3, h4, h5, h6, h7, h9, h10, h11⟩ := decGo_back bs.length bs 24 [] (cfBytes c) hb (by omega) h24 (fun e h => by simp at h) (by rw [← hcf, cfBytes_of bs hb h24]; simp [flat]) (by decide)
  have hlen : (encB c L).length = k := by rw [encB_eq, ← h5, List.length_take]; omega
  have hfl := flat_len L
  rw [encB_eq, List.length_append, cfBytes_len] at hlen
  have hx6 : x ≠ 6 := fun h => by have := h10 h; omega
  refine ⟨L, k, x, ?_, h2, h3, h4, by rw [h5]; rfl, by omega, by omega, ?_⟩
  · unfold decP
    rw [if_neg (by omega), if_neg (by omega), hcf, if_pos hc, h1]
  · by_cases hx0 : x = 0
    · exact .inl ⟨hx0, h7 hx0⟩
    · have hlt := h9 hx0
      have ho := h11 hx0 hx6
      rcases one_codes (bs.drop k) with h | h | h
      · omega
      · exact .inr (.inl ⟨by omega, hlt, h⟩)
      · exact .inr (.inr ⟨by omega, hlt, h⟩)
/-- too short -/
theorem one_short (r : List Int) (hr : isB r) (h : (oneP r).2.2 = 5) : r.length < 7 ∨ (7 ≤ r.length ∧ (r.length : Int) < 7 + 256 * r.getD 5 0 + r.getD 6 0) := by
  by_cases h7 : r.length < 7
  · exact .inl h7
  · right
    obtain ⟨b0, b1, b2, b3, b4, b5, b6, t, rfl⟩ := seven r (by omega)
    refine ⟨by omega, ?_⟩
    have h5 := hr b5 (by simp)
    have h6 := hr b6 (by simp)
    unfold oneP at h
    rw [if_neg h7] at h
    simp only [] at h
    split at h
    · rename_i hs
      simp [rdN] at hs ⊢
      omega
    · split at h <;> simp at h
/-- none -/
theorem one_none (r : List Int) (hr : isB r) (h : (oneP r).2.2 = 8) : ∃ n : Nat, (n : Int) = 256 * r.getD 5 0 + r.getD 6 0 ∧ 7 + n ≤ r.length ∧
    evB ⟨r.getD 0 0, r.getD 1 0, 65536 * r.getD 2 0 + 256 * r.getD 3 0 + r.getD 4 0, strOfNums ((r.take (7 + n)).drop 7)⟩ = false := by
  unfold oneP at h
  by_cases h7 : r.length < 7
  · rw [if_pos h7] at h; simp at h
  rw [if_neg h7] at h
  simp only [] at h
  split at h
  · simp at h
  · rename_i hs
    split at h
    · simp at h
    · rename_i he
      obtain ⟨b0, b1, b2, b3, b4, b5, b6, t, rfl⟩ := seven r (by omega)
      have h5 := hr b5 (by simp)
      have h6 := hr b6 (by simp)
      refine ⟨(rdN ((List.take 7 (b0 :: b1 :: b2 :: b3 :: b4 :: b5 :: b6 :: t)).drop 5)).toNat, ?_, by omega, ?_⟩
      · simp [rdN]; omega
      · have e3 : rdN ((List.take 5 (b0 :: b1 :: b2 :: b3 :: b4 :: b5 :: b6 :: t)).drop 2) = 65536 * b2 + 256 * b3 + b4 := by simp [rdN]; omega
        rw [e3] at he
        simpa using he

theorem rd3 (bs : List Int) (k : Nat) (h : 3 * k + 2 < bs.length) {x0 x1 x2 : Int} (h0 : bs.getD (3 * k) 0 = x0) (h1 : bs.getD (3 * k + 1) 0 = x1) (h2 : bs.getD (3 * k + 2) 0 = x2) : rdN ((bs.take (3 * k + 3)).drop (3 * k)) = 65536 * x0 + 256 * x1 + x2 := by
  have e : (bs.take (3 * k + 3)).drop (3 * k) = [x0, x1, x2] := by
    apply List.ext_getElem
    · simp; omega
    · intro i hi1 hi2
      simp only [List.length_cons, List.length_nil] at hi2
      rw [List.getElem_drop, List.getElem_take]
      rw [List.getD_eq_getElem?_getD, List.getElem?_eq_getElem (by omega)] at h0 h1 h2
      have h3 : i = 0 ∨ i = 1 ∨ i = 2 := by omega
      rcases h3 with rfl | rfl | rfl
      · exact h0
      · exact h1
      · exact h2
  rw [e]
  simp [rdN]
  omega
theorem getD_isB {l : List Int} (h : isB l) {i : Nat} (hi : i < l.length) : 0 ≤ l.getD i 0 ∧ l.getD i 0 ≤ 255 := by
  have e : l.getD i 0 = l[i] := by simp [hi]
  rw [e]
  exact h _ (List.getElem_mem hi)
end Reads
end Go.Proofs.Ythhibgkgbcdjnaa.ScrW

/- What kibitzerlaw08.same answers on two rows of the same texts: true. -/
import Derived.Test.YtajhahgaeihfaaaLexI
namespace Go.Proofs.Ytajhahgaeihfaaa.LexW
open Go.RowKit Go.Proofs.YtajhahgaeihfaaaW.PrintWords Go.Proofs.YtajhahgaeihfaaaW.PrintMore Go.Proofs.Ytajhahgaeihfaaa.Fr Go.Proofs.Ytajhahgaeihfaaa.LexP
set_option linter.unusedVariables false
set_option linter.unusedSimpArgs false

theorem strcell {w : World} {L : List ByteArray} {ad : Addr} {i : Nat} {d : ByteArray} (hr : ReadsOf Value.string ByteArray.empty w (some ad) L.length L) (h : i < L.length) (hd : L.getD i ByteArray.empty = d) : w.cell? (ad.add i) = some (.string d) := by
  obtain ⟨ad2, e2, hx⟩ := hr.2.2 (by omega)
  cases e2
  rw [hx i h, hd]

set_option maxHeartbeats 1000000 in
theorem same_calls (L : List ByteArray) (A0 A1 : Option Addr) (c0 c1 : Nat) (w : World) (h0 : ReadsOf Value.string ByteArray.empty w A0 L.length L) (h1 : ReadsOf Value.string ByteArray.empty w A1 L.length L) (hl : L.length ≤ 100000) :
    Calls Try.prog 17 #[.slice A0 L.length c0, .slice A1 L.length c1] w fun e w' => e = .returned (.bool true) ∧ Fr nope w w' := by
  have H0 := Aside0.mk h0
  have H1 := Aside0.mk h1
  clear h0 h1
  go_enter Try.func17, Try.ntmps17
  go_wp2
  go_loopw [13] (fun v13 wr => ∃ k : Nat, v13 = .int .i64 k ∧ k ≤ L.length ∧ Aside0 (Fr nope w wr)) (fun i _ => L.length - (intOf i).toNat)
  case atStart => exact ⟨0, rfl, Nat.zero_le _, ⟨Fr.refl _ _⟩⟩
  case round =>
    obtain ⟨k, rfl, hk, HF⟩ := hrel
    by_cases hlt : k < L.length
    · obtain ⟨d, hd⟩ : ∃ d, L.getD k ByteArray.empty = d := ⟨_, rfl⟩
      obtain ⟨ad0, e0, _⟩ := H0.out.2.2 (by omega)
      obtain ⟨ad1, e1, _⟩ := H1.out.2.2 (by omega)
      subst e0
      subst e1
      have g0 := strcell (HF.out.readsOf H0.out (fun _ _ h => h)) hlt hd
      have g1 := strcell (HF.out.readsOf H1.out (fun _ _ h => h)) hlt hd
      clear hd
      have hk0 : (0 : Int) ≤ k := by omega
      have hk1 : (k : Int) < (L.length : Int) := by omega
      go_wp2
      go_quiet (fail)
      go_wp2
      go_roundw
      case rel => exact ⟨k + 1, by go_num, hlt, ⟨HF.out.drewN _⟩⟩
      case measure => simp [intOf]; omega
    · go_wp2
      go_ret
      exact ⟨rfl, HF.out⟩
end Go.Proofs.Ytajhahgaeihfaaa.LexW

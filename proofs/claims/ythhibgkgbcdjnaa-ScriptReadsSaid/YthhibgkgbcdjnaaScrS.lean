/- number, read, three, fields, Conf.Right. -/
import Derived.Test.YthhibgkgbcdjnaaScrT
namespace Go.Proofs.Ythhibgkgbcdjnaa.ScrW
open Go.RowKit Go.Proofs.YthhibgkgbcdjnaaW.PrintWords Go.Proofs.YthhibgkgbcdjnaaW.PrintMore Go.Proofs.Ythhibgkgbcdjnaa.Fr Go.Proofs.Ythhibgkgbcdjnaa.ScrP Go.Proofs.Ythhibgkgbcdjnaa.Openers
set_option linter.unusedVariables false
set_option linter.unusedSimpArgs false
theorem info5 : (Try.prog.info? 5).map (fun i => (i.zero, i.size, i.bytes)) = some (some (.int .u8 0), 1, 1) := by kernel_rfl

set_option maxHeartbeats 1000000 in
set_option maxRecDepth 100000 in
theorem confRight_calls (c : Cf) (w : World) :
    Calls Try.prog 17 #[cfV c] w fun e w' => e = .returned (.bool (cfB c)) ∧ Below w.heap.size w w' := by
  unfold cfV
  go_enter Try.func17, Try.ntmps17
  go_wp2_with (first | (go_at_call 23; refine (in_calls _ _ _ _).mono ?_; rintro e w1 ⟨rfl, rfl⟩))
  all_goals go_returns
  all_goals refine ⟨congrArg (fun b => Ending.returned (.bool b)) ?_, below_alloc (Below.refl _ _) _⟩
  all_goals (rw [Bool.eq_iff_iff]; simp [cfB]; try omega)

theorem three_calls (n : Int) (h0 : 0 ≤ n) (h1 : n ≤ 65536) (w : World) :
    Calls Try.prog 22 #[.int .i64 n] w fun e w' => e = .returned (.slice (some ⟨w.heap.size, 0, none⟩) 3 3) ∧ w' = w.alloc (.cells #[.int .u8 (n / 65536 % 256), .int .u8 (n / 256 % 256), .int .u8 (n % 256)] 5) := by
  go_enter Try.func22, Try.ntmps22
  go_wp2
  go_returns
  refine ⟨rfl, ?_⟩
  rw [show n / 65536 % 256 = n / 65536 by omega]

theorem or_low (x c : Int) (h0 : 0 ≤ x) (h1 : x ≤ 65535) (h2 : 0 ≤ c) (h3 : c ≤ 255) : bits .or .i64 (x * 256) c = x * 256 + c := by
  obtain ⟨a, rfl⟩ := Int.eq_ofNat_of_zero_le h0
  obtain ⟨b, rfl⟩ := Int.eq_ofNat_of_zero_le h2
  have ha : a ≤ 65535 := by omega
  have hb : b < 2 ^ 8 := by omega
  have e1 : (BitVec.ofInt 64 ((a : Int) * 256)).toNat = a * 256 := by rw [BitVec.toNat_ofInt]; omega
  have e2 : (BitVec.ofInt 64 (b : Int)).toNat = b := by rw [BitVec.toNat_ofInt]; omega
  show IntKind.i64.wrap ((BitVec.ofInt 64 ((a : Int) * 256) ||| BitVec.ofInt 64 (b : Int)).toNat : Nat) = _
  rw [BitVec.toNat_or, e1, e2]
  have h := Nat.shiftLeft_add_eq_or_of_lt hb a
  have e3 : a <<< 8 = a * 256 := Nat.shiftLeft_eq a 8
  rw [e3] at h
  rw [← h, IntKind.wrap_i64]
  omega
theorem rdN_take (bs : List Int) (k : Nat) (h : k < bs.length) : rdN (bs.take (k + 1)) = rdN (bs.take k) * 256 + bs.getD k 0 := by
  have hg : bs.getD k 0 = bs[k] := by simp [h]
  rw [List.take_succ_eq_append_getElem h, hg]
  unfold rdN
  rw [List.foldl_append]
  rfl
theorem rdN_bound (bs : List Int) (hb : isB bs) (h3 : bs.length ≤ 3) (k : Nat) (hk : k < bs.length) : 0 ≤ rdN (bs.take k) ∧ rdN (bs.take k) ≤ 65535 := by
  match bs, h3 with
  | [], _ => simp at hk
  | [a], _ => obtain rfl : k = 0 := by simpa using hk
              simp [rdN]
  | [a, b], _ =>
    have h0 := hb a (by simp)
    have hk2 : k < 2 := hk
    obtain rfl | rfl : k = 0 ∨ k = 1 := by omega
    · simp [rdN]
    · simp [rdN]; omega
  | [a, b, c], _ =>
    have h0 := hb a (by simp)
    have h1 := hb b (by simp)
    have hk2 : k < 3 := hk
    obtain rfl | rfl | rfl : k = 0 ∨ k = 1 ∨ k = 2 := by omega
    · simp [rdN]
    · simp [rdN]; omega
    · simp [rdN]; omega

theorem read_calls (bs : List Int) (A : Option Addr) (cp : Nat) (w : World) (hr : ReadsInt w .u8 A bs.length bs) (hb : isB bs) (hl : bs.length ≤ 3) :
    Calls Try.prog 20 #[.slice A bs.length cp] w fun e w' => e = .returned (.int .i64 (rdN bs)) ∧ w' = w := by
  have HR := Aside0.mk hr
  have HB := Aside0.mk hb
  clear hr hb
  go_enter Try.func20, Try.ntmps20
  go_wp2
  go_loopw [3, 8] (fun v3 v8 wr => ∃ k : Nat, v8 = .int .i64 k ∧ k ≤ bs.length ∧ v3 = .int .i64 (rdN (bs.take k)) ∧ wr = w) (fun _ i _ => bs.length - (intOf i).toNat)
  case atStart => exact ⟨0, rfl, Nat.zero_le _, rfl, rfl⟩
  case round =>
    obtain ⟨k, rfl, hk, rfl, rfl⟩ := hrel
    by_cases hlt : k < bs.length
    · obtain ⟨ad, rfl, hcells⟩ := HR.out.2.2 (by omega)
      obtain ⟨c, hc⟩ : ∃ c, bs.getD k 0 = c := ⟨_, rfl⟩
      have hcell := hcells k hlt
      rw [hc] at hcell
      have hcb : 0 ≤ c ∧ c ≤ 255 := by
        rw [← hc]
        have : bs.getD k 0 = bs[k] := by simp [hlt]
        rw [this]; exact HB.out _ (List.getElem_mem hlt)
      have hx := rdN_bound bs HB.out hl k hlt
      have HE := Aside0.mk (rdN_take bs k hlt)
      rw [hc] at HE
      obtain ⟨x, hx2⟩ : ∃ x, rdN (bs.take k) = x := ⟨_, rfl⟩
      rw [hx2] at hx HE ⊢
      have hor := or_low x c hx.1 hx.2 hcb.1 hcb.2
      clear hcells hc hx2
      go_wp2
      case roundEnd =>
        refine ⟨⟨k + 1, by push_cast; rfl, hlt, by rw [HE.out], trivial⟩, ?_⟩
        simp only [intOf]
        omega
    · obtain hk2 : k = bs.length := by omega
      have HE := Aside0.mk (show rdN (bs.take k) = rdN bs by rw [hk2, List.take_length])
      rw [HE.out]
      clear hk2
      go_wp2
      go_returns
      exact ⟨rfl, rfl⟩

theorem fields_calls (g : Nat) (w : World) :
    Calls Try.prog 18 #[.pointer (some ⟨g, 0, none⟩)] w fun e w' => e = .returned (.slice (some ⟨w.heap.size, 0, none⟩) 8 8) ∧ w' = World.drew (w.alloc (Obj.cells #[.pointer (some ⟨g, 0, none⟩), .pointer (some ⟨g, 1, none⟩), .pointer (some ⟨g, 2, none⟩), .pointer (some ⟨g, 3, none⟩), .pointer (some ⟨g, 4, none⟩), .pointer (some ⟨g, 5, none⟩), .pointer (some ⟨g, 6, none⟩), .pointer (some ⟨g, 7, none⟩)] 53)) := by
  go_enter Try.func18, Try.ntmps18
  go_wp2
  go_region
  go_wp2
  go_returns
  exact ⟨rfl, rfl⟩
end Go.Proofs.Ythhibgkgbcdjnaa.ScrW

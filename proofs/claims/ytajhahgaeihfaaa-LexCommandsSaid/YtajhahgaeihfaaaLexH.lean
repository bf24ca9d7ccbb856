/- The example at the head of the lexer's statements holds. -/
import Derived.Test.YtajhahgaeihfaaaLexQ
import Derived.Lib.SlBytesConst
import Derived.WalkSpells
import Derived.WalkLawsBesides
namespace Go.Proofs.Ytajhahgaeihfaaa.LexW
open Go.RowKit Go.Proofs.YtajhahgaeihfaaaW.PrintWords Go.Proofs.YtajhahgaeihfaaaW.PrintMore Go.Proofs.Ytajhahgaeihfaaa.Fr Go.Proofs.Ytajhahgaeihfaaa.LexP
set_option linter.unusedVariables false
set_option linter.unusedSimpArgs false

def headBytes : List Int := [97, 29, 58, 108, 105, 115, 116, 10, 98]

set_option maxHeartbeats 1000000 in
theorem head_calls (w : World) : Calls Try.prog 13 #[] w fun e w' => e = .returned (.bool true) ∧ Below w.heap.size w w' := by
  have kc := fun (w : World) (C : Array Value) (n c : Nat) => Lib.run_convert_bytes_const (P := Try.prog) w 34 5 C n c Try.underlying34 Try.underlying5
  go_enter Try.func13, Try.ntmps13
  go_wp2_with fail
  refine (new_calls w.heap.size _).mono ?_
  rintro e w1 ⟨rfl, hl1, hb1⟩
  have HL1 := Aside0.mk hl1
  have HB1 := Aside0.mk hb1
  clear hl1 hb1
  go_wp2_with fail
  have hr : ReadsInt (w1.alloc (.cells #[.int .u8 97, .int .u8 29, .int .u8 58, .int .u8 108, .int .u8 105, .int .u8 115, .int .u8 116, .int .u8 10, .int .u8 98] 5 (9, 10))) .u8 (some ⟨w1.heap.size, 0, none⟩) headBytes.length headBytes :=
    reads_lit w1 .u8 headBytes 5 (9, 10) (by decide)
  have hg : w.heap.size < w1.heap.size := blk_lt HL1.out.1
  refine (push_calls lex0 headBytes (some ⟨w1.heap.size, 0, none⟩) 9 w.heap.size (.slice none 0 0) w.heap.size _ (by simp; omega) ⟨blk_alloc HL1.out.1 _, own_nil _ _ _ _⟩ (by simp [Value.ownBlock]) (.inl rfl) (by decide) hr (fun _ ad e => by cases e; exact ⟨by simp; omega, by simp [Value.ownBlock]⟩) (by decide)).mono ?_
  rintro e w2 ⟨kv, ov, tvk, rfl, hinv⟩
  have hk := hinv.2.2.1
  have ho := hinv.2.2.2.1
  have hf := hinv.2.2.2.2.2.2
  rw [show (lexAll lex0 headBytes).2.1 = [97, 98] from rfl] at hk
  rw [show (lexAll lex0 headBytes).2.2 = [⟨#[108, 105, 115, 116]⟩] from rfl] at ho
  obtain ⟨Ak, ck, rfl⟩ := own_slice hk
  have hcv := own_string (P := Try.prog) (src := 34) (dst := 9) Try.underlying34 Try.underlying5 Try.underlying9 hk
  rw [show strOfNums [97, 98] = (⟨#[97, 98]⟩ : ByteArray) from rfl] at hcv
  obtain ⟨Ao, co, rfl, hro⟩ := own_reads_of (d := ByteArray.empty) ho
  obtain ⟨ad, rfl, hco⟩ := hro.2.2 (by decide)
  have hc0 := hco 0 (by decide)
  simp only [List.getD_cons_zero] at hc0
  rw [show ad.add 0 = ad from by simp [Addr.add]] at hc0
  simp only [List.length_cons, List.length_nil, Nat.zero_add, Nat.reduceAdd] at hcv
  have HF := Aside0.mk hf
  have hw1 : Below w.heap.size w (w1.alloc (.cells #[.int .u8 97, .int .u8 29, .int .u8 58, .int .u8 108, .int .u8 105, .int .u8 115, .int .u8 116, .int .u8 10, .int .u8 98] 5 (9, 10))) := below_alloc HB1.out _
  have HW1 := Aside0.mk hw1
  clear hk ho hf hinv hro hco hr hw1
  go_wp2
  go_ret
  refine ⟨rfl, ?_⟩
  have h2 := HF.out.to_below (B := w.heap.size) (by simp; omega) (fun i h => by rcases h with rfl | h; exact Nat.le_refl _; simp [Value.ownBlock] at h)
  exact HW1.out.trans h2
end Go.Proofs.Ytajhahgaeihfaaa.LexW

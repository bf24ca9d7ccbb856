/- What (*lex.Lexer).Push does: the lexer goes on by the bytes; keystrokes and commands in rows of its own. -/
import Derived.Test.YtajhahgaeihfaaaLexW
namespace Go.Proofs.Ytajhahgaeihfaaa.LexW
open Go.RowKit Go.Proofs.YtajhahgaeihfaaaW.PrintWords Go.Proofs.YtajhahgaeihfaaaW.PrintMore Go.Proofs.Ytajhahgaeihfaaa.Fr Go.Proofs.Ytajhahgaeihfaaa.LexP
set_option linter.unusedVariables false
set_option linter.unusedSimpArgs false

theorem lexAll_take (bs : List Int) (s0 : LexS) (k : Nat) (h : k < bs.length) {s : LexS} {K : List Int} {O : List ByteArray} {c : Int} (e : lexAll s0 (bs.take k) = (s, K, O)) (hc : bs.getD k 0 = c) :
    lexAll s0 (bs.take (k + 1)) = ((lexStep s c).1, K ++ (lexStep s c).2.1, O ++ (lexStep s c).2.2) := by
  have : bs.take (k + 1) = bs.take k ++ [c] := by
    rw [List.take_succ_eq_append_getElem h, ← hc]
    simp [h]
  rw [this, lexAll_snoc, e]

theorem lexStep_st (s : LexS) (c : Int) (h : s.st = 0 ∨ s.st = 1 ∨ s.st = 2) : (lexStep s c).1.st = 0 ∨ (lexStep s c).1.st = 1 ∨ (lexStep s c).1.st = 2 := by
  unfold lexStep
  repeat' split
  all_goals simp_all

theorem lexAll_st (l : List Int) : ∀ s : LexS, (s.st = 0 ∨ s.st = 1 ∨ s.st = 2) → ((lexAll s l).1.st = 0 ∨ (lexAll s l).1.st = 1 ∨ (lexAll s l).1.st = 2) := by
  induction l with
  | nil => intro s h; simpa [lexAll] using h
  | cons c cs ih => intro s h; exact ih _ (lexStep_st s c h)

set_option maxHeartbeats 2000000 in
set_option maxRecDepth 100000 in
theorem push_calls (s0 : LexS) (bs : List Int) (A : Option Addr) (cp g : Nat) (tv : Value) (b0 : Nat) (w : World) (hb0 : b0 ≤ w.heap.size)
    (hL : IsLex w b0 g s0 tv) (hne : tv.ownBlock ≠ some g) (hst : s0.st = 0 ∨ s0.st = 1 ∨ s0.st = 2) (hT : s0.text.length ≤ 80)
    (hr : ReadsInt w .u8 A bs.length bs) (hA : 0 < bs.length → ∀ ad, A = some ad → ad.block ≠ g ∧ tv.ownBlock ≠ some ad.block) (hn : bs.length ≤ 100000) :
    Calls Try.prog 15 #[.pointer (some ⟨g, 0, none⟩), .slice A bs.length cp] w fun e w' => ∃ kv ov tvk, e = .returned (.tuple #[kv, ov]) ∧
      PushInv w b0 g tv (lexAll s0 bs).1 (lexAll s0 bs).2.1 (lexAll s0 bs).2.2 kv ov tvk w' := by
  have hgw : g < w.heap.size := blk_lt hL.1
  have hI0 := inv_start hL hne
  have HI0 := Aside0.mk hI0
  have HST := Aside0.mk hst
  have HT := Aside0.mk hT
  have HR := Aside0.mk hr
  have HA := Aside0.mk hA
  clear hL hne hst hT hr hA hI0
  go_enter Try.func15, Try.ntmps15
  go_wp2
  go_loopw [6, 7, 14] (fun v6 v7 v14 wr => ∃ (k : Nat) (s : LexS) (K : List Int) (O : List ByteArray) (tvk : Value), v14 = .int .i64 k ∧ k ≤ bs.length ∧ Aside0 (lexAll s0 (bs.take k) = (s, K, O)) ∧ Aside0 (PushInv w b0 g tv s K O v6 v7 tvk wr)) (fun _ _ i _ => bs.length - (intOf i).toNat)
  case atStart => exact ⟨0, s0, [], [], tv, rfl, Nat.zero_le _, ⟨rfl⟩, HI0⟩
  case round =>
    obtain ⟨k, s, K, O, tvk, rfl, hk, HE, HI⟩ := hrel
    clear HI0
    have hsz : w.heap.size ≤ wr.heap.size := HI.out.2.2.2.2.2.2.size
    have hs3 : s.st = 0 ∨ s.st = 1 ∨ s.st = 2 := by have := lexAll_st (bs.take k) s0 HST.out; rw [HE.out] at this; exact this
    have ht80 : s.text.length ≤ 80 := by have := lexAll_text (bs.take k) s0 HT.out; rw [HE.out] at this; exact this
    have hKk : K.length ≤ k := by have := (lexAll_len (bs.take k) s0).1; rw [HE.out] at this; simp at this; omega
    have hOk : O.length ≤ k := by have := (lexAll_len (bs.take k) s0).2; rw [HE.out] at this; simp at this; omega
    have HS3 := Aside0.mk hs3
    clear hs3
    by_cases hlt : k < bs.length
    · have hrd := HI.out.2.2.2.2.2.2.reads HR.out (fun ad e h => by rcases h with h | h; exact (HA.out (by omega) ad e).1 h; exact (HA.out (by omega) ad e).2 h)
      obtain ⟨ad, hAe, hcells⟩ := hrd.2.2 (by omega)
      obtain rfl := hAe
      obtain ⟨c, hc⟩ : ∃ c, bs.getD k 0 = c := ⟨_, rfl⟩
      have hcell := hcells k hlt
      rw [hc] at hcell
      have HN := Aside0.mk (lexAll_take bs s0 k hlt HE.out hc)
      clear hc hrd HE hcells
      obtain ⟨st, T, lg⟩ := s
      have hb := HI.out.1.1
      dsimp only at hb ht80
      have c0 : wr.cell? ⟨g, 0, none⟩ = some (.int .i64 st) := (blk_cell hb 0).trans rfl
      have f0 : wr.frozen? ⟨g, 0, none⟩ = false := blk_frozen hb 0
      have hgr : g < wr.heap.size := blk_lt hb
      have HB := Aside0.mk hb
      clear hb
      rcases HS3.out with h | h | h
      · dsimp only at h
        subst h
        by_cases h29 : c = 29
        · have hc1 : (c == 29) = true := beq_iff_eq.2 h29
          have HN2 := HN.out
          rw [h29] at HN2
          have hst1 : lexStep ⟨0, T, lg⟩ 29 = (⟨1, T, lg⟩, [], []) := by simp [lexStep]
          rw [hst1] at HN2
          simp only [List.append_nil] at HN2
          have HN3 := Aside0.mk HN2
          clear h29 HN HN2 hst1
          go_wp2
          go_roundw
          case rel =>
            refine ⟨k + 1, ⟨1, T, lg⟩, K, O, tvk, by go_num, hlt, HN3, ⟨inv_lex HI.out hgw ⟨by simpa using blk_set HB.out 0 (.int .i64 1), own_setCell HI.out.1.2 (fun e => HI.out.2.1 e.symm) _⟩ (.inl rfl) (Fr.set (g := g) (Fr.refl _ wr) (fun _ => .inl rfl) 0 _)⟩⟩
          case measure => simp [intOf]; omega
        · have hc1 : (c == 29) = false := beq_eq_false_iff_ne.2 h29
          have hst1 : lexStep ⟨0, T, lg⟩ c = (⟨0, T, lg⟩, [c], []) := by simp [lexStep, h29]
          have HN2 := HN.out
          rw [hst1] at HN2
          simp only [List.append_nil] at HN2
          have HN3 := Aside0.mk HN2
          clear h29 HN HN2 hst1
          go_wp2_with (first | ((with_reducible refine gate_builtin (b := .append) (xs := #[.tmp 18, .tmp 20]) rfl ?_); at_builtin; refine app_nums rfl (.tmp 18) (.tmp 20) 34 5 .u8 1 rfl Try.underlying34 info5 (by decide) w.heap.size _ K [c] _ 1 1 rfl rfl ?aO ?aR ?aB ?aL ?_; (case aO => exact HI.out.2.2.1.alloc _); (case aR => exact reads_one wr .u8 c 5); (case aB => exact (by simp; omega)); (case aL => exact (by omega)); intro v1 w1 ho1 hf1 hat1; have HI1 := Aside0.mk (inv_keys (inv_alloc HI.out _) ho1 hat1 hf1); clear ho1 hf1 hat1))
          go_roundw
          case rel => exact ⟨k + 1, ⟨0, T, lg⟩, K ++ [c], O, tvk, by go_num, hlt, HN3, HI1⟩
          case measure => simp [intOf]; omega
      · dsimp only at h
        subst h
        have HN2 := HN.out
        have HBC := fun w1 hw => begin_calls ⟨1, T, lg⟩ c g tvk b0 w1 hw HI.out.2.1 rfl
        have hl := lexStep_len ⟨1, T, lg⟩ c
        generalize hst1 : lexStep ⟨1, T, lg⟩ c = r at *
        obtain ⟨s1, k1, o1⟩ := r
        dsimp only at HN2 HBC hl
        have hk1 : k1.length ≤ 1 := hl.1
        have HN3 := Aside0.mk HN2
        have HBC1 := Aside0.mk HBC
        clear HN HN2 HBC hst1 hl
        go_wp2_with (first | (go_at_call 19; refine (HBC1.out _ HI.out.1).mono ?_; rintro e w1 ⟨tv1, kk, rfl, hl1, ⟨Ak, ck, rfl, hck, hrk, hfk⟩, rfl, ht1, hf1⟩; have HI1 := Aside0.mk (inv_lex HI.out hgw hl1 (by rcases ht1 with rfl | rfl; exact .inl rfl; exact .inr (.inl rfl)) (hf1.mono (fun i _ h => .inl h))); have HRK := Aside0.mk hrk; have hsz1 : wr.heap.size ≤ w1.heap.size := hf1.size; clear hl1 hck hrk hfk ht1 hf1) | ((with_reducible refine gate_builtin (b := .append) (xs := #[.tmp 28, .tmp 31]) rfl ?_); at_builtin; refine app_nums rfl (.tmp 28) (.tmp 31) 34 5 .u8 1 rfl Try.underlying34 info5 (by decide) w.heap.size _ K k1 _ k1.length _ rfl rfl ?aO ?aR ?aB ?aL ?_; (case aO => exact HI1.out.2.2.1); (case aR => exact HRK.out); (case aB => exact (by omega)); (case aL => exact (by omega)); intro v1 w2 ho1 hf1 hat1; have HI2 := Aside0.mk (inv_keys HI1.out ho1 hat1 hf1); clear ho1 hf1 hat1))
        go_roundw
        case rel => exact ⟨k + 1, s1, K ++ k1, O, tv1, by go_num, hlt, ⟨by rw [HN3.out, List.append_nil]⟩, HI2⟩
        case measure => simp [intOf]; omega
      · dsimp only at h
        subst h
        by_cases h10 : c = 10
        · subst h10
          have HN2 := HN.out
          have HBC := fun w1 hw => more_nl T lg g tvk b0 w1 hw HI.out.2.1
          generalize hst1 : lexStep ⟨2, T, lg⟩ 10 = r at *
          obtain ⟨s1, k1, o1⟩ := r
          dsimp only at HN2 HBC
          have HN3 := Aside0.mk HN2
          have HBC1 := Aside0.mk HBC
          clear HN HN2 HBC hst1
          go_wp2_with (first | (go_at_call 20; refine (HBC1.out _ HI.out.1).mono ?_; rintro e w1 ⟨str, rfl, hl1, rfl, rfl, hf1⟩; have HI1 := Aside0.mk (inv_lex HI.out hgw hl1 (.inl rfl) (hf1.mono (fun i _ h => .inl h))); have hsz1 : wr.heap.size ≤ w1.heap.size := hf1.size; clear hl1 hf1) | ((with_reducible refine gate_builtin (b := .append) (xs := #[.tmp 46, .tmp 48]) rfl ?_); at_builtin; refine app_strs rfl (.tmp 46) (.tmp 48) 35 9 rfl Try.underlying35 info9 w.heap.size _ O [str] _ 1 1 rfl rfl ?aO ?aR ?aB ?aL ?_; (case aO => exact HI1.out.2.2.2.1.alloc _); (case aR => exact readsOf_one w1 str 9); (case aB => exact (by simp; omega)); (case aL => exact (by omega)); intro v1 w2 ho1 hf1 hat1; have HI2 := Aside0.mk (inv_cmds (inv_alloc HI1.out _) ho1 hf1); clear ho1 hf1 hat1))
          go_roundw
          case rel => exact ⟨k + 1, s1, K, O ++ [str], tvk, by go_num, hlt, ⟨by rw [HN3.out, List.append_nil]⟩, HI2⟩
          case measure => simp [intOf]; omega
        · have HN2 := HN.out
          have HBC := fun w1 hb hw => more_c T lg c g tvk b0 w1 hb hw HI.out.2.1 h10 ht80
          generalize hst1 : lexStep ⟨2, T, lg⟩ c = r at *
          obtain ⟨s1, k1, o1⟩ := r
          dsimp only at HN2 HBC
          have HN3 := Aside0.mk HN2
          have HBC1 := Aside0.mk HBC
          clear HN HN2 HBC hst1 h10
          go_wp2_with (first | (go_at_call 20; refine (HBC1.out _ (by omega) HI.out.1).mono ?_; rintro e w1 ⟨tv1, rfl, hl1, rfl, rfl, ht1, hf1⟩; have HI1 := Aside0.mk (inv_lex HI.out hgw hl1 (by rcases ht1 with h | h; exact .inl h; exact .inr (.inr h)) hf1); clear hl1 ht1 hf1))
          go_roundw
          case rel => exact ⟨k + 1, s1, K, O, tv1, by go_num, hlt, ⟨by rw [HN3.out, List.append_nil, List.append_nil]⟩, HI1⟩
          case measure => simp [intOf]; omega
    · have hk' : k = bs.length := by omega
      go_wp2
      go_ret2
      have h1 := HE.out
      rw [hk', List.take_length] at h1
      rw [h1]
      exact ⟨_, _, tvk, rfl, HI.out⟩

theorem push_to {s0 s1 : LexS} {k1 : List Int} {o1 : List ByteArray} (bs : List Int) (hE : lexAll s0 bs = (s1, k1, o1)) (A : Option Addr) (cp g : Nat) (tv : Value) (b0 : Nat) (w : World) (hb0 : b0 ≤ w.heap.size)
    (hL : IsLex w b0 g s0 tv) (hne : tv.ownBlock ≠ some g) (hst : s0.st = 0 ∨ s0.st = 1 ∨ s0.st = 2) (hT : s0.text.length ≤ 80)
    (hr : ReadsInt w .u8 A bs.length bs) (hA : 0 < bs.length → ∀ ad, A = some ad → ad.block ≠ g ∧ tv.ownBlock ≠ some ad.block) (hn : bs.length ≤ 100000) :
    Calls Try.prog 15 #[.pointer (some ⟨g, 0, none⟩), .slice A bs.length cp] w fun e w' => ∃ kv ov tvk, e = .returned (.tuple #[kv, ov]) ∧
      PushInv w b0 g tv s1 k1 o1 kv ov tvk w' := by
  have h := push_calls s0 bs A cp g tv b0 w hb0 hL hne hst hT hr hA hn
  rw [hE] at h
  exact h
end Go.Proofs.Ytajhahgaeihfaaa.LexW

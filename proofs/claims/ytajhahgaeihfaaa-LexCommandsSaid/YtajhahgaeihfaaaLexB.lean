/- The law LexPlain, walked: true. -/
import Derived.Test.YtajhahgaeihfaaaLexA
namespace Go.Proofs.Ytajhahgaeihfaaa.LexW
open Go.RowKit Go.Proofs.YtajhahgaeihfaaaW.PrintWords Go.Proofs.YtajhahgaeihfaaaW.PrintMore Go.Proofs.Ytajhahgaeihfaaa.Fr Go.Proofs.Ytajhahgaeihfaaa.LexP Go.Proofs.Ytajhahgaeihfaaa.Openers
set_option linter.unusedVariables false
set_option linter.unusedSimpArgs false

def twice (l : List Int) : List Int := l.flatMap fun c => if c = 29 then [29, 29] else [c]
theorem twice_snoc (l : List Int) (c : Int) : twice (l ++ [c]) = twice l ++ (if c = 29 then [29, 29] else [c]) := by simp [twice]
theorem twice_len (l : List Int) : (twice l).length ≤ 2 * l.length := by
  induction l with
  | nil => simp [twice]
  | cons c cs ih =>
    have : twice (c :: cs) = (if c = 29 then [29, 29] else [c]) ++ twice cs := by simp [twice]
    rw [this, List.length_append, List.length_cons]
    split <;> simp <;> omega
theorem lex_twice (l : List Int) : lexAll lex0 (twice l) = (lex0, l, []) := by
  induction l with
  | nil => rfl
  | cons c cs ih =>
    have ht : twice (c :: cs) = (if c = 29 then [29, 29] else [c]) ++ twice cs := by simp [twice]
    have h1 : lexAll lex0 (if c = 29 then [29, 29] else [c]) = (lex0, [c], []) := by
      split
      · rename_i h; subst h; rfl
      · rename_i h; simp [lexAll, lexStep, lex0, h]
    rw [ht, lexAll_append, h1, ih]
    simp

theorem take_snoc (bs : List Int) (k : Nat) (h : k < bs.length) (c : Int) (hc : rd bs (k : Int) = c) : bs.take (k + 1) = bs.take k ++ [c] := by
  rw [List.take_succ_eq_append_getElem h, ← hc]
  simp [rd, h]

set_option maxHeartbeats 4000000 in
set_option maxRecDepth 100000 in
theorem plain_calls (bs : List Int) (A : Option Addr) (cp : Nat) (w : World) (hr : ReadsInt w .u8 A bs.length bs) (hcp : bs.length ≤ cp) (hbl : bs.length ≤ 140737488351232) :
    Calls Try.prog 6 #[.slice A bs.length cp] w fun e w' => e = .returned (.bool true) ∧ Below w.heap.size w w' := by
  have HR := Aside0.mk hr
  clear hr
  by_cases h300 : 300 < bs.length
  · go_enter Try.func6, Try.ntmps6
    go_wp2_with (go_at_call 13; refine (head_calls _).mono ?_; rintro e w1 ⟨rfl, hb1⟩; have HB1 := Aside0.mk hb1; clear hb1)
    go_ret
    exact ⟨rfl, HB1.out⟩
  · go_enter Try.func6, Try.ntmps6
    go_wp2_with (go_at_call 13; refine (head_calls _).mono ?_; rintro e w1 ⟨rfl, hb1⟩; have HB1 := Aside0.mk hb1; clear hb1)
    have hw1 : w.heap.size ≤ w1.heap.size := HB1.out.size
    go_loopw [3, 16] (fun v3 v16 wr => ∃ (k : Nat) (T : List Int), v16 = .int .i64 k ∧ k ≤ bs.length ∧ T.length ≤ 600 ∧ Aside0 (T = twice (bs.take k)) ∧ Aside0 (wr.ownsRow w.heap.size 5 1 v3 T.length (nums .u8 T)) ∧ Aside0 (Fr nope w wr)) (fun _ i _ => bs.length - (intOf i).toNat)
    case atStart =>
      exact ⟨0, [], rfl, Nat.zero_le _, by simp, ⟨rfl⟩, ⟨own_empty w1 w.heap.size _ hw1⟩, ⟨(Fr.of_below HB1.out).alloc _⟩⟩
    case round =>
      obtain ⟨k, T, rfl, hk, hT, HT, HO, HF⟩ := hrel
      have hge : w.heap.size ≤ wr.heap.size := HF.out.size
      by_cases hlt : k < bs.length
      · have hrd := HF.out.reads HR.out (fun _ _ h => h)
        obtain ⟨ad, hAe, hcs⟩ := hrd.2.2 (by omega); clear hcs
        obtain rfl := hAe
        obtain ⟨c, hc⟩ : ∃ c, rd bs (k : Int) = c := ⟨_, rfl⟩
        have hcell := cell_zero hrd hlt hc
        have hts := take_snoc bs k hlt c hc
        obtain ⟨T1, hT1⟩ : ∃ T1, T1 = twice (bs.take (k + 1)) := ⟨_, rfl⟩
        have hT1e : T1 = T ++ (if c = 29 then [29, 29] else [c]) := by rw [hT1, hts, twice_snoc, ← HT.out]
        have hT1l : T1.length ≤ 600 := by
          have h1 := twice_len (bs.take (k + 1))
          rw [← hT1, List.length_take] at h1
          omega
        have HT1 := Aside0.mk hT1
        clear hrd hc hts hT1
        by_cases h29 : c = 29
        · have hc1 : (c == 29) = true := beq_iff_eq.2 h29
          rw [if_pos h29] at hT1e
          have HTE := Aside0.mk (show (T ++ [c]) ++ [c] = T1 by rw [hT1e, h29]; simp)
          clear hT1e h29
          go_wp2_with (first | ((with_reducible refine gate_builtin (b := .append) (xs := #[.tmp 20, .tmp 22]) rfl ?_); at_builtin; refine app_nums rfl (.tmp 20) (.tmp 22) 34 5 .u8 1 rfl Try.underlying34 info5 (by decide) w.heap.size _ T [c] _ 1 1 rfl rfl ?aO ?aR ?aB ?aL ?_; (case aO => exact HO.out.alloc _); (case aR => exact reads_one wr .u8 c 5); (case aB => exact (by simp; omega)); (case aL => exact (by omega)); intro v1 w2 ho1 hf1 hat1; have HO1 := Aside0.mk ho1; have HF1 := Aside0.mk (((HF.out.alloc _).trans hf1 (fun i hi hs => by have := (own_old HO.out hs).1; omega))); have hs2 : w.heap.size ≤ w2.heap.size := HF1.out.size; have hs20 : wr.heap.size ≤ w2.heap.size := Nat.le_trans (by simp) hf1.size; clear ho1 hf1 hat1) | ((with_reducible refine gate_builtin (b := .append) (xs := #[.tmp 26, .tmp 28]) rfl ?_); at_builtin; refine app_nums rfl (.tmp 26) (.tmp 28) 34 5 .u8 1 rfl Try.underlying34 info5 (by decide) w.heap.size _ (T ++ [c]) [c] _ 1 1 rfl rfl ?aO ?aR ?aB ?aL ?_; (case aO => exact HO1.out.alloc _); (case aR => exact reads_one w2 .u8 c 5); (case aB => exact (by simp; omega)); (case aL => exact (by simp; omega)); intro v2 w3 ho2 hf2 hat2; rw [HTE.out] at ho2; have HO2 := Aside0.mk ho2; have HF2 := Aside0.mk (((HF1.out.alloc _).trans hf2 (fun i hi hs => by have := (own_old HO1.out hs).1; omega))); clear ho2 hf2 hat2))
          go_roundw
          case rel => exact ⟨k + 1, T1, by go_num, hlt, hT1l, HT1, HO2, HF2⟩
          case measure => simp [intOf]; omega
        · have hc1 : (c == 29) = false := beq_eq_false_iff_ne.2 h29
          rw [if_neg h29] at hT1e
          have HTE := Aside0.mk hT1e.symm
          clear hT1e h29
          go_wp2_with (first | ((with_reducible refine gate_builtin (b := .append) (xs := #[.tmp 20, .tmp 22]) rfl ?_); at_builtin; refine app_nums rfl (.tmp 20) (.tmp 22) 34 5 .u8 1 rfl Try.underlying34 info5 (by decide) w.heap.size _ T [c] _ 1 1 rfl rfl ?aO ?aR ?aB ?aL ?_; (case aO => exact HO.out.alloc _); (case aR => exact reads_one wr .u8 c 5); (case aB => exact (by simp; omega)); (case aL => exact (by omega)); intro v1 w2 ho1 hf1 hat1; rw [HTE.out] at ho1; have HO1 := Aside0.mk ho1; have HF1 := Aside0.mk (((HF.out.alloc _).trans hf1 (fun i hi hs => by have := (own_old HO.out hs).1; omega))); clear ho1 hf1 hat1))
          go_roundw
          case rel => exact ⟨k + 1, T1, by go_num, hlt, hT1l, HT1, HO1, HF1⟩
          case measure => simp [intOf]; omega
      · have hTe : T = twice bs := by rw [HT.out, List.take_of_length_le (by omega)]
        have HLE := Aside0.mk (show lexAll lex0 T = (lex0, bs, []) by rw [hTe, lex_twice])
        have ho := HO.out
        obtain ⟨At, ct, rfl⟩ := own_slice ho
        have HRT := Aside0.mk (own_readsInt ho)
        clear hTe ho
        go_wp2_with (first | (go_at_call 14; refine (new_calls w.heap.size _).mono ?_; rintro e w2 ⟨rfl, hl2, hb2⟩; have HL2 := Aside0.mk hl2; have HB2 := Aside0.mk hb2; have hs2 : wr.heap.size ≤ w2.heap.size := hb2.size; clear hl2 hb2) | (go_at_call 15; refine (push_to T HLE.out At ct wr.heap.size (.slice none 0 0) w.heap.size _ (by omega) HL2.out (by simp [Value.ownBlock]) (.inl rfl) (by decide) (HRT.out.below HB2.out) (fun h0 ad e => ⟨by have := reads_lt HRT.out h0 ad e; omega, by simp [Value.ownBlock]⟩) (by omega)).mono ?_; rintro e w4 ⟨kv, ov, tvk, rfl, hinv⟩; have HINV := Aside0.mk hinv; obtain ⟨Ak, ck, rfl⟩ := own_slice hinv.2.2.1; obtain ⟨Ao, co, rfl⟩ := own_slice hinv.2.2.2.1; have hcv5 := own_string (P := Try.prog) (src := 34) (dst := 9) Try.underlying34 Try.underlying5 Try.underlying9 hinv.2.2.1; have hF4 : Fr nope w w4 := (HF.out.below HB2.out).trans hinv.2.2.2.2.2.2 (fun i hi hs => by rcases hs with rfl | hs; omega; simp [Value.ownBlock] at hs); have hcvb := string_of_reads (P := Try.prog) (src := 34) (dst := 9) (c := cp) Try.underlying34 Try.underlying5 Try.underlying9 (hF4.reads HR.out (fun _ _ h => h)); have HF4 := Aside0.mk hF4; clear hinv hF4))
        go_ret
        exact ⟨rfl, HF4.out.to_below (Nat.le_refl _) (fun i h => h.elim)⟩

theorem LexPlain_walk (W : World) (A : Option Addr) (cp : Nat) (xs : List Int) (hc : xs.length ≤ cp) (hr : ReadsInt W .u8 A xs.length xs) (_hw : ∀ x ∈ xs, (Lit.int .u8 x).wf = true) (hb : xs.length * 1 ≤ 140737488351232) :
    Calls Try.prog 6 #[.slice A xs.length cp] W fun e w' => e = .returned (.bool true) ∧ Below W.heap.size W w' := plain_calls xs A cp W hr hc (by omega)
end Go.Proofs.Ytajhahgaeihfaaa.LexW

/- The law LexPieces, walked: true. -/
import Derived.Test.YtajhahgaeihfaaaLexS
import Derived.Test.YtajhahgaeihfaaaArgs
namespace Go.Proofs.Ytajhahgaeihfaaa.LexW
open Go.RowKit Go.Proofs.YtajhahgaeihfaaaW.PrintWords Go.Proofs.YtajhahgaeihfaaaW.PrintMore Go.Proofs.Ytajhahgaeihfaaa.Fr Go.Proofs.Ytajhahgaeihfaaa.LexP Go.Proofs.Ytajhahgaeihfaaa.Openers
set_option linter.unusedVariables false
set_option linter.unusedSimpArgs false

theorem push_apart {w wr : World} {g : Nat} {s : LexS} {P K : List Int} {O : List ByteArray} {v4 v5 v6 tv : Value} {b : List Int} {A : Option Addr} (hr : ReadsInt w .u8 A b.length b) (h0 : 0 < b.length) {ad : Addr} (e : A = some ad) (h : LI w g s P K O v4 v5 v6 tv wr) :
    ad.block ≠ g ∧ tv.ownBlock ≠ some ad.block := by
  have h1 := reads_lt hr h0 ad e
  have h2 := h.ge
  refine ⟨by omega, fun e2 => ?_⟩
  have := own_base h.lex.2 _ e2
  omega

theorem flat_take (L : List (List Int)) (k : Nat) (h : k < L.length) (b : List Int) (hb : L.getD k [] = b) : (L.take (k + 1)).flatten = (L.take k).flatten ++ b := by
  rw [List.take_succ_eq_append_getElem h, List.flatten_append, ← hb]
  simp [h]

set_option maxHeartbeats 4000000 in
set_option maxRecDepth 100000 in
theorem pieces_calls (L : List (List Int)) (A : Option Addr) (cp : Nat) (w : World) (hr : ReadsRows w A L) (hLm : L.length ≤ 9223372036854775807) :
    Calls Try.prog 5 #[.slice A L.length cp] w fun e w' => e = .returned (.bool true) ∧ Below w.heap.size w w' := by
  have HR := Aside0.mk hr
  clear hr
  by_cases h60 : 60 < L.length
  · go_enter Try.func5, Try.ntmps5
    go_wp2_with (go_at_call 13; refine (head_calls _).mono ?_; rintro e w1 ⟨rfl, hb1⟩; have HB1 := Aside0.mk hb1; clear hb1)
    go_ret
    exact ⟨rfl, HB1.out⟩
  · go_enter Try.func5, Try.ntmps5
    go_wp2_with (first | (go_at_call 13; refine (head_calls _).mono ?_; rintro e w1 ⟨rfl, hb1⟩; have HB1 := Aside0.mk hb1; clear hb1) | (go_at_call 14; refine (new_calls w.heap.size _).mono ?_; rintro e w2 ⟨rfl, hl2, hb2⟩; have HL2 := Aside0.mk hl2; have HB2 := Aside0.mk hb2; clear hl2 hb2))
    have hw1 : w.heap.size ≤ w1.heap.size := HB1.out.size
    have hw2 : w1.heap.size < w2.heap.size := blk_lt HL2.out.1
    have HI0 : Aside0 (LI w w1.heap.size lex0 [] [] [] (.slice (some ⟨w2.heap.size, 0, none⟩) 0 0) (.slice (some ⟨w2.heap.size + 1, 0, none⟩) 0 0) (.slice (some ⟨w2.heap.size + 1 + 1, 0, none⟩) 0 0) (.slice none 0 0) (((w2.alloc (.cells #[] 5)).alloc (.cells #[] 5)).alloc (.cells #[] 9))) := by
      have e1 := own_empty (w2.alloc (.cells #[] 5)) w.heap.size 5 (by simp; omega)
      have e2 := own_empty ((w2.alloc (.cells #[] 5)).alloc (.cells #[] 5)) w.heap.size 9 (by simp; omega)
      simp only [World.size_alloc] at e1 e2
      refine ⟨{ lex := ⟨blk_alloc (blk_alloc (blk_alloc HL2.out.1 _) _) _, own_nil _ _ _ _⟩, ge := hw1, r4 := ((own_empty w2 w.heap.size _ (by omega)).alloc _).alloc _, r5 := e1.alloc _, r6 := e2, n45 := ?_, n4t := ne_nil' _, n5t := ne_nil' _, fr := (((((Fr.of_below HB1.out).below HB2.out).alloc _).alloc _).alloc _) }⟩
      intro k hk hs
      simp [Value.ownBlock] at hk hs
      omega
    go_loopw [4, 5, 6, 24] (fun v4 v5 v6 v24 wr => ∃ (k : Nat) (s : LexS) (P K : List Int) (O : List ByteArray) (tv : Value), v24 = .int .i64 k ∧ k ≤ L.length ∧ P.length ≤ 1000 ∧ Aside0 (P = (L.take k).flatten) ∧ Aside0 (lexAll lex0 P = (s, K, O)) ∧ Aside0 (LI w w1.heap.size s P K O v4 v5 v6 tv wr)) (fun _ _ _ i _ => L.length - (intOf i).toNat)
    case atStart => exact ⟨0, lex0, [], [], [], .slice none 0 0, rfl, Nat.zero_le _, by simp, ⟨rfl⟩, ⟨rfl⟩, HI0⟩
    case round =>
      obtain ⟨k, s, P, K, O, tv, rfl, hk, hP, HP, HE, HI⟩ := hrel
      clear HI0
      have hge : w.heap.size ≤ wr.heap.size := HI.out.fr.size
      have hKP : K.length ≤ 1000 := by have := (lexAll_len P lex0).1; rw [HE.out] at this; simp at this; omega
      have hOP : O.length ≤ 1000 := by have := (lexAll_len P lex0).2; rw [HE.out] at this; simp at this; omega
      by_cases hlt : k < L.length
      · obtain ⟨b, hb⟩ : ∃ b, L.getD k [] = b := ⟨_, rfl⟩
        obtain ⟨ad, rfl, hcs⟩ := HR.out (by omega)
        obtain ⟨Aj, cj, hcell0, hcj, hrj, hbl⟩ := hcs k hlt
        rw [hb] at hcell0 hcj hrj hbl
        have hcell := (Fr.to_below HI.out.fr (Nat.le_refl _) (fun i h => h.elim)).cell (World.block_lt_of_cell? w _ hcell0) |>.trans hcell0
        have HRJ := Aside0.mk (HI.out.fr.reads hrj (fun _ _ h => h))
        have HRW := Aside0.mk hrj
        have HP1 := Aside0.mk (flat_take L k hlt b hb)
        clear hcs hb hcell0 hrj
        obtain ⟨P1, hPB⟩ : ∃ P1, P1 = P ++ b := ⟨_, rfl⟩
        have HPB := Aside0.mk hPB
        have HPF := Aside0.mk (show P1 = (L.take (k + 1)).flatten by rw [hPB, HP1.out, HP.out])
        have hPl : P1.length = P.length + b.length := by rw [hPB, List.length_append]
        by_cases hlong : 1000 < P1.length
        · clear hPB hPl
          go_wp2_with (first | ((with_reducible refine gate_builtin (b := .append) (xs := #[.tmp 28, .tmp 29]) rfl ?_); at_builtin; refine app_nums rfl (.tmp 28) (.tmp 29) 34 5 .u8 1 rfl Try.underlying34 info5 (by decide) w.heap.size _ P b _ b.length _ rfl rfl ?aO ?aR ?aB ?aL ?_; (case aO => exact HI.out.r4); (case aR => exact HRJ.out); (case aB => exact hge); (case aL => exact (by omega)); intro v1 w3 ho1 hf1 hat1; rw [← HPB.out] at ho1; have HI1 := Aside0.mk (HI.out.all ho1 hat1 hf1); obtain ⟨A1, cp1, rfl⟩ := own_slice ho1; have HF3 := Aside0.mk hf1; have HRA := Aside0.mk (own_readsInt ho1); have hs3 : wr.heap.size ≤ w3.heap.size := hf1.size; clear ho1 hf1 hat1))
          go_ret
          exact ⟨rfl, HI1.out.fr.to_below (Nat.le_refl _) (fun i h => h.elim)⟩
        · have hshort : P1.length ≤ 1000 := by omega
          have hbs : b.length ≤ 1000 := by omega
          obtain ⟨s1, k1, o1, hE1⟩ : ∃ s1 k1 o1, lexAll s b = (s1, k1, o1) := ⟨_, _, _, rfl⟩
          have HE1 := Aside0.mk hE1
          have hPE : lexAll lex0 P1 = (s1, K ++ k1, O ++ o1) := by rw [hPB, lexAll_append, HE.out, hE1]
          have HPE := Aside0.mk hPE
          have hk1 : k1.length ≤ 1000 := by have := (lexAll_len b s).1; rw [hE1] at this; simp at this; omega
          have ho1l : o1.length ≤ 1000 := by have := (lexAll_len b s).2; rw [hE1] at this; simp at this; omega
          have HST := Aside0.mk (show s.st = 0 ∨ s.st = 1 ∨ s.st = 2 by have := lexAll_st P lex0 (.inl rfl); rw [HE.out] at this; exact this)
          have HT := Aside0.mk (show s.text.length ≤ 80 by have := lexAll_text P lex0 (by decide); rw [HE.out] at this; exact this)
          obtain ⟨K2, hK2⟩ : ∃ K2, K2 = K ++ k1 := ⟨_, rfl⟩
          obtain ⟨O2, hO2⟩ : ∃ O2, O2 = O ++ o1 := ⟨_, rfl⟩
          have HK2 := Aside0.mk hK2
          have HO2 := Aside0.mk hO2
          have hO2l : O2.length ≤ 100000 := by rw [hO2, List.length_append]; omega
          have HPE2 := Aside0.mk (show lexAll lex0 P1 = (s1, K2, O2) by rw [hPE, hK2, hO2])
          clear hPB hPl hE1 hPE hK2 hO2
          go_wp2_with (first | ((with_reducible refine gate_builtin (b := .append) (xs := #[.tmp 28, .tmp 29]) rfl ?_); at_builtin; refine app_nums rfl (.tmp 28) (.tmp 29) 34 5 .u8 1 rfl Try.underlying34 info5 (by decide) w.heap.size _ P b _ b.length _ rfl rfl ?aO ?aR ?aB ?aL ?_; (case aO => exact HI.out.r4); (case aR => exact HRJ.out); (case aB => exact hge); (case aL => exact (by omega)); intro v1 w3 ho1 hf1 hat1; rw [← HPB.out] at ho1; have HI1 := Aside0.mk (HI.out.all ho1 hat1 hf1); obtain ⟨A1, cp1, rfl⟩ := own_slice ho1; have HF3 := Aside0.mk hf1; have HRA := Aside0.mk (own_readsInt ho1); have hs3 : wr.heap.size ≤ w3.heap.size := hf1.size; clear ho1 hf1 hat1) | (go_at_call 15; refine (push_to b HE1.out Aj cj w1.heap.size tv w.heap.size _ (by omega) HI1.out.lex HI1.out.tne HST.out HT.out (HI1.out.fr.reads HRW.out (fun _ _ h => h)) (fun h0 ad e => push_apart HRW.out h0 e HI1.out) (by omega)).mono ?_; rintro e w4 ⟨kv, ov, tvk, rfl, hinv⟩; have HI2 := Aside0.mk (HI1.out.step hinv.1 hinv.2.2.2.2.1 hinv.2.2.2.2.2.2); obtain ⟨Ak, ck, rfl⟩ := own_slice hinv.2.2.1; obtain ⟨Ao, co, rfl⟩ := own_slice hinv.2.2.2.1; have HRK := Aside0.mk (own_readsInt hinv.2.2.1); have HRO := Aside0.mk hinv.2.2.2.1; have hs4 : w3.heap.size ≤ w4.heap.size := hinv.2.2.2.2.2.2.size; clear hinv) | ((with_reducible refine gate_builtin (b := .append) (xs := #[.tmp 40, .tmp 41]) rfl ?_); at_builtin; refine app_nums rfl (.tmp 40) (.tmp 41) 34 5 .u8 1 rfl Try.underlying34 info5 (by decide) w.heap.size _ K k1 _ k1.length _ rfl rfl ?aO ?aR ?aB ?aL ?_; (case aO => exact HI2.out.r5); (case aR => exact HRK.out); (case aB => exact (by omega)); (case aL => exact (by omega)); intro v2 w5 ho2 hf2 hat2; rw [← HK2.out] at ho2; have HI3 := Aside0.mk (HI2.out.keys ho2 hat2 hf2); have hs5 : w4.heap.size ≤ w5.heap.size := hf2.size; have HRO3 := Aside0.mk (hf2.own HRO.out (fun b hb hs => (ne_types HRO.out HI2.out.r5 (by decide)) b hb hs)); clear ho2 hf2 hat2) | ((with_reducible refine gate_builtin (b := .append) (xs := #[.tmp 43, .tmp 44]) rfl ?_); at_builtin; refine app_strs rfl (.tmp 43) (.tmp 44) 35 9 rfl Try.underlying35 info9 w.heap.size _ O o1 _ o1.length _ rfl rfl ?aO ?aR ?aB ?aL ?_; (case aO => exact HI3.out.r6); (case aR => exact own_readsOf HRO3.out); (case aB => exact (by omega)); (case aL => exact (by omega)); intro v3 w6 ho3 hf3 hat3; rw [← HO2.out] at ho3; have HI4 := Aside0.mk (HI3.out.cmds ho3 hf3); have hs6 : w5.heap.size ≤ w6.heap.size := hf3.size; clear ho3 hf3 hat3) | (go_at_call 16; refine (parts_to P1 HPE2.out A1 cp1 _ (own_readsInt HI4.out.r4) (own_le HI4.out.r4) (by omega)).mono ?_; rintro e w7 ⟨kp, op, rfl, hkp, hop, hfp⟩; have HI5 := Aside0.mk (HI4.out.keep hfp); have h5 := HI5.out.r5; have h6 := HI5.out.r6; obtain ⟨A5, c5, rfl⟩ := own_slice h5; obtain ⟨A6, c6, rfl⟩ := own_slice h6; obtain ⟨Akp, ckp, rfl⟩ := own_slice hkp; obtain ⟨Aop, cop, rfl⟩ := own_slice hop; have hcv5 := own_string (P := Try.prog) (src := 34) (dst := 9) Try.underlying34 Try.underlying5 Try.underlying9 h5; have hcvk := own_string (P := Try.prog) (src := 34) (dst := 9) Try.underlying34 Try.underlying5 Try.underlying9 hkp; have HR6 := Aside0.mk (own_readsOf (d := ByteArray.empty) h6); have HRop := Aside0.mk (own_readsOf (d := ByteArray.empty) hop); clear h5 h6 hkp hop hfp) | (go_at_call 17; refine (same_calls O2 _ _ _ _ _ HR6.out HRop.out (by omega)).mono ?_; rintro e w8 ⟨rfl, hf8⟩; have HI6 := Aside0.mk (HI5.out.keep hf8); clear hf8))
          go_roundw
          case rel => exact ⟨k + 1, s1, P1, K2, O2, tvk, by go_num, hlt, hshort, HPF, HPE2, HI6⟩
          case measure => simp [intOf]; omega
      · go_wp2
        go_ret
        exact ⟨rfl, HI.out.fr.to_below (Nat.le_refl _) (fun i h => h.elim)⟩

theorem LexPieces_walk (W : World) (A : Option Addr) (cp : Nat) (L : List (List Int)) (_hc : L.length ≤ cp) (hr : ReadsRows W A L) (hl : L.length ≤ 9223372036854775807) :
    Calls Try.prog 5 #[.slice A L.length cp] W fun e w' => e = .returned (.bool true) ∧ Below W.heap.size W w' := pieces_calls L A cp W hr hl
end Go.Proofs.Ytajhahgaeihfaaa.LexW

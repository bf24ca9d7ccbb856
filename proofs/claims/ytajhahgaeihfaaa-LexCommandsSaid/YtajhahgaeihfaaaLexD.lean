/- The law LexCommands, walked: true. -/
import Derived.Test.YtajhahgaeihfaaaLexE
import Derived.Test.YtajhahgaeihfaaaWGuard
namespace Go.Proofs.Ytajhahgaeihfaaa.LexW
open Go.RowKit Go.Proofs.YtajhahgaeihfaaaW.PrintWords Go.Proofs.YtajhahgaeihfaaaW.PrintMore Go.Proofs.Ytajhahgaeihfaaa.Fr Go.Proofs.Ytajhahgaeihfaaa.LexP Go.Proofs.Ytajhahgaeihfaaa.Openers
set_option linter.unusedVariables false
set_option linter.unusedSimpArgs false

theorem append_size (a b : ByteArray) : (a ++ b).size = a.size + b.size := by simp [ByteArray.size_append]

theorem push_nums {w wr : World} {b0 b1 g : Nat} {tv v : Value} {s s0 : LexS} {K X : List Int} {O : List ByteArray} {kv ov tvk : Value} (h : PushInv w b0 g tv s K O kv ov tvk wr) (hL : IsLex w b0 g s0 tv) (hn : NeRow v tv) (hv : w.ownsRow b1 5 1 v X.length (nums .u8 X)) :
    wr.ownsRow b1 5 1 v X.length (nums .u8 X) :=
  h.2.2.2.2.2.2.own hv (fun b hb hs => by
    rcases hs with rfl | hs
    · exact (own_ne hv hL.1 (by decide)) hb.symm
    · exact hn b hb hs)

set_option maxHeartbeats 1000000 in
set_option maxRecDepth 100000 in
theorem commands_calls (keys lines : List ByteArray) (A0 A1 : Option Addr) (c0 c1 : Nat) (cut : Int) (w : World) (h0 : ReadsOf Value.string ByteArray.empty w A0 keys.length keys) (h1 : ReadsOf Value.string ByteArray.empty w A1 lines.length lines)
    (hk : keys.length ≤ 9223372036854775807) (hl : lines.length ≤ 9223372036854775807) (hks : ∀ x ∈ keys, x.size ≤ 140737488351232) (hls : ∀ x ∈ lines, x.size ≤ 140737488351232) :
    Calls Try.prog 8 #[.slice A0 keys.length c0, .slice A1 lines.length c1, .int .i64 cut] w fun e w' => e = .returned (.bool true) ∧ Below w.heap.size w w' := by
  have H0 := Aside0.mk h0
  have H1 := Aside0.mk h1
  have HKS := Aside0.mk hks
  have HLS := Aside0.mk hls
  clear h0 h1 hks hls
  by_cases hg1 : 20 < keys.length
  · go_enter Try.func8, Try.ntmps8
    go_wp2_with (go_at_call 13; refine (head_calls _).mono ?_; rintro e w1 ⟨rfl, hb1⟩; have HB1 := Aside0.mk hb1; clear hb1)
    go_ret
    exact ⟨rfl, HB1.out⟩
  by_cases hg2 : 20 < lines.length
  · go_enter Try.func8, Try.ntmps8
    go_wp2_with (go_at_call 13; refine (head_calls _).mono ?_; rintro e w1 ⟨rfl, hb1⟩; have HB1 := Aside0.mk hb1; clear hb1)
    go_ret
    exact ⟨rfl, HB1.out⟩
  by_cases hg3 : keys.length < lines.length
  · go_enter Try.func8, Try.ntmps8
    go_wp2_with (go_at_call 13; refine (head_calls _).mono ?_; rintro e w1 ⟨rfl, hb1⟩; have HB1 := Aside0.mk hb1; clear hb1)
    go_ret
    exact ⟨rfl, HB1.out⟩
  go_enter Try.func8, Try.ntmps8
  go_wp2_with (go_at_call 13; refine (head_calls _).mono ?_; rintro e w1 ⟨rfl, hb1⟩; have HB1 := Aside0.mk hb1; clear hb1)
  go_loop [7, 8, 38] (fun v7 v8 v38 => ∃ (i : Nat) (all want : ByteArray), v38 = .int .i64 i ∧ i ≤ keys.length ∧ v7 = .string all ∧ v8 = .string want ∧ all.size ≤ 143 * i ∧ want.size ≤ 60 * i ∧ Aside0 (CInv lines i all want)) (fun _ _ i => keys.length - (intOf i).toNat)
  case atStart => exact ⟨0, ⟨#[]⟩, ⟨#[]⟩, rfl, Nat.zero_le _, rfl, rfl, (Nat.zero_le _ : (0 : Nat) ≤ _), (Nat.zero_le _ : (0 : Nat) ≤ _), ⟨cinv_zero lines⟩⟩
  case round =>
    obtain ⟨i, all, want, rfl, hi, rfl, rfl, has, hws, HC⟩ := hrel
    by_cases hlt : i < keys.length
    · obtain ⟨k, hkd⟩ : ∃ k, keys.getD i ByteArray.empty = k := ⟨_, rfl⟩
      obtain ⟨ad0, e0, hcs⟩ := H0.out.2.2 (by omega)
      subst e0
      have hHB : Fr nope w w1 := Fr.of_below HB1.out
      have hck := strcell (hHB.readsOf H0.out (fun _ _ h => h)) hlt hkd
      have hkz : k.size ≤ 140737488351232 := HKS.out k (by rw [← hkd]; simp [hlt])
      clear hcs hkd
      by_cases hk60 : 60 < k.size
      · go_wp2
        go_ret
        exact ⟨rfl, HB1.out⟩
      · go_wp2
        go_loop [11] (fun v11 => ∃ j : Nat, v11 = .int .i64 j ∧ j ≤ k.size ∧ Aside0 (∀ t (h : t < k.size), t < j → ((k[t]'h).toNat : Int) ≠ 29)) (fun v11 => k.size - (intOf v11).toNat)
        case atStart => exact ⟨0, rfl, Nat.zero_le _, ⟨fun t h h2 => by omega⟩⟩
        case round =>
          obtain ⟨j, rfl, hj, HJ⟩ := hrel
          by_cases hjl : j < k.size
          · by_cases h29 : ((k[j]'hjl).toNat : Int) = 29
            · have hb1 : (((k[j]'hjl).toNat : Int) == 29) = true := beq_iff_eq.2 h29
              clear h29
              go_wp2
              go_ret
              exact ⟨rfl, HB1.out⟩
            · have hb1 : (((k[j]'hjl).toNat : Int) == 29) = false := beq_eq_false_iff_ne.2 h29
              have HJ2 : Aside0 (∀ t (h : t < k.size), t < j + 1 → ((k[t]'h).toNat : Int) ≠ 29) := ⟨fun t h h2 => by
                by_cases e : t = j
                · subst e; exact h29
                · exact HJ.out t h (by omega)⟩
              clear h29
              go_wp2
              go_round
              case rel => exact ⟨j + 1, by go_num, hjl, HJ2⟩
              case measure => simp [intOf]; omega
          · have HK29 := Aside0.mk (bytes_mem k 29 (fun t h => HJ.out t h (by omega)))
            by_cases hil : lines.length ≤ i
            · have HC2 := Aside0.mk (cinv_key HC.out HK29.out hil)
              have hs1 := append_size all k
              have hs2 := append_size want k
              have hs3 : (all ++ k).size ≤ 143 * (i + 1) := by omega
              have hs4 : (want ++ k).size ≤ 60 * (i + 1) := by omega
              clear hs1 hs2
              go_wp2
              go_round
              case rel => exact ⟨i + 1, _, _, by go_num, hlt, rfl, rfl, hs3, hs4, HC2⟩
              case measure => simp [intOf]; omega
            · have hil2 : i < lines.length := by omega
              obtain ⟨l, hld⟩ : ∃ l, lines.getD i ByteArray.empty = l := ⟨_, rfl⟩
              obtain ⟨ad1, e1, hcs1⟩ := H1.out.2.2 (by omega)
              subst e1
              have hcl := strcell (hHB.readsOf H1.out (fun _ _ h => h)) hil2 hld
              have hlz : l.size ≤ 140737488351232 := HLS.out l (by rw [← hld]; simp [hil2])
              have HLD := Aside0.mk hld
              clear hcs1 hld
              by_cases hl80 : 80 < l.size
              · have hs3 : (all ++ k).size ≤ 5000 := by rw [append_size]; omega
                have hs4 : (want ++ k).size ≤ 5000 := by rw [append_size]; omega
                go_wp2
                go_ret
                exact ⟨rfl, HB1.out⟩
              · have hs3 : (all ++ k).size ≤ 5000 := by rw [append_size]; omega
                have hs4 : (want ++ k).size ≤ 5000 := by rw [append_size]; omega
                go_wp2
                go_loop [12] (fun v12 => ∃ j : Nat, v12 = .int .i64 j ∧ j ≤ l.size ∧ Aside0 (∀ t (h : t < l.size), t < j → ((l[t]'h).toNat : Int) ≠ 10)) (fun v12 => l.size - (intOf v12).toNat)
                case atStart => exact ⟨0, rfl, Nat.zero_le _, ⟨fun t h h2 => by omega⟩⟩
                case round =>
                  obtain ⟨j2, rfl, hj2, HJ3⟩ := hrel
                  by_cases hjl2 : j2 < l.size
                  · by_cases h10 : ((l[j2]'hjl2).toNat : Int) = 10
                    · have hb1 : (((l[j2]'hjl2).toNat : Int) == 10) = true := beq_iff_eq.2 h10
                      clear h10
                      go_wp2
                      go_ret
                      exact ⟨rfl, HB1.out⟩
                    · have hb1 : (((l[j2]'hjl2).toNat : Int) == 10) = false := beq_eq_false_iff_ne.2 h10
                      have HJ4 : Aside0 (∀ t (h : t < l.size), t < j2 + 1 → ((l[t]'h).toNat : Int) ≠ 10) := ⟨fun t h h2 => by
                        by_cases e : t = j2
                        · subst e; exact h10
                        · exact HJ3.out t h (by omega)⟩
                      clear h10
                      go_wp2
                      go_round
                      case rel => exact ⟨j2 + 1, by go_num, hjl2, HJ4⟩
                      case measure => simp [intOf]; omega
                  · have HL10 := Aside0.mk (bytes_mem l 10 (fun t h => HJ3.out t h (by omega)))
                    have HC3 := Aside0.mk (cinv_line HC.out HK29.out hil2 HLD.out (by omega) HL10.out)
                    have hz1 := append_size all k
                    have hz2 := append_size (all ++ k) ⟨#[29, 58]⟩
                    have hz3 := append_size (all ++ k ++ ⟨#[29, 58]⟩) l
                    have hz4 := append_size (all ++ k ++ ⟨#[29, 58]⟩ ++ l) ⟨#[10]⟩
                    have hz5 := append_size want k
                    rw [show (⟨#[29, 58]⟩ : ByteArray).size = 2 from rfl] at hz2
                    rw [show (⟨#[10]⟩ : ByteArray).size = 1 from rfl] at hz4
                    have g1 : (all ++ k ++ ⟨#[29, 58]⟩).size ≤ 5000 := by omega
                    have g2 : (all ++ k ++ ⟨#[29, 58]⟩ ++ l).size ≤ 5000 := by omega
                    have g3 : (all ++ k ++ ⟨#[29, 58]⟩ ++ l ++ ⟨#[10]⟩).size ≤ 143 * (i + 1) := by omega
                    have g4 : (want ++ k).size ≤ 60 * (i + 1) := by omega
                    clear hz1 hz2 hz3 hz4 hz5
                    go_wp2
                    go_round
                    case rel => exact ⟨i + 1, _, _, by go_num, hlt, rfl, rfl, g3, g4, HC3⟩
                    case measure => simp [intOf]; omega
    · obtain ⟨a, hca, haa⟩ : ∃ a : Nat, wrap64 ((IntKind.u64.wrap cut).tmod (IntKind.u64.wrap ((all.size : Int) + 1))) = a ∧ a ≤ all.size := by
        have hu0 : 0 ≤ IntKind.u64.wrap cut := by
          simp [IntKind.wrap, IntKind.signed]
          omega
        have hu1 : IntKind.u64.wrap ((all.size : Int) + 1) = (all.size : Int) + 1 := by
          simp [IntKind.wrap, IntKind.signed, IntKind.bits]
          omega
        rw [hu1]
        generalize IntKind.u64.wrap cut = m at *
        rw [Int.tmod_eq_emod_of_nonneg hu0]
        have h1 := Int.emod_nonneg m (show (all.size : Int) + 1 ≠ 0 by omega)
        have h2 := Int.emod_lt_of_pos m (show 0 < (all.size : Int) + 1 by omega)
        refine ⟨(m % ((all.size : Int) + 1)).toNat, ?_, by omega⟩
        generalize m % ((all.size : Int) + 1) = q at *
        unfold wrap64
        omega
      obtain ⟨q1, p1, o1, q2, p2, o2, hE1, hE2, hwant, hlines⟩ := cinv_end (a := a) HC.out (by omega)
      have hu1 : IntKind.u64.wrap ((all.size : Int) + 1) = (all.size : Int) + 1 := by
        simp [IntKind.wrap, IntKind.signed, IntKind.bits]
        omega
      rw [hu1] at hca
      obtain ⟨B1, hB1⟩ : ∃ B, bytesOf (all.extract 0 a) = B := ⟨_, rfl⟩
      obtain ⟨B2, hB2⟩ : ∃ B, bytesOf (all.extract a all.size) = B := ⟨_, rfl⟩
      have hB1e : B1 = (bytesOf all).take a := by rw [← hB1, bytesOf_take _ _ haa]
      have hB2e : B2 = (bytesOf all).drop a := by rw [← hB2, bytesOf_drop]
      have hBall : (bytesOf all).length = all.size := bytesOf_length all
      have hB1l : B1.length ≤ 3000 := by rw [hB1e, List.length_take]; omega
      have hB2l : B2.length ≤ 3000 := by rw [hB2e, List.length_drop]; omega
      have hs1 : (all.extract 0 a).size = B1.length := by rw [← hB1, bytesOf_length]
      have hs2 : (all.extract a all.size).size = B2.length := by rw [← hB2, bytesOf_length]
      have hcv1 := fun W => print_bytes (P := Try.prog) 9 34 5 Try.underlying9 Try.underlying34 Try.underlying5 (all.extract 0 a) W
      have hcv2 := fun W => print_bytes (P := Try.prog) 9 34 5 Try.underlying9 Try.underlying34 Try.underlying5 (all.extract a all.size) W
      rw [hs1] at hcv1
      rw [hs2] at hcv2
      have hrb1 := fun W => bytes_reads W 5 (all.extract 0 a) (by omega)
      have hrb2 := fun W => bytes_reads W 5 (all.extract a all.size) (by omega)
      rw [hB1, hs1] at hrb1
      rw [hB2, hs2] at hrb2
      have HRB1 := Aside0.mk hrb1
      have HRB2 := Aside0.mk hrb2
      have HBW : Aside0 (∀ (W : World) (s : ByteArray), Fr nope W (Lib.bytesWorld W 5 s)) := ⟨fun W s => Fr.of_below (bytes_below (Below.refl _ _) (Nat.le_refl _) _ _)⟩
      have hp1 : p1.length ≤ 3000 := by have := (lexAll_len ((bytesOf all).take a) lex0).1; rw [hE1] at this; simp at this; omega
      have ho1 : o1.length ≤ 3000 := by have := (lexAll_len ((bytesOf all).take a) lex0).2; rw [hE1] at this; simp at this; omega
      have hp2 : p2.length ≤ 3000 := by have := (lexAll_len ((bytesOf all).drop a) q1).1; rw [hE2] at this; simp at this; omega
      have ho2 : o2.length ≤ 3000 := by have := (lexAll_len ((bytesOf all).drop a) q1).2; rw [hE2] at this; simp at this; omega
      have HST := Aside0.mk (show q1.st = 0 ∨ q1.st = 1 ∨ q1.st = 2 by have := lexAll_st ((bytesOf all).take a) lex0 (.inl rfl); rw [hE1] at this; exact this)
      have HT := Aside0.mk (show q1.text.length ≤ 80 by have := lexAll_text ((bytesOf all).take a) lex0 (by decide); rw [hE1] at this; exact this)
      rw [← hB1e] at hE1
      rw [← hB2e] at hE2
      have HE1 := Aside0.mk hE1
      have HE2 := Aside0.mk hE2
      have HWA := Aside0.mk hwant
      have HLI := Aside0.mk hlines
      clear hE1 hE2 hwant hlines hB1 hB2 hB1e hB2e hBall hs1 hs2 hrb1 hrb2
      have hw0 : w.heap.size ≤ w1.heap.size := HB1.out.size
      go_wp2_with fail
      refine (new_calls w.heap.size _).mono ?_
      rintro e w2 ⟨rfl, hl2, hb2⟩
      have HL2 := Aside0.mk hl2
      have HB2 := Aside0.mk (HB1.out.trans (hb2.mono hw0))
      have hw2 : w1.heap.size < w2.heap.size := blk_lt hl2.1
      clear hl2 hb2
      go_wp2_with fail
      have hbw2 := (HBW.out w2 (all.extract 0 a)).size
      refine (push_to B1 HE1.out (some ⟨w2.heap.size, 0, none⟩) _ w1.heap.size (.slice none 0 0) w.heap.size _ (by omega) ⟨(HBW.out w2 _).blk HL2.out.1 id, own_nil _ _ _ _⟩ (by simp [Value.ownBlock]) (.inl rfl) (by decide) (HRB1.out w2) (fun h0 ad e => by cases e; exact ⟨by simp only [ne_eq]; omega, by simp [Value.ownBlock]⟩) (by omega)).mono ?_
      rintro e w3 ⟨kv1, ov1, tvk1, rfl, hinv1⟩
      obtain ⟨A3, c3, rfl⟩ := own_slice hinv1.2.2.1
      obtain ⟨A4, c4, rfl⟩ := own_slice hinv1.2.2.2.1
      have HI3 := Aside0.mk hinv1
      have b2b : Below w.heap.size w2 (Lib.bytesWorld w2 5 (all.extract 0 a)) := (HBW.out w2 _).to_below (by omega) (fun i h => h.elim)
      have b3 : Below w.heap.size (Lib.bytesWorld w2 5 (all.extract 0 a)) w3 := push_below HI3.out hw0 (fun b hb => by simp [Value.ownBlock] at hb) (by omega)
      have HB3 := Aside0.mk ((HB2.out.trans b2b).trans b3)
      have hw3 : w2.heap.size ≤ w3.heap.size := by have := hinv1.2.2.2.2.2.2.size; omega
      have hbw3 := (HBW.out w3 (all.extract a all.size)).size
      clear hinv1 b2b b3
      go_wp2_with fail
      refine (push_to B2 HE2.out (some ⟨w3.heap.size, 0, none⟩) _ w1.heap.size tvk1 w.heap.size _ (by omega) ⟨(HBW.out w3 _).blk HI3.out.1.1 id, (HBW.out w3 _).own HI3.out.1.2 (fun _ _ => id)⟩ HI3.out.2.1 HST.out HT.out (HRB2.out w3) (fun h0 ad e => by cases e; exact ⟨by simp only [ne_eq]; omega, fun e2 => by have := own_lt HI3.out.1.2 _ e2; simp at this⟩) (by omega)).mono ?_
      rintro e w4 ⟨kv2, ov2, tvk2, rfl, hinv2⟩
      obtain ⟨A5, c5, rfl⟩ := own_slice hinv2.2.2.1
      obtain ⟨A6, c6, rfl⟩ := own_slice hinv2.2.2.2.1
      have HI4 := Aside0.mk hinv2
      have hL3 : IsLex (Lib.bytesWorld w3 5 (all.extract a all.size)) w.heap.size w1.heap.size q1 tvk1 := ⟨(HBW.out w3 _).blk HI3.out.1.1 id, (HBW.out w3 _).own HI3.out.1.2 (fun _ _ => id)⟩
      have hk1 := push_nums hinv2 hL3 HI3.out.2.2.2.2.2.1 ((HBW.out w3 _).own HI3.out.2.2.1 (fun _ _ => id))
      have ho1r := push_texts hinv2 hL3 ((HBW.out w3 _).own HI3.out.2.2.2.1 (fun _ _ => id))
      have hcvk1 := own_string (P := Try.prog) (src := 34) (dst := 9) Try.underlying34 Try.underlying5 Try.underlying9 hk1
      have hcvk2 := own_string (P := Try.prog) (src := 34) (dst := 9) Try.underlying34 Try.underlying5 Try.underlying9 hinv2.2.2.1
      have b3b : Below w.heap.size w3 (Lib.bytesWorld w3 5 (all.extract a all.size)) := (HBW.out w3 _).to_below (by omega) (fun i h => h.elim)
      have b4 : Below w.heap.size (Lib.bytesWorld w3 5 (all.extract a all.size)) w4 := push_below HI4.out hw0 (fun b hb => own_base HI3.out.1.2 b hb) (by omega)
      have HB4 := Aside0.mk ((HB3.out.trans b3b).trans b4)
      have HO1R := Aside0.mk ho1r
      have hz1 : (strOfNums p1).size ≤ 3000 := by rw [strOfNums_size]; exact hp1
      have hz2 : (strOfNums p2).size ≤ 3000 := by rw [strOfNums_size]; exact hp2
      have hwa := HWA.out
      generalize strOfNums p1 = str1 at hcvk1 hz1 hwa
      generalize strOfNums p2 = str2 at hcvk2 hz2 hwa
      have hw4 : w.heap.size ≤ w4.heap.size := HB4.out.size
      clear hinv2 hL3 hk1 ho1r b3b b4
      go_wp2_with (first | ((with_reducible refine gate_builtin (b := .append) (xs := #[.tmp 132, .tmp 133]) rfl ?_); refine gate_guard (by rfl) ?_; refine app_strs rfl (.tmp 132) (.tmp 133) 35 9 rfl Try.underlying35 info9 w4.heap.size (.slice (some ⟨w4.heap.size, 0, none⟩) 0 0) [] o1 _ o1.length _ rfl rfl ?aO ?aR ?aB ?aL ?_; (case aO => exact own_empty w4 w4.heap.size _ (Nat.le_refl _)); (case aR => exact own_readsOf (HO1R.out.alloc _)); (case aB => exact (by simp)); (case aL => exact (by simp; omega)); intro v5 w5 ho5 hf5 hat5; (try rw [List.nil_append] at ho5); have HO5 := Aside0.mk ho5; have HF5 := Aside0.mk hf5; have HO2R := Aside0.mk (hf5.own (HI4.out.2.2.2.1.alloc _) (fun b hb hs => by have h1 := own_lt HI4.out.2.2.2.1 b hb; have h2 : w4.heap.size = b := Option.some.inj hs; omega)); have hs5 : w4.heap.size ≤ w5.heap.size := (by have := hf5.size; simp at this; omega); clear ho5 hf5 hat5) | ((with_reducible refine gate_builtin (b := .append) (xs := #[.tmp 134, .tmp 135]) rfl ?_); refine gate_guard (by rfl) ?_; refine app_strs rfl (.tmp 134) (.tmp 135) 35 9 rfl Try.underlying35 info9 w4.heap.size _ o1 o2 _ o2.length _ rfl rfl ?aO ?aR ?aB ?aL ?_; (case aO => exact HO5.out); (case aR => exact own_readsOf HO2R.out); (case aB => exact (by omega)); (case aL => exact (by omega)); intro v6 w6 ho6 hf6 hat6; rw [HLI.out] at ho6; obtain ⟨A7, c7, rfl⟩ := own_slice ho6; have HR6 := Aside0.mk (own_readsOf (d := ByteArray.empty) ho6); have HF6 := Aside0.mk hf6; have HB6 : Aside0 (Below w.heap.size w w6) := ⟨(HB4.out.trans (((Fr.refl nope w4).alloc _).to_below hw4 (fun i h => h.elim))).trans ((HF5.out.to_below (B := w.heap.size) (by simp; omega) (fun i h => by have h2 : w4.heap.size = i := Option.some.inj h; omega)).trans (hf6.to_below (by omega) (fun i h => by have := own_base HO5.out i h; omega)))⟩; clear ho6 hf6 hat6) | (go_at_call 17; refine (same_calls lines _ _ _ _ _ HR6.out ((Fr.of_below (S := nope) HB6.out).readsOf H1.out (fun _ _ h => h)) (by omega)).mono ?_; rintro e w7 ⟨rfl, hf7⟩; have HF7 := Aside0.mk hf7; clear hf7))
      go_ret
      exact ⟨rfl, HB6.out.trans (HF7.out.to_below HB6.out.size (fun i h => h.elim))⟩

theorem LexCommands_walk (W : World) (A0 : Option Addr) (c0 : Nat) (keys : List ByteArray) (_h0 : keys.length ≤ c0) (r0 : ReadsOf Value.string ByteArray.empty W A0 keys.length keys) (s0 : ∀ x ∈ keys, x.size ≤ 140737488351232) (l0 : keys.length ≤ 9223372036854775807)
    (A1 : Option Addr) (c1 : Nat) (lines : List ByteArray) (_h1 : lines.length ≤ c1) (r1 : ReadsOf Value.string ByteArray.empty W A1 lines.length lines) (s1 : ∀ x ∈ lines, x.size ≤ 140737488351232) (l1 : lines.length ≤ 9223372036854775807) (cut : Int) (_wc : (Lit.int .i64 cut).wf = true) :
    Calls Try.prog 8 #[.slice A0 keys.length c0, .slice A1 lines.length c1, .int .i64 cut] W fun e w' => e = .returned (.bool true) ∧ Below W.heap.size W w' :=
  commands_calls keys lines A0 A1 c0 c1 cut W r0 r1 l0 l1 s0 s1
end Go.Proofs.Ytajhahgaeihfaaa.LexW

/- What kibitzerlaw08.Parts does: the same keystrokes and commands as the lexer's. -/
import Derived.Test.YtajhahgaeihfaaaLexV
namespace Go.Proofs.Ytajhahgaeihfaaa.LexW
open Go.RowKit Go.Proofs.YtajhahgaeihfaaaW.PrintWords Go.Proofs.YtajhahgaeihfaaaW.PrintMore Go.Proofs.Ytajhahgaeihfaaa.Fr Go.Proofs.Ytajhahgaeihfaaa.LexP
set_option linter.unusedVariables false
set_option linter.unusedSimpArgs false

theorem own_empty (W : World) (b0 : Nat) (e : TypeId) (hb : b0 ≤ W.heap.size) : (W.alloc (.cells #[] e)).ownsRow b0 e 1 (.slice (some ⟨W.heap.size, 0, none⟩) 0 0) 0 [] :=
  World.ownsRow_made W #[] 0 hb (by unfold maxLen; omega) rfl

theorem info5' : ∃ i, Try.prog.info? 5 = some i ∧ i.size = 1 := by
  obtain ⟨i, hi, hz⟩ := Option.map_eq_some_iff.1 info5
  simp only [Prod.mk.injEq] at hz
  exact ⟨i, hi, hz.2.1⟩

/-- what the outer loop of Parts keeps -/
def PartsInv (w : World) (bs : List Int) (R : List Int × List ByteArray) (s : LexS) (e : Nat) (K : List Int) (O : List ByteArray) (v4 v5 : Value) (wr : World) : Prop :=
  outs K O s (bs.drop e) = some R ∧ wr.ownsRow w.heap.size 5 1 v4 K.length (nums .u8 K) ∧ wr.ownsRow w.heap.size 9 1 v5 O.length (encs Value.string O) ∧ Fr nope w wr

theorem pinv_keys {w wr w1 : World} {bs : List Int} {R : List Int × List ByteArray} {s s1 : LexS} {e e1 : Nat} {K K1 : List Int} {O : List ByteArray} {v4 v41 v5 : Value} (h : PartsInv w bs R s e K O v4 v5 wr)
    (hk : w1.ownsRow w.heap.size 5 1 v41 K1.length (nums .u8 K1)) (hF : Fr (rowOf v4) wr w1) (he : outs K O s (bs.drop e) = outs K1 O s1 (bs.drop e1)) : PartsInv w bs R s1 e1 K1 O v41 v5 w1 := by
  obtain ⟨h1, h2, h3, h4⟩ := h
  refine ⟨he ▸ h1, hk, hF.own h3 (fun b hb hs => (ne_types h3 h2 (by decide)) b hb hs), h4.trans hF fun i hi hs => ?_⟩
  have := (own_old h2 hs).1
  omega
theorem pinv_cmds {w wr w1 : World} {bs : List Int} {R : List Int × List ByteArray} {s s1 : LexS} {e e1 : Nat} {K : List Int} {O O1 : List ByteArray} {v4 v5 v51 : Value} (h : PartsInv w bs R s e K O v4 v5 wr)
    (ho : w1.ownsRow w.heap.size 9 1 v51 O1.length (encs Value.string O1)) (hF : Fr (rowOf v5) wr w1) (he : outs K O s (bs.drop e) = outs K O1 s1 (bs.drop e1)) : PartsInv w bs R s1 e1 K O1 v4 v51 w1 := by
  obtain ⟨h1, h2, h3, h4⟩ := h
  refine ⟨he ▸ h1, hF.own h2 (fun b hb hs => (ne_types h2 h3 (by decide)) b hb hs), ho, h4.trans hF fun i hi hs => ?_⟩
  have := (own_old h3 hs).1
  omega
theorem pinv_alloc {w wr : World} {bs : List Int} {R : List Int × List ByteArray} {s : LexS} {e : Nat} {K : List Int} {O : List ByteArray} {v4 v5 : Value} (h : PartsInv w bs R s e K O v4 v5 wr) (o : Obj) : PartsInv w bs R s e K O v4 v5 (wr.alloc o) :=
  ⟨h.1, h.2.1.alloc o, h.2.2.1.alloc o, h.2.2.2.alloc o⟩
theorem pinv_step {w wr : World} {bs : List Int} {R : List Int × List ByteArray} {s s1 : LexS} {e e1 : Nat} {K : List Int} {O : List ByteArray} {v4 v5 : Value} (h : PartsInv w bs R s e K O v4 v5 wr) (he : outs K O s (bs.drop e) = outs K O s1 (bs.drop e1)) : PartsInv w bs R s1 e1 K O v4 v5 wr :=
  ⟨he ▸ h.1, h.2⟩
theorem pinv_done {w wr : World} {bs : List Int} {R : List Int × List ByteArray} {s : LexS} {e : Nat} {K : List Int} {O : List ByteArray} {v4 v5 : Value} (h : PartsInv w bs R s e K O v4 v5 wr) (he : outs K O s (bs.drop e) = some (K, O)) :
    wr.ownsRow w.heap.size 5 1 v4 R.1.length (nums .u8 R.1) ∧ wr.ownsRow w.heap.size 9 1 v5 R.2.length (encs Value.string R.2) ∧ Fr nope w wr := by
  have : R = (K, O) := Option.some.inj (h.1.symm.trans he)
  subst this
  exact h.2

set_option maxHeartbeats 4000000 in
set_option maxRecDepth 100000 in
theorem parts_calls (bs : List Int) (A : Option Addr) (cp : Nat) (w : World) (hr : ReadsInt w .u8 A bs.length bs) (hcp : bs.length ≤ cp) (hn : bs.length ≤ 100000) :
    Calls Try.prog 16 #[.slice A bs.length cp] w fun e w' => ∃ kv ov, e = .returned (.tuple #[kv, ov]) ∧
      w'.ownsRow w.heap.size 5 1 kv (lexAll lex0 bs).2.1.length (nums .u8 (lexAll lex0 bs).2.1) ∧ w'.ownsRow w.heap.size 9 1 ov (lexAll lex0 bs).2.2.length (encs Value.string (lexAll lex0 bs).2.2) ∧ Fr nope w w' := by
  obtain ⟨R, hR⟩ : ∃ R, R = ((lexAll lex0 bs).2.1, (lexAll lex0 bs).2.2) := ⟨_, rfl⟩
  have hP0 := outs_lex0 bs
  rw [← hR] at hP0
  have hR1 : (lexAll lex0 bs).2.1 = R.1 := by rw [hR]
  have hR2 : (lexAll lex0 bs).2.2 = R.2 := by rw [hR]
  rw [hR1, hR2]
  have HP0 := Aside0.mk hP0
  have HR := Aside0.mk hr
  clear hR hP0 hR1 hR2 hr
  go_enter Try.func16, Try.ntmps16
  go_wp2
  go_loopw [4, 5, 6] (fun v4 v5 v6 wr => ∃ (i : Nat) (s : LexS) (K : List Int) (O : List ByteArray), v6 = .int .i64 i ∧ i ≤ bs.length ∧ K.length ≤ i ∧ O.length ≤ i ∧ Aside0 (s.st = 0) ∧ Aside0 (PartsInv w bs R s i K O v4 v5 wr)) (fun _ _ i _ => bs.length - (intOf i).toNat)
  case atStart =>
    have h9 := own_empty (w.alloc (.cells #[] 5)) w.heap.size 9 (by simp)
    simp only [World.size_alloc] at h9
    exact ⟨0, lex0, [], [], rfl, Nat.zero_le _, by simp, by simp, ⟨rfl⟩, ⟨HP0.out, (own_empty w _ _ (Nat.le_refl _)).alloc _, h9, ((Fr.refl _ w).alloc _).alloc _⟩⟩
  case round =>
    obtain ⟨i, s, K, O, rfl, hi, hKi, hOi, HS, HI⟩ := hrel
    have hsz : w.heap.size ≤ wr.heap.size := HI.out.2.2.2.size
    by_cases hlt : i < bs.length
    · have hrd := HI.out.2.2.2.reads HR.out (fun ad e h => h)
      obtain ⟨ad, hAe, hcells⟩ := hrd.2.2 (by omega)
      obtain rfl := hAe
      have HCL := Aside0.mk hcells
      clear hrd hcells
      obtain ⟨c, hc⟩ : ∃ c, rd bs (i : Int) = c := ⟨_, rfl⟩
      have hcell : wr.cell? (ad.add i) = some (.int .u8 c) := by have := HCL.out i hlt; rw [← hc]; simpa [rd] using this
      have HC := Aside0.mk hc
      clear hc
      by_cases h29 : c = 29
      · have hc1 : (c != 29) = false := by simp [h29]
        have HC29 := Aside0.mk (show rd bs (i : Int) = 29 by rw [HC.out, h29])
        clear h29
        by_cases hlast : i + 1 = bs.length
        · have hl1 : ((i : Int) + 1 == (bs.length : Int)) = true := by rw [beq_iff_eq]; omega
          have HD := Aside0.mk (pinv_done HI.out (outs_esc_last hlast HC29.out HS.out))
          clear hlast
          go_wp2
          go_ret2
          exact ⟨_, _, rfl, HD.out⟩
        · have hl1 : ((i : Int) + 1 == (bs.length : Int)) = false := by rw [beq_eq_false_iff_ne]; omega
          have hlt2 : i + 1 < bs.length := by omega
          obtain ⟨d, hd⟩ : ∃ d, rd bs ((i + 1 : Nat) : Int) = d := ⟨_, rfl⟩
          have hcell2 : wr.cell? (ad.add (i + 1)) = some (.int .u8 d) := by have := HCL.out (i + 1) hlt2; rw [← hd]; simpa [rd] using this
          have HDc := Aside0.mk hd
          rw [add_succ] at hcell2
          clear hd hlast
          by_cases h2 : d = 29
          · have hd1 : (d == 29) = true := beq_iff_eq.2 h2
            have hd2 : (d != 58) = true := by rw [h2]; rfl
            have HE := Aside0.mk (outs_esc_esc (K := K) (O := O) hlt2 HC29.out HS.out (by rw [HDc.out, h2]))
            clear h2
            go_wp2_with (first | ((with_reducible refine gate_builtin (b := .append) (xs := #[.tmp 40, .tmp 41]) rfl ?_); at_builtin; refine app_nums rfl (.tmp 40) (.tmp 41) 34 5 .u8 1 rfl Try.underlying34 info5 (by decide) w.heap.size _ K [29] _ 1 1 rfl rfl ?aO ?aR ?aB ?aL ?_; (case aO => exact HI.out.2.1.alloc _); (case aR => exact reads_one wr .u8 29 5); (case aB => exact (by simp; omega)); (case aL => exact (by omega)); intro v1 w1 ho1 hf1 hat1; have HI1 := Aside0.mk (pinv_keys (pinv_alloc HI.out _) ho1 hf1 HE.out); have hcell3 := cell_succ (HI1.out.2.2.2.reads HR.out (fun ad e h => h)) hlt2 HDc.out; clear ho1 hf1 hat1))
            go_roundw
            case rel => exact ⟨i + 2, s, K ++ [29], O, by go_num, by omega, by simp; omega, by omega, HS, HI1⟩
            case measure => simp [intOf]; omega
          · by_cases h58 : d = 58
            · have hd1 : (d == 29) = false := by rw [h58]; rfl
              have hd2 : (d != 58) = false := by rw [h58]; rfl
              have HE := Aside0.mk (outs_esc_colon (K := K) (O := O) hlt2 HC29.out HS.out (by rw [HDc.out, h58]))
              have HI1 := Aside0.mk (pinv_step (s1 := inLine bs i (i + 2)) HI.out HE.out)
              clear h2 h58 HE
              go_wp2
              go_loop [7] (fun v7 => ∃ e : Nat, v7 = .int .i64 e ∧ i + 2 ≤ e ∧ e ≤ bs.length ∧ Aside0 (PartsInv w bs R (inLine bs i e) e K O u4 u5 wr)) (fun v7 => bs.length - (intOf v7).toNat)
              case atStart => exact ⟨i + 2, by go_num, Nat.le_refl _, by omega, HI1⟩
              case round =>
                obtain ⟨e, rfl, hie, he, HI2⟩ := hrel
                by_cases hlt3 : e < bs.length
                · obtain ⟨x, hx⟩ : ∃ x, rd bs (e : Int) = x := ⟨_, rfl⟩
                  have hrx := HI2.out.2.2.2.reads HR.out (fun ad e h => h)
                  have hcx := cell_zero hrx hlt3 hx
                  by_cases h10 : x = 10
                  · have hx1 : (x != 10) = false := by rw [h10]; rfl
                    have hx2 : ((e : Int) == (bs.length : Int)) = false := by rw [beq_eq_false_iff_ne]; omega
                    have HE2 := Aside0.mk (outs_line_end (K := K) (O := O) hie hlt3 (by rw [hx, h10]))
                    obtain ⟨i5, hi5, hz5⟩ := info5'
                    obtain ⟨A2, hcut0, hA2, hC2⟩ := print_mid_of (P := Try.prog) (Value.int .u8) 0 34 5 .i64 .i64 Try.underlying34 hi5 hz5 (some ad) cp bs ((i : Int) + 2) (e : Int) (by omega) (by omega) (by omega) hcp
                    have hrL := hA2 wr hrx
                    have ht1 : ((e : Int)).toNat = e := rfl
                    have ht2 : ((i : Int) + 2).toNat = i + 2 := by omega
                    rw [ht1, ht2] at hcut0 hrL
                    obtain ⟨L, hL⟩ : ∃ L, (bs.take e).drop (i + 2) = L := ⟨_, rfl⟩
                    have hLl : L.length = e - (i + 2) := by rw [← hL]; simp; omega
                    have hcut := hcut0 wr
                    rw [hL] at hcut hrL
                    have hcv := string_of_reads (P := Try.prog) (src := 34) (dst := 9) (c := cp - (i + 2)) Try.underlying34 Try.underlying5 Try.underlying9 hrL
                    have hHE := HE2.out
                    rw [hL] at hHE
                    have hss : (strOfNums L).size = e - (i + 2) := by rw [strOfNums_size, hLl]
                    generalize strOfNums L = str at hcv hHE hss
                    obtain ⟨st2, hst2, hhe⟩ : ∃ s2 : LexS, s2.st = 0 ∧ outs K O (inLine bs i e) (bs.drop e) = outs K (O ++ [if 80 < e - (i + 2) then ⟨#[]⟩ else str]) s2 (bs.drop (e + 1)) := ⟨_, rfl, hHE⟩
                    have HS2 := Aside0.mk hst2
                    clear hcut0 hHE hst2 HE2 h10 hL hLl hrL hA2 hC2 hrx hx ht1 ht2 hi5 hz5
                    by_cases h80 : 80 < e - (i + 2)
                    · rw [if_pos h80] at hhe
                      have HHE := Aside0.mk hhe
                      have h81 : 80 < str.size := by omega
                      clear hhe hss h80
                      go_wp2_with (first | ((with_reducible refine gate_builtin (b := .append) (xs := #[.tmp 79, .tmp 81]) rfl ?_); at_builtin; refine app_strs rfl (.tmp 79) (.tmp 81) 35 9 rfl Try.underlying35 info9 w.heap.size _ O [⟨#[]⟩] _ 1 1 rfl rfl ?aO ?aR ?aB ?aL ?_; (case aO => exact HI2.out.2.2.1.alloc _); (case aR => exact readsOf_one wr _ 9); (case aB => exact (by simp; omega)); (case aL => exact (by omega)); intro v1 w2 ho1 hf1 hat1; have HI3 := Aside0.mk (pinv_cmds (pinv_alloc HI2.out _) ho1 hf1 HHE.out); clear ho1 hf1 hat1))
                      go_roundw
                      case rel => exact ⟨e + 1, st2, K, O ++ [⟨#[]⟩], by go_num, by omega, by omega, by simp; omega, HS2, HI3⟩
                      case measure => simp [intOf]; omega
                    · rw [if_neg h80] at hhe
                      have HHE := Aside0.mk hhe
                      have h81 : str.size ≤ 80 := by omega
                      clear hhe hss h80
                      go_wp2_with (first | ((with_reducible refine gate_builtin (b := .append) (xs := #[.tmp 79, .tmp 81]) rfl ?_); at_builtin; refine app_strs rfl (.tmp 79) (.tmp 81) 35 9 rfl Try.underlying35 info9 w.heap.size _ O [str] _ 1 1 rfl rfl ?aO ?aR ?aB ?aL ?_; (case aO => exact HI2.out.2.2.1.alloc _); (case aR => exact readsOf_one wr _ 9); (case aB => exact (by simp; omega)); (case aL => exact (by omega)); intro v1 w2 ho1 hf1 hat1; have HI3 := Aside0.mk (pinv_cmds (pinv_alloc HI2.out _) ho1 hf1 HHE.out); clear ho1 hf1 hat1))
                      go_roundw
                      case rel => exact ⟨e + 1, st2, K, O ++ [str], by go_num, by omega, by omega, by simp; omega, HS2, HI3⟩
                      case measure => simp [intOf]; omega
                  · have hx1 : (x != 10) = true := bne_iff_ne.2 h10
                    have HE2 := Aside0.mk (pinv_step HI2.out (outs_line (K := K) (O := O) hie hlt3 hx h10))
                    clear h10 hrx hx
                    go_wp2
                    go_round
                    case rel => exact ⟨e + 1, by go_num, by omega, by omega, HE2⟩
                    case measure => simp [intOf]; omega
                · have he2 : e = bs.length := by omega
                  have hx2 : ((e : Int) == (bs.length : Int)) = true := by rw [he2]; exact beq_iff_eq.2 rfl
                  have HD := Aside0.mk (pinv_done HI2.out (outs_end _ _ _ _ _ he2))
                  clear he2
                  go_wp2
                  go_ret2
                  exact ⟨_, _, rfl, HD.out⟩
            · have hd1 : (d == 29) = false := beq_eq_false_iff_ne.2 h2
              have hd2 : (d != 58) = true := bne_iff_ne.2 h58
              have HE := Aside0.mk (pinv_step HI.out (outs_esc_other (K := K) (O := O) hlt2 HC29.out HS.out HDc.out h2 h58))
              clear h2 h58
              go_wp2
              go_roundw
              case rel => exact ⟨i + 2, s, K, O, by go_num, by omega, by omega, by omega, HS, HE⟩
              case measure => simp [intOf]; omega
      · have hc1 : (c != 29) = true := bne_iff_ne.2 h29
        have HE := Aside0.mk (outs_plain (K := K) (O := O) hlt HC.out HS.out h29)
        clear h29
        go_wp2_with (first | ((with_reducible refine gate_builtin (b := .append) (xs := #[.tmp 20, .tmp 25]) rfl ?_); at_builtin; refine app_nums rfl (.tmp 20) (.tmp 25) 34 5 .u8 1 rfl Try.underlying34 info5 (by decide) w.heap.size _ K [c] _ 1 1 rfl rfl ?aO ?aR ?aB ?aL ?_; (case aO => exact HI.out.2.1.alloc _); (case aR => exact reads_one wr .u8 c 5); (case aB => exact (by simp; omega)); (case aL => exact (by omega)); intro v1 w1 ho1 hf1 hat1; have HI1 := Aside0.mk (pinv_keys (pinv_alloc HI.out _) ho1 hf1 HE.out); clear ho1 hf1 hat1))
        go_roundw
        case rel => exact ⟨i + 1, s, K ++ [c], O, by go_num, hlt, by simp; omega, by omega, HS, HI1⟩
        case measure => simp [intOf]; omega
    · have hk' : i = bs.length := by omega
      have HD := Aside0.mk (pinv_done HI.out (outs_end _ _ _ _ _ hk'))
      clear hk'
      go_wp2
      go_ret2
      exact ⟨_, _, rfl, HD.out⟩

theorem parts_to {s1 : LexS} {k1 : List Int} {o1 : List ByteArray} (bs : List Int) (hE : lexAll lex0 bs = (s1, k1, o1)) (A : Option Addr) (cp : Nat) (w : World) (hr : ReadsInt w .u8 A bs.length bs) (hcp : bs.length ≤ cp) (hn : bs.length ≤ 100000) :
    Calls Try.prog 16 #[.slice A bs.length cp] w fun e w' => ∃ kv ov, e = .returned (.tuple #[kv, ov]) ∧
      w'.ownsRow w.heap.size 5 1 kv k1.length (nums .u8 k1) ∧ w'.ownsRow w.heap.size 9 1 ov o1.length (encs Value.string o1) ∧ Fr nope w w' := by
  have h := parts_calls bs A cp w hr hcp hn
  rw [hE] at h
  exact h
end Go.Proofs.Ytajhahgaeihfaaa.LexW

/- What Put of spot does: byte after byte. -/
import Derived.Test.YtfkamoiamebngaaGreatDoorM11
import Derived.Test.YtfkamoiamebngaaGreatDoorProg
import Derived.Test.YtfkamoiamebngaaGreatDoorM02
import Derived.Test.YtfkamoiamebngaaGreatDoorM04
import Derived.WalkKit
import Derived.KernelRfl
import Derived.RowKit3
import Derived.Outline
import Derived.Deep.DeepMust
import Derived.BigQuiet
import Derived.Deep.QuietTactic
import Derived.Test.YtfkamoiamebngaaGreatDoorM09
import Derived.Test.YtfkamoiamebngaaGreatDoorM10
import Derived.Shelf.SlIterI.Nil
import Derived.Shelf.SlIterI.Sorted
import Derived.Ground.GgzProg
namespace Go.Proofs.YtfkamoiamebngaaGreatDoor.SpotW
open Go.RowKit Go.Proofs.YtfkamoiamebngaaGreatDoorW.PrintWords Go.Proofs.YtfkamoiamebngaaGreatDoorW.PrintMore Go.Proofs.YtfkamoiamebngaaGreatDoor.Fr Go.Proofs.YtfkamoiamebngaaGreatDoor.SpotP Go.Proofs.YtfkamoiamebngaaGreatDoor.Flt
set_option linter.unusedVariables false
set_option linter.unusedSimpArgs false
attribute [local go_sem] run_store_float run_store_complex

theorem st_three {s : Sp} (h : SpGood s) : s.st = 0 ∨ s.st = 1 ∨ s.st = 2 := by have := h.2.2; omega

theorem put_calls (s0 : Sp) (bs : List Int) (A : Option Addr) (cp g : Nat) (w : World) (hS : IsSpot w g s0) (hg : SpGood s0) (hrow : s0.r + bs.length ≤ 8200)
    (hr : ReadsInt w .u8 A bs.length bs) (hA : 0 < bs.length → ∀ ad, A = some ad → ad.block ≠ g) :
    Calls Tryz.prog 65 #[.pointer (some ⟨g, 0, none⟩), .slice A bs.length cp] w fun e w' => e = .returned (.tuple #[]) ∧ IsSpot w' g (allS s0 bs) ∧ Fr (only g) w w' := by
  have hlen : bs.length ≤ 8200 := by omega
  have hlen1 : (bs.length : Int) ≤ 8200 := by omega
  have i0 : ∀ w, (Instr.index 162 (.agg #[.int .i64 3, .int .i64 1, .int .i64 0, .int .i64 2]) (.int .u8 0)).run Tryz.prog w = .ok (.int .i64 3) w := fun _ => by kernel_rfl
  have i1 : ∀ w, (Instr.index 162 (.agg #[.int .i64 3, .int .i64 1, .int .i64 0, .int .i64 2]) (.int .u8 1)).run Tryz.prog w = .ok (.int .i64 1) w := fun _ => by kernel_rfl
  have i2 : ∀ w, (Instr.index 162 (.agg #[.int .i64 3, .int .i64 1, .int .i64 0, .int .i64 2]) (.int .u8 2)).run Tryz.prog w = .ok (.int .i64 0) w := fun _ => by kernel_rfl
  have i3 : ∀ w, (Instr.index 162 (.agg #[.int .i64 3, .int .i64 1, .int .i64 0, .int .i64 2]) (.int .u8 3)).run Tryz.prog w = .ok (.int .i64 2) w := fun _ => by kernel_rfl
  have HS := Aside0.mk hS
  have HG := Aside0.mk hg
  have HROW := Aside0.mk hrow
  have HR := Aside0.mk hr
  have HA := Aside0.mk hA
  clear hS hg hrow hr hA
  go_enter Tryz.func65, Tryz.ntmps65
  go_wp2
  go_loopw [8] (fun v8 wr => ∃ (k : Nat) (s : Sp), v8 = .int .i64 k ∧ k ≤ bs.length ∧ Aside0 (allS s0 (bs.take k) = s) ∧ Aside0 (IsSpot wr g s) ∧ Aside0 (Fr (only g) w wr)) (fun i _ => bs.length - (intOf i).toNat)
  case atStart => exact ⟨0, s0, rfl, Nat.zero_le _, ⟨rfl⟩, HS, ⟨Fr.refl _ _⟩⟩
  case round =>
    obtain ⟨k, s, rfl, hk, HE, HI, HF⟩ := hrel
    clear HS
    by_cases hlt : k < bs.length
    · have hrd := HF.out.reads HR.out (fun ad e h => HA.out (by omega) ad e h)
      obtain ⟨ad, hAe, hcells⟩ := hrd.2.2 (by omega)
      obtain rfl := hAe
      obtain ⟨c, hc⟩ : ∃ c, bs.getD k 0 = c := ⟨_, rfl⟩
      have hcell := hcells k hlt
      rw [hc] at hcell
      have HN : Aside0 (allS s0 (bs.take (k + 1)) = byteS s c) := ⟨by rw [allS_take bs s0 k hlt, HE.out, hc]⟩
      have hgs : SpGood s := by rw [← HE.out]; exact good_all _ _ HG.out
      have hrs : s.r < 8200 := by
        have h1 := row_all (bs.take k) s0
        rw [HE.out, List.length_take] at h1
        have := HROW.out
        omega
      have HG0 : Aside0 (SpGood { s with st := 0 }) := ⟨⟨hgs.1, hgs.2.1, Nat.zero_le _⟩⟩
      have HG1 := Aside0.mk hgs
      have HR1 := Aside0.mk hrs
      have h3 := st_three hgs
      have c2 : wr.cell? ⟨g, 2, none⟩ = some (.int .i64 s.st) := (blk_cell HI.out 2).trans rfl
      have f2 : wr.frozen? ⟨g, 2, none⟩ = false := blk_frozen HI.out 2
      clear hrd hcells hc hgs hrs
      rcases h3 with h2 | h2 | h2
      · have HE := Aside0.mk (show byteS s c = oneS s c by simp [byteS, h2])
        have t0 : ((s.st : Int) == 0) = true := by rw [h2]; rfl
        clear h2
        go_wp2_with (first | (go_at_call 85; refine (one_calls g c s _ HG1.out HR1.out HI.out).mono ?_; rintro e w1 ⟨rfl, hs1, hf1⟩; have HS1 := Aside0.mk hs1; have HF1 := Aside0.mk hf1; clear hs1 hf1))
        go_roundw
        case rel => exact ⟨k + 1, _, by go_num, hlt, HN, ⟨by rw [HE.out]; exact HS1.out⟩, ⟨HF.out.trans HF1.out (fun _ _ h => h)⟩⟩
        case measure => simp [intOf]; omega
      · rw [h2] at c2
        by_cases h91 : c = 91
        · subst h91
          have HE := Aside0.mk (show byteS s 91 = { s with st := 2 } by simp [byteS, h2])
          clear h2
          go_wp2
          go_roundw
          case rel => exact ⟨k + 1, _, by go_num, hlt, HN, ⟨by rw [HE.out]; exact spot_st (spot_st HI.out 0) 2⟩, ⟨(HF.out.set (fun _ => only_self g) 2 _).set (fun _ => only_self g) 2 _⟩⟩
          case measure => simp [intOf]; omega
        · have t91 : (c == 91) = false := beq_eq_false_iff_ne.2 h91
          have HE := Aside0.mk (show byteS s c = { s with st := 0 } by simp [byteS, h2, h91])
          clear h2 h91
          go_wp2
          go_roundw
          case rel => exact ⟨k + 1, _, by go_num, hlt, HN, ⟨by rw [HE.out]; exact spot_st HI.out 0⟩, ⟨HF.out.set (fun _ => only_self g) 2 _⟩⟩
          case measure => simp [intOf]; omega
      · rw [h2] at c2
        by_cases h65 : c = 65
        · subst h65
          have HE := Aside0.mk (show byteS s 65 = mvS { s with st := 0 } 3 by simp [byteS, moveS, mvS, h2])
          clear h2
          go_wp2_with (first | (go_at_call 87; refine (turns_calls 3 (by decide) _).mono ?_; rintro e w1 ⟨rfl, rfl⟩) | (go_at_call 86; refine (move_calls g 3 { s with st := 0 } _ (by decide) HG0.out HR1.out (spot_st HI.out 0)).mono ?_; rintro e w1 ⟨rfl, hs1, hf1⟩; have HS1 := Aside0.mk hs1; have HF1 := Aside0.mk hf1; clear hs1 hf1))
          go_roundw
          case rel => exact ⟨k + 1, _, by go_num, hlt, HN, ⟨by rw [HE.out]; exact HS1.out⟩, ⟨(HF.out.set (fun _ => only_self g) 2 _).trans HF1.out (fun _ _ h => h)⟩⟩
          case measure => simp [intOf]; omega
        have t65 : (c == 65) = false := beq_eq_false_iff_ne.2 h65
        by_cases h66 : c = 66
        · subst h66
          have HE := Aside0.mk (show byteS s 66 = mvS { s with st := 0 } 1 by simp [byteS, moveS, mvS, h2])
          clear h2 t65
          go_wp2_with (first | (go_at_call 87; refine (turns_calls 1 (by decide) _).mono ?_; rintro e w1 ⟨rfl, rfl⟩) | (go_at_call 86; refine (move_calls g 1 { s with st := 0 } _ (by decide) HG0.out HR1.out (spot_st HI.out 0)).mono ?_; rintro e w1 ⟨rfl, hs1, hf1⟩; have HS1 := Aside0.mk hs1; have HF1 := Aside0.mk hf1; clear hs1 hf1))
          go_roundw
          case rel => exact ⟨k + 1, _, by go_num, hlt, HN, ⟨by rw [HE.out]; exact HS1.out⟩, ⟨(HF.out.set (fun _ => only_self g) 2 _).trans HF1.out (fun _ _ h => h)⟩⟩
          case measure => simp [intOf]; omega
        have t66 : (c == 66) = false := beq_eq_false_iff_ne.2 h66
        by_cases h67 : c = 67
        · subst h67
          have HE := Aside0.mk (show byteS s 67 = mvS { s with st := 0 } 0 by simp [byteS, moveS, mvS, h2])
          clear h2 t65 t66
          go_wp2_with (first | (go_at_call 87; refine (turns_calls 0 (by decide) _).mono ?_; rintro e w1 ⟨rfl, rfl⟩) | (go_at_call 86; refine (move_calls g 0 { s with st := 0 } _ (by decide) HG0.out HR1.out (spot_st HI.out 0)).mono ?_; rintro e w1 ⟨rfl, hs1, hf1⟩; have HS1 := Aside0.mk hs1; have HF1 := Aside0.mk hf1; clear hs1 hf1))
          go_roundw
          case rel => exact ⟨k + 1, _, by go_num, hlt, HN, ⟨by rw [HE.out]; exact HS1.out⟩, ⟨(HF.out.set (fun _ => only_self g) 2 _).trans HF1.out (fun _ _ h => h)⟩⟩
          case measure => simp [intOf]; omega
        have t67 : (c == 67) = false := beq_eq_false_iff_ne.2 h67
        by_cases h68 : c = 68
        · subst h68
          have HE := Aside0.mk (show byteS s 68 = mvS { s with st := 0 } 2 by simp [byteS, moveS, mvS, h2])
          clear h2 t65 t66 t67
          go_wp2_with (first | (go_at_call 87; refine (turns_calls 2 (by decide) _).mono ?_; rintro e w1 ⟨rfl, rfl⟩) | (go_at_call 86; refine (move_calls g 2 { s with st := 0 } _ (by decide) HG0.out HR1.out (spot_st HI.out 0)).mono ?_; rintro e w1 ⟨rfl, hs1, hf1⟩; have HS1 := Aside0.mk hs1; have HF1 := Aside0.mk hf1; clear hs1 hf1))
          go_roundw
          case rel => exact ⟨k + 1, _, by go_num, hlt, HN, ⟨by rw [HE.out]; exact HS1.out⟩, ⟨(HF.out.set (fun _ => only_self g) 2 _).trans HF1.out (fun _ _ h => h)⟩⟩
          case measure => simp [intOf]; omega
        have t68 : (c == 68) = false := beq_eq_false_iff_ne.2 h68
        have HE := Aside0.mk (show byteS s c = { s with st := 0 } by simp [byteS, moveS, h2, h65, h66, h67, h68])
        clear h2 h65 h66 h67 h68
        go_wp2
        go_roundw
        case rel => exact ⟨k + 1, _, by go_num, hlt, HN, ⟨by rw [HE.out]; exact spot_st HI.out 0⟩, ⟨HF.out.set (fun _ => only_self g) 2 _⟩⟩
        case measure => simp [intOf]; omega
    · have hk' : k = bs.length := by omega
      go_wp2
      go_end0
      have h1 := HE.out
      rw [hk', List.take_length] at h1
      rw [h1]
      exact ⟨rfl, HI.out, HF.out⟩

end Go.Proofs.YtfkamoiamebngaaGreatDoor.SpotW

/- What the lexer's functions do to memory, told by the lexer as a function on lists. -/
namespace Go.Proofs.YtfkamoiamebngaaGreatDoor.LexW
open Go.RowKit Go.Proofs.YtfkamoiamebngaaGreatDoorW.PrintWords Go.Proofs.YtfkamoiamebngaaGreatDoorW.PrintMore Go.Proofs.YtfkamoiamebngaaGreatDoor.Fr Go.Proofs.YtfkamoiamebngaaGreatDoor.LexP
set_option linter.unusedVariables false
set_option linter.unusedSimpArgs false

theorem info5 : (Tryz.prog.info? 5).map (fun i => (i.zero, i.size, i.bytes)) = some (some (.int .u8 0), 1, 1) := by kernel_rfl
theorem info9 : (Tryz.prog.info? 9).map (fun i => (i.zero, i.size, i.bytes)) = some (some (.string ⟨#[]⟩), 1, 16) := by kernel_rfl

/-- A lexer at block g: its state, and its text in a row of its own from block b0 on. -/
def IsLex (W : World) (b0 g : Nat) (s : LexS) (tv : Value) : Prop :=
  W.heap[g]? = some (.cells #[.int .i64 s.st, tv, .bool s.long] 149 (0, 0)) ∧ W.ownsRow b0 5 1 tv s.text.length (nums .u8 s.text)
/-- A slice of bytes that can be read, none of whose memory lay before. -/
def FreshBytes (w W : World) (v : Value) (xs : List Int) : Prop :=
  ∃ A c, v = .slice A xs.length c ∧ xs.length ≤ c ∧ ReadsInt W .u8 A xs.length xs ∧ ∀ ad, A = some ad → w.heap.size ≤ ad.block

theorem fresh_nil (w W : World) : FreshBytes w W (.slice none 0 0) [] := ⟨none, 0, rfl, Nat.le_refl _, reads_nil W .u8 none, fun _ h => by cases h⟩

theorem new_calls (b0 : Nat) (w : World) :
    Calls Tryz.prog 55 #[] w fun e w' => e = .returned (.pointer (some ⟨w.heap.size, 0, none⟩)) ∧ IsLex w' b0 w.heap.size lex0 (.slice none 0 0) ∧ Below w.heap.size w w' := by
  go_enter Tryz.func55, Tryz.ntmps55
  go_wp2
  go_ret
  exact ⟨rfl, ⟨heap_alloc_new w _, own_nil _ _ _ _⟩, below_alloc (Below.refl _ _) _⟩

theorem begin_calls (s : LexS) (c : Int) (g : Nat) (tv : Value) (b0 : Nat) (w : World) (hL : IsLex w b0 g s tv) (hne : tv.ownBlock ≠ some g) (hs : s.st = 1) :
    Calls Tryz.prog 135 #[.pointer (some ⟨g, 0, none⟩), .int .u8 c] w fun e w' => ∃ tv' kv, e = .returned kv ∧ IsLex w' b0 g (lexStep s c).1 tv' ∧ FreshBytes w w' kv (lexStep s c).2.1 ∧ (lexStep s c).2.2 = [] ∧ (tv' = tv ∨ tv' = .slice none 0 0) ∧ Fr (only g) w w' := by
  obtain ⟨hb, ho⟩ := hL
  have HB := Aside0.mk hb
  have HO := Aside0.mk ho
  have c0 : w.cell? ⟨g, 0, none⟩ = some (.int .i64 s.st) := (blk_cell hb 0).trans rfl
  have c1 : w.cell? ⟨g, 1, none⟩ = some tv := (blk_cell hb 1).trans rfl
  have c2 : w.cell? ⟨g, 2, none⟩ = some (.bool s.long) := (blk_cell hb 2).trans rfl
  have f0 : w.frozen? ⟨g, 0, none⟩ = false := blk_frozen hb 0
  have f1 : w.frozen? ⟨g, 1, none⟩ = false := blk_frozen hb 1
  have f2 : w.frozen? ⟨g, 2, none⟩ = false := blk_frozen hb 2
  clear hb ho
  by_cases h29 : c = 29
  · subst h29
    have hst : lexStep s 29 = (⟨0, s.text, s.long⟩, [29], []) := by simp [lexStep, hs]
    have HST := Aside0.mk hst
    have HS := Aside0.mk hs
    have HNE := Aside0.mk hne
    clear hst hs hne
    go_enter Tryz.func135, Tryz.ntmps135
    go_wp2
    go_ret
    have hF : Fr (only g) w ((w.setCell ⟨g, 0, none⟩ (.int .i64 0)).alloc (.cells #[.int .u8 29] 5)) := ((Fr.refl (only g) w).set (fun _ => only_self g) 0 _).alloc _
    rw [HST.out]
    refine ⟨tv, _, rfl, ⟨blk_alloc (by simpa using blk_set HB.out 0 (.int .i64 0)) _, hF.own HO.out (fun b hb e => HNE.out (by rw [hb, e]))⟩, ⟨_, 1, rfl, by simp, ?_, ?_⟩, rfl, .inl rfl, hF⟩
    · have := reads_one (w.setCell ⟨g, 0, none⟩ (.int .i64 0)) .u8 29 5
      rw [size_set] at this
      exact this
    · intro ad h
      cases h
      exact Nat.le_refl _
  · have hc1 : (c == 29) = false := beq_eq_false_iff_ne.2 h29
    by_cases h58 : c = 58
    · subst h58
      have HST := Aside0.mk (show lexStep s 58 = (⟨2, [], false⟩, [], []) by simp [lexStep, hs])
      have HNE := Aside0.mk hne
      clear hs hne
      go_enter Tryz.func135, Tryz.ntmps135
      go_wp2
      go_ret
      rw [HST.out]
      have h1 := blk_set HB.out 0 (.int .i64 0)
      have h2 := blk_set h1 0 (.int .i64 2)
      have h3 := blk_set h2 1 (.slice none 0 0)
      have h4 := blk_set h3 2 (.bool false)
      exact ⟨.slice none 0 0, _, rfl, ⟨by simpa using h4, own_nil _ _ _ _⟩, fresh_nil _ _, rfl, .inr rfl, (((((Fr.refl (only g) w).set (fun _ => only_self g) 0 _).set (fun _ => only_self g) 0 _).set (fun _ => only_self g) 1 _).set (fun _ => only_self g) 2 _)⟩
    · have hc2 : (c == 58) = false := beq_eq_false_iff_ne.2 h58
      have HST := Aside0.mk (show lexStep s c = (⟨0, s.text, s.long⟩, [], []) by simp [lexStep, hs, h29, h58])
      have HNE := Aside0.mk hne
      clear hs hne h29 h58
      go_enter Tryz.func135, Tryz.ntmps135
      go_wp2
      go_ret
      rw [HST.out]
      have hF : Fr (only g) w (w.setCell ⟨g, 0, none⟩ (.int .i64 0)) := (Fr.refl (only g) w).set (fun _ => only_self g) 0 _
      exact ⟨tv, _, rfl, ⟨by simpa using blk_set HB.out 0 (.int .i64 0), hF.own HO.out (fun b hb e => HNE.out (by rw [hb, e]))⟩, fresh_nil _ _, rfl, .inl rfl, hF⟩

theorem more_nl (T : List Int) (lg : Bool) (g : Nat) (tv : Value) (b0 : Nat) (w : World) (hL : IsLex w b0 g ⟨2, T, lg⟩ tv) (hne : tv.ownBlock ≠ some g) :
    Calls Tryz.prog 136 #[.pointer (some ⟨g, 0, none⟩), .int .u8 10] w fun e w' => ∃ str, e = .returned (.tuple #[.string str, .bool true]) ∧ IsLex w' b0 g (lexStep ⟨2, T, lg⟩ 10).1 tv ∧ (lexStep ⟨2, T, lg⟩ 10).2.1 = [] ∧ (lexStep ⟨2, T, lg⟩ 10).2.2 = [str] ∧ Fr (only g) w w' := by
  obtain ⟨hb, ho⟩ := hL
  dsimp only at hb ho
  obtain ⟨A, cp, rfl⟩ := own_slice ho
  have c1 : w.cell? ⟨g, 1, none⟩ = some (.slice A T.length cp) := (blk_cell hb 1).trans rfl
  have f0 : w.frozen? ⟨g, 0, none⟩ = false := blk_frozen hb 0
  have c0 : w.cell? ⟨g, 0, none⟩ = some (.int .i64 2) := (blk_cell hb 0).trans rfl
  have hF : Fr (only g) w (w.setCell ⟨g, 0, none⟩ (.int .i64 0)) := (Fr.refl (only g) w).set (fun _ => only_self g) 0 _
  have hO1 := hF.own ho (fun b hb e => hne (by rw [hb, e]))
  have hB1 := blk_set hb 0 (.int .i64 0)
  have HF := Aside0.mk hF
  have HO1 := Aside0.mk hO1
  have HB1 := Aside0.mk hB1
  have c2 : w.cell? ⟨g, 2, none⟩ = some (.bool lg) := (blk_cell hb 2).trans rfl
  have hcv := own_string (P := Tryz.prog) (src := 29) (dst := 9) Tryz.underlying29 Tryz.underlying5 Tryz.underlying9 hO1
  clear hb ho hne hF hO1 hB1
  cases lg with
  | true =>
    have HST := Aside0.mk (show lexStep ⟨2, T, true⟩ 10 = (⟨0, T, true⟩, [], [⟨#[]⟩]) by simp [lexStep])
    go_enter Tryz.func136, Tryz.ntmps136
    go_wp2
    go_ret2
    rw [HST.out]
    exact ⟨_, rfl, ⟨by simpa using HB1.out, HO1.out⟩, rfl, rfl, HF.out⟩
  | false =>
    have HST := Aside0.mk (show lexStep ⟨2, T, false⟩ 10 = (⟨0, T, false⟩, [], [strOfNums T]) by simp [lexStep])
    go_enter Tryz.func136, Tryz.ntmps136
    go_wp2
    go_ret2
    rw [HST.out]
    exact ⟨_, rfl, ⟨by simpa using HB1.out, HO1.out⟩, rfl, rfl, HF.out⟩

theorem more_c (T : List Int) (lg : Bool) (c : Int) (g : Nat) (tv : Value) (b0 : Nat) (w : World) (hb0 : b0 ≤ w.heap.size) (hL : IsLex w b0 g ⟨2, T, lg⟩ tv) (hne : tv.ownBlock ≠ some g) (h10 : c ≠ 10) (hT : T.length ≤ 80) :
    Calls Tryz.prog 136 #[.pointer (some ⟨g, 0, none⟩), .int .u8 c] w fun e w' => ∃ tv', e = .returned (.tuple #[.string ⟨#[]⟩, .bool false]) ∧ IsLex w' b0 g (lexStep ⟨2, T, lg⟩ c).1 tv' ∧ (lexStep ⟨2, T, lg⟩ c).2.1 = [] ∧ (lexStep ⟨2, T, lg⟩ c).2.2 = [] ∧ (tv'.ownBlock = tv.ownBlock ∨ ∃ b, tv'.ownBlock = some b ∧ w.heap.size ≤ b) ∧ Fr (fun i => i = g ∨ tv.ownBlock = some i) w w' := by
  obtain ⟨hb, ho⟩ := hL
  dsimp only at hb ho
  obtain ⟨A, cp, rfl⟩ := own_slice ho
  have HB := Aside0.mk hb
  have HO := Aside0.mk ho
  have HNE := Aside0.mk hne
  have c1 : w.cell? ⟨g, 1, none⟩ = some (.slice A T.length cp) := (blk_cell hb 1).trans rfl
  have c2 : w.cell? ⟨g, 2, none⟩ = some (.bool lg) := (blk_cell hb 2).trans rfl
  have f1 : w.frozen? ⟨g, 1, none⟩ = false := blk_frozen hb 1
  have f2 : w.frozen? ⟨g, 2, none⟩ = false := blk_frozen hb 2
  have hc1 : (c != 10) = true := bne_iff_ne.2 h10
  clear hb ho hne
  cases lg with
  | true =>
    have HST := Aside0.mk (show lexStep ⟨2, T, true⟩ c = (⟨2, T, true⟩, [], []) by simp [lexStep, h10])
    clear h10
    go_enter Tryz.func136, Tryz.ntmps136
    go_wp2
    go_ret2
    rw [HST.out]
    have hF : Fr (fun i => i = g ∨ (Value.slice A T.length cp).ownBlock = some i) w (w.setCell ⟨g, 2, none⟩ (.bool true)) := (Fr.refl _ w).set (fun _ => Or.inl rfl) 2 _
    have hF2 : Fr (only g) w (w.setCell ⟨g, 2, none⟩ (.bool true)) := (Fr.refl (only g) w).set (fun _ => only_self g) 2 _
    exact ⟨_, rfl, ⟨by simpa using blk_set HB.out 2 (.bool true), hF2.own HO.out (fun b hb e => HNE.out (by rw [hb, e]))⟩, rfl, rfl, .inl rfl, hF⟩
  | false =>
    by_cases h80 : T.length = 80
    · have HST := Aside0.mk (show lexStep ⟨2, T, false⟩ c = (⟨2, T, true⟩, [], []) by simp [lexStep, h10, h80])
      have h80b : ((T.length : Int) == 80) = true := by rw [h80]; rfl
      clear h10 h80
      go_enter Tryz.func136, Tryz.ntmps136
      go_wp2
      go_ret2
      rw [HST.out]
      have hF : Fr (fun i => i = g ∨ (Value.slice A T.length cp).ownBlock = some i) w (w.setCell ⟨g, 2, none⟩ (.bool true)) := (Fr.refl _ w).set (fun _ => Or.inl rfl) 2 _
      have hF2 : Fr (only g) w (w.setCell ⟨g, 2, none⟩ (.bool true)) := (Fr.refl (only g) w).set (fun _ => only_self g) 2 _
      exact ⟨_, rfl, ⟨by simpa using blk_set HB.out 2 (.bool true), hF2.own HO.out (fun b hb e => HNE.out (by rw [hb, e]))⟩, rfl, rfl, .inl rfl, hF⟩
    · have HST := Aside0.mk (show lexStep ⟨2, T, false⟩ c = (⟨2, T ++ [c], false⟩, [], []) by simp [lexStep, h10, h80])
      have h80b : ((T.length : Int) == 80) = false := by rw [beq_eq_false_iff_ne]; omega
      clear h10 h80
      have hF2 : Fr (only g) w (w.setCell ⟨g, 2, none⟩ (.bool false)) := (Fr.refl (only g) w).set (fun _ => only_self g) 2 _
      have hO2 := hF2.own HO.out (fun b hb e => HNE.out (by rw [hb, e]))
      have HO2 := Aside0.mk hO2
      have HB2 : Aside0 ((w.setCell ⟨g, 2, none⟩ (.bool false)).heap[g]? = some (.cells #[.int .i64 2, .slice A T.length cp, .bool false] 149 (0, 0))) := ⟨by simpa using blk_set HB.out 2 (.bool false)⟩
      have HF2 := Aside0.mk hF2
      clear hF2 hO2
      go_enter Tryz.func136, Tryz.ntmps136
      go_wp2_with (first | ((with_reducible refine gate_builtin (b := .append) (xs := #[.tmp 32, .tmp 34]) rfl ?_); at_builtin; go_must (refine app_nums rfl (.tmp 32) (.tmp 34) 29 5 .u8 1 rfl Tryz.underlying29 info5 (by decide) b0 _ T [c] _ 1 1 rfl rfl ?aO ?aR ?aB ?aL ?_); (case aO => exact HO2.out.alloc _); (case aR => exact (by have := reads_one (w.setCell ⟨g, 2, none⟩ (.bool false)) .u8 c 5; rw [size_set] at this; exact this)); (case aB => exact (by simp [World.setCell]; omega)); (case aL => exact (by omega)); intro v1 w1 ho1 hf1 hat1; obtain ⟨A1, cp1, rfl⟩ := own_slice ho1; have hb3 := hf1.blk (blk_alloc HB2.out _) HNE.out; have c3 : w1.cell? ⟨g, 1, none⟩ = some (.slice A T.length cp) := (blk_cell hb3 1).trans rfl; have f3 : w1.frozen? ⟨g, 1, none⟩ = false := blk_frozen hb3 1; have HB3 := Aside0.mk hb3; have HO3 := Aside0.mk ho1; have HF3 := Aside0.mk hf1; have HAT := Aside0.mk hat1; clear hb3 ho1 hf1 hat1))
      go_ret2
      rw [HST.out]
      have hlt := blk_lt HB.out
      have hne1 : (Value.slice A1 (T ++ [c]).length cp1).ownBlock ≠ some g := by
        rcases HAT.out with h | ⟨b, h, hb⟩
        · rw [h]; exact HNE.out
        · rw [h]
          intro e
          simp only [Option.some.injEq] at e
          simp [World.setCell] at hb
          omega
      refine ⟨.slice A1 (T ++ [c]).length cp1, rfl, ⟨by simpa using blk_set HB3.out 1 (.slice A1 (T ++ [c]).length cp1), own_setCell HO3.out (fun e => hne1 e.symm) _⟩, rfl, rfl, ?_, ?_⟩
      · rcases HAT.out with h | ⟨b, h, hb⟩
        · exact .inl h
        · exact .inr ⟨b, h, by simp [World.setCell] at hb; omega⟩
      · refine Fr.set (g := g) (Fr.trans (Fr.alloc (Fr.set (g := g) (Fr.refl _ w) (fun _ => .inl rfl) 2 _) _) HF3.out (fun i _ h => .inr h)) (fun _ => .inl rfl) 1 _

/-- What a push leaves: the lexer, keystrokes and commands in rows of its own. -/
def PushInv (w : World) (b0 g : Nat) (tv : Value) (s : LexS) (K : List Int) (O : List ByteArray) (kv ov tvk : Value) (wr : World) : Prop :=
  IsLex wr b0 g s tvk ∧ tvk.ownBlock ≠ some g ∧ wr.ownsRow w.heap.size 5 1 kv K.length (nums .u8 K) ∧ wr.ownsRow w.heap.size 9 1 ov O.length (encs Value.string O) ∧
  (tvk.ownBlock = tv.ownBlock ∨ tvk.ownBlock = none ∨ ∃ b, tvk.ownBlock = some b ∧ w.heap.size ≤ b) ∧ NeRow kv tvk ∧ Fr (fun i => i = g ∨ tv.ownBlock = some i) w wr

theorem inv_start {w : World} {b0 g : Nat} {tv : Value} {s : LexS} (hL : IsLex w b0 g s tv) (hne : tv.ownBlock ≠ some g) : PushInv w b0 g tv s [] [] (.slice none 0 0) (.slice none 0 0) tv w :=
  ⟨hL, hne, own_nil _ _ _ _, own_nil _ _ _ _, .inl rfl, ne_nil _, Fr.refl _ _⟩

/-- the lexer's own block and text turn; keystrokes and commands stay -/
theorem inv_lex {w wr w1 : World} {b0 g : Nat} {tv tvk tv1 : Value} {s s1 : LexS} {K : List Int} {O : List ByteArray} {kv ov : Value} (h : PushInv w b0 g tv s K O kv ov tvk wr) (hg : g < w.heap.size)
    (hL : IsLex w1 b0 g s1 tv1) (h1 : tv1.ownBlock = tvk.ownBlock ∨ tv1.ownBlock = none ∨ ∃ b, tv1.ownBlock = some b ∧ wr.heap.size ≤ b) (hF : Fr (fun i => i = g ∨ tvk.ownBlock = some i) wr w1) :
    PushInv w b0 g tv s1 K O kv ov tv1 w1 := by
  obtain ⟨hl, hn, hk, ho, ht, hne, hf⟩ := h
  have hkg : some g ≠ kv.ownBlock := own_ne hk hl.1 (by decide)
  have hog : some g ≠ ov.ownBlock := own_ne ho hl.1 (by decide)
  have hot : NeRow ov tvk := ne_types ho hl.2 (by decide)
  refine ⟨hL, ?_, ?_, ?_, ?_, ?_, ?_⟩
  · rcases h1 with h1 | h1 | ⟨b, h1, hb⟩
    · rw [h1]; exact hn
    · rw [h1]; exact fun e => by cases e
    · rw [h1]
      intro e
      simp only [Option.some.injEq] at e
      have := hf.size
      omega
  · refine hF.own hk fun b hb hs => ?_
    rcases hs with rfl | hs
    · exact hkg hb.symm
    · exact hne b hb hs
  · refine hF.own ho fun b hb hs => ?_
    rcases hs with rfl | hs
    · exact hog hb.symm
    · exact hot b hb hs
  · rcases h1 with h1 | h1 | ⟨b, h1, hb⟩
    · rw [h1]; exact ht
    · exact .inr (.inl h1)
    · exact .inr (.inr ⟨b, h1, Nat.le_trans hf.size hb⟩)
  · intro b hb hs
    rcases h1 with h1 | h1 | ⟨b1, h1, hb1⟩
    · rw [h1] at hs; exact hne b hb hs
    · rw [h1] at hs; cases hs
    · rw [h1] at hs
      simp only [Option.some.injEq] at hs
      have := own_lt hk b hb
      omega
  · refine hf.trans hF fun i hi hs => ?_
    rcases hs with rfl | hs
    · exact .inl rfl
    · rcases ht with ht | ht | ⟨b, ht, hb⟩
      · exact .inr (by rw [← ht]; exact hs)
      · rw [ht] at hs; cases hs
      · rw [ht] at hs
        simp only [Option.some.injEq] at hs
        omega

/-- keystrokes are appended; the lexer and the commands stay -/
theorem inv_keys {w wr w1 : World} {b0 g : Nat} {tv tvk : Value} {s : LexS} {K K1 : List Int} {O : List ByteArray} {kv kv1 ov : Value} (h : PushInv w b0 g tv s K O kv ov tvk wr)
    (hk1 : w1.ownsRow w.heap.size 5 1 kv1 K1.length (nums .u8 K1)) (h1 : kv1.ownBlock = kv.ownBlock ∨ ∃ b, kv1.ownBlock = some b ∧ wr.heap.size ≤ b) (hF : Fr (rowOf kv) wr w1) :
    PushInv w b0 g tv s K1 O kv1 ov tvk w1 := by
  obtain ⟨hl, hn, hk, ho, ht, hne, hf⟩ := h
  have hkg : some g ≠ kv.ownBlock := own_ne hk hl.1 (by decide)
  have hok : NeRow ov kv := ne_types ho hk (by decide)
  refine ⟨⟨hF.blk hl.1 (fun e => hkg e.symm), hF.own hl.2 (fun b hb hs => hne b hs hb)⟩, hn, hk1, hF.own ho (fun b hb hs => hok b hb hs), ht, ?_, ?_⟩
  · intro b hb hs
    rcases h1 with h1 | ⟨b1, h1, hb1⟩
    · rw [h1] at hb; exact hne b hb hs
    · rw [h1] at hb
      simp only [Option.some.injEq] at hb
      have := own_lt hl.2 b hs
      omega
  · refine hf.trans hF fun i hi hs => ?_
    have := (own_old hk hs).1
    omega

/-- commands are appended -/
theorem inv_cmds {w wr w1 : World} {b0 g : Nat} {tv tvk : Value} {s : LexS} {K : List Int} {O O1 : List ByteArray} {kv ov ov1 : Value} (h : PushInv w b0 g tv s K O kv ov tvk wr)
    (ho1 : w1.ownsRow w.heap.size 9 1 ov1 O1.length (encs Value.string O1)) (hF : Fr (rowOf ov) wr w1) :
    PushInv w b0 g tv s K O1 kv ov1 tvk w1 := by
  obtain ⟨hl, hn, hk, ho, ht, hne, hf⟩ := h
  have hog : some g ≠ ov.ownBlock := own_ne ho hl.1 (by decide)
  have hok : NeRow ov kv := ne_types ho hk (by decide)
  have hot : NeRow ov tvk := ne_types ho hl.2 (by decide)
  refine ⟨⟨hF.blk hl.1 (fun e => hog e.symm), hF.own hl.2 (fun b hb hs => hot b hs hb)⟩, hn, hF.own hk (fun b hb hs => hok b hs hb), ho1, ht, hne, ?_⟩
  refine hf.trans hF fun i hi hs => ?_
  have := (own_old ho hs).1
  omega

theorem inv_alloc {w wr : World} {b0 g : Nat} {tv tvk : Value} {s : LexS} {K : List Int} {O : List ByteArray} {kv ov : Value} (h : PushInv w b0 g tv s K O kv ov tvk wr) (o : Obj) :
    PushInv w b0 g tv s K O kv ov tvk (wr.alloc o) := by
  obtain ⟨hl, hn, hk, ho, ht, hne, hf⟩ := h
  exact ⟨⟨blk_alloc hl.1 o, hl.2.alloc o⟩, hn, hk.alloc o, ho.alloc o, ht, hne, hf.alloc o⟩
end Go.Proofs.YtfkamoiamebngaaGreatDoor.LexW

/- What (*lex.Lexer).Push does: the lexer goes on by the bytes; keystrokes and commands in rows of its own. -/
namespace Go.Proofs.YtfkamoiamebngaaGreatDoor.LexW
open Go.RowKit Go.Proofs.YtfkamoiamebngaaGreatDoorW.PrintWords Go.Proofs.YtfkamoiamebngaaGreatDoorW.PrintMore Go.Proofs.YtfkamoiamebngaaGreatDoor.Fr Go.Proofs.YtfkamoiamebngaaGreatDoor.LexP
set_option linter.unusedVariables false
set_option linter.unusedSimpArgs false

theorem lexAll_take (bs : List Int) (s0 : LexS) (k : Nat) (h : k < bs.length) {s : LexS} {K : List Int} {O : List ByteArray} {c : Int} (e : lexAll s0 (bs.take k) = (s, K, O)) (hc : bs.getD k 0 = c) :
    lexAll s0 (bs.take (k + 1)) = ((lexStep s c).1, K ++ (lexStep s c).2.1, O ++ (lexStep s c).2.2) := by
  have : bs.take (k + 1) = bs.take k ++ [c] := by
    rw [List.take_succ_eq_append_getElem h, ← hc]
    simp [h]
  rw [this, lexAll_snoc, e]

theorem lexStep_st (s : LexS) (c : Int) (h : s.st = 0 ∨ s.st = 1 ∨ s.st = 2) : (lexStep s c).1.st = 0 ∨ (lexStep s c).1.st = 1 ∨ (lexStep s c).1.st = 2 := by
  unfold lexStep
  repeat' split
  all_goals simp_all

theorem lexAll_st (l : List Int) : ∀ s : LexS, (s.st = 0 ∨ s.st = 1 ∨ s.st = 2) → ((lexAll s l).1.st = 0 ∨ (lexAll s l).1.st = 1 ∨ (lexAll s l).1.st = 2) := by
  induction l with
  | nil => intro s h; simpa [lexAll] using h
  | cons c cs ih => intro s h; exact ih _ (lexStep_st s c h)

set_option maxHeartbeats 2000000 in
set_option maxRecDepth 100000 in
theorem push_calls (s0 : LexS) (bs : List Int) (A : Option Addr) (cp g : Nat) (tv : Value) (b0 : Nat) (w : World) (hb0 : b0 ≤ w.heap.size)
    (hL : IsLex w b0 g s0 tv) (hne : tv.ownBlock ≠ some g) (hst : s0.st = 0 ∨ s0.st = 1 ∨ s0.st = 2) (hT : s0.text.length ≤ 80)
    (hr : ReadsInt w .u8 A bs.length bs) (hA : 0 < bs.length → ∀ ad, A = some ad → ad.block ≠ g ∧ tv.ownBlock ≠ some ad.block) (hn : bs.length ≤ 100000) :
    Calls Tryz.prog 115 #[.pointer (some ⟨g, 0, none⟩), .slice A bs.length cp] w fun e w' => ∃ kv ov tvk, e = .returned (.tuple #[kv, ov]) ∧
      PushInv w b0 g tv (lexAll s0 bs).1 (lexAll s0 bs).2.1 (lexAll s0 bs).2.2 kv ov tvk w' := by
  have hgw : g < w.heap.size := blk_lt hL.1
  have hI0 := inv_start hL hne
  have HI0 := Aside0.mk hI0
  have HST := Aside0.mk hst
  have HT := Aside0.mk hT
  have HR := Aside0.mk hr
  have HA := Aside0.mk hA
  clear hL hne hst hT hr hA hI0
  go_enter Tryz.func115, Tryz.ntmps115
  go_wp2
  go_loopw [6, 7, 14] (fun v6 v7 v14 wr => ∃ (k : Nat) (s : LexS) (K : List Int) (O : List ByteArray) (tvk : Value), v14 = .int .i64 k ∧ k ≤ bs.length ∧ Aside0 (lexAll s0 (bs.take k) = (s, K, O)) ∧ Aside0 (PushInv w b0 g tv s K O v6 v7 tvk wr)) (fun _ _ i _ => bs.length - (intOf i).toNat)
  case atStart => exact ⟨0, s0, [], [], tv, rfl, Nat.zero_le _, ⟨rfl⟩, HI0⟩
  case round =>
    obtain ⟨k, s, K, O, tvk, rfl, hk, HE, HI⟩ := hrel
    clear HI0
    have hsz : w.heap.size ≤ wr.heap.size := HI.out.2.2.2.2.2.2.size
    have hs3 : s.st = 0 ∨ s.st = 1 ∨ s.st = 2 := by have := lexAll_st (bs.take k) s0 HST.out; rw [HE.out] at this; exact this
    have ht80 : s.text.length ≤ 80 := by have := lexAll_text (bs.take k) s0 HT.out; rw [HE.out] at this; exact this
    have hKk : K.length ≤ k := by have := (lexAll_len (bs.take k) s0).1; rw [HE.out] at this; simp at this; omega
    have hOk : O.length ≤ k := by have := (lexAll_len (bs.take k) s0).2; rw [HE.out] at this; simp at this; omega
    have HS3 := Aside0.mk hs3
    clear hs3
    by_cases hlt : k < bs.length
    · have hrd := HI.out.2.2.2.2.2.2.reads HR.out (fun ad e h => by rcases h with h | h; exact (HA.out (by omega) ad e).1 h; exact (HA.out (by omega) ad e).2 h)
      obtain ⟨ad, hAe, hcells⟩ := hrd.2.2 (by omega)
      obtain rfl := hAe
      obtain ⟨c, hc⟩ : ∃ c, bs.getD k 0 = c := ⟨_, rfl⟩
      have hcell := hcells k hlt
      rw [hc] at hcell
      have HN := Aside0.mk (lexAll_take bs s0 k hlt HE.out hc)
      clear hc hrd HE hcells
      obtain ⟨st, T, lg⟩ := s
      have hb := HI.out.1.1
      dsimp only at hb ht80
      have c0 : wr.cell? ⟨g, 0, none⟩ = some (.int .i64 st) := (blk_cell hb 0).trans rfl
      have f0 : wr.frozen? ⟨g, 0, none⟩ = false := blk_frozen hb 0
      have hgr : g < wr.heap.size := blk_lt hb
      have HB := Aside0.mk hb
      clear hb
      rcases HS3.out with h | h | h
      · dsimp only at h
        subst h
        by_cases h29 : c = 29
        · have hc1 : (c == 29) = true := beq_iff_eq.2 h29
          have HN2 := HN.out
          rw [h29] at HN2
          have hst1 : lexStep ⟨0, T, lg⟩ 29 = (⟨1, T, lg⟩, [], []) := by simp [lexStep]
          rw [hst1] at HN2
          simp only [List.append_nil] at HN2
          have HN3 := Aside0.mk HN2
          clear h29 HN HN2 hst1
          go_wp2
          go_roundw
          case rel =>
            refine ⟨k + 1, ⟨1, T, lg⟩, K, O, tvk, by go_num, hlt, HN3, ⟨inv_lex HI.out hgw ⟨by simpa using blk_set HB.out 0 (.int .i64 1), own_setCell HI.out.1.2 (fun e => HI.out.2.1 e.symm) _⟩ (.inl rfl) (Fr.set (g := g) (Fr.refl _ wr) (fun _ => .inl rfl) 0 _)⟩⟩
          case measure => simp [intOf]; omega
        · have hc1 : (c == 29) = false := beq_eq_false_iff_ne.2 h29
          have hst1 : lexStep ⟨0, T, lg⟩ c = (⟨0, T, lg⟩, [c], []) := by simp [lexStep, h29]
          have HN2 := HN.out
          rw [hst1] at HN2
          simp only [List.append_nil] at HN2
          have HN3 := Aside0.mk HN2
          clear h29 HN HN2 hst1
          go_wp2_with (first | ((with_reducible refine gate_builtin (b := .append) (xs := #[.tmp 18, .tmp 20]) rfl ?_); at_builtin; refine app_nums rfl (.tmp 18) (.tmp 20) 29 5 .u8 1 rfl Tryz.underlying29 info5 (by decide) w.heap.size _ K [c] _ 1 1 rfl rfl ?aO ?aR ?aB ?aL ?_; (case aO => exact HI.out.2.2.1.alloc _); (case aR => exact reads_one wr .u8 c 5); (case aB => exact (by simp; omega)); (case aL => exact (by omega)); intro v1 w1 ho1 hf1 hat1; have HI1 := Aside0.mk (inv_keys (inv_alloc HI.out _) ho1 hat1 hf1); clear ho1 hf1 hat1))
          go_roundw
          case rel => exact ⟨k + 1, ⟨0, T, lg⟩, K ++ [c], O, tvk, by go_num, hlt, HN3, HI1⟩
          case measure => simp [intOf]; omega
      · dsimp only at h
        subst h
        have HN2 := HN.out
        have HBC := fun w1 hw => begin_calls ⟨1, T, lg⟩ c g tvk b0 w1 hw HI.out.2.1 rfl
        have hl := lexStep_len ⟨1, T, lg⟩ c
        generalize hst1 : lexStep ⟨1, T, lg⟩ c = r at *
        obtain ⟨s1, k1, o1⟩ := r
        dsimp only at HN2 HBC hl
        have hk1 : k1.length ≤ 1 := hl.1
        have HN3 := Aside0.mk HN2
        have HBC1 := Aside0.mk HBC
        clear HN HN2 HBC hst1 hl
        go_wp2_with (first | (go_at_call 135; refine (HBC1.out _ HI.out.1).mono ?_; rintro e w1 ⟨tv1, kk, rfl, hl1, ⟨Ak, ck, rfl, hck, hrk, hfk⟩, rfl, ht1, hf1⟩; have HI1 := Aside0.mk (inv_lex HI.out hgw hl1 (by rcases ht1 with rfl | rfl; exact .inl rfl; exact .inr (.inl rfl)) (hf1.mono (fun i _ h => .inl h))); have HRK := Aside0.mk hrk; have hsz1 : wr.heap.size ≤ w1.heap.size := hf1.size; clear hl1 hck hrk hfk ht1 hf1) | ((with_reducible refine gate_builtin (b := .append) (xs := #[.tmp 28, .tmp 31]) rfl ?_); at_builtin; refine app_nums rfl (.tmp 28) (.tmp 31) 29 5 .u8 1 rfl Tryz.underlying29 info5 (by decide) w.heap.size _ K k1 _ k1.length _ rfl rfl ?aO ?aR ?aB ?aL ?_; (case aO => exact HI1.out.2.2.1); (case aR => exact HRK.out); (case aB => exact (by omega)); (case aL => exact (by omega)); intro v1 w2 ho1 hf1 hat1; have HI2 := Aside0.mk (inv_keys HI1.out ho1 hat1 hf1); clear ho1 hf1 hat1))
        go_roundw
        case rel => exact ⟨k + 1, s1, K ++ k1, O, tv1, by go_num, hlt, ⟨by rw [HN3.out, List.append_nil]⟩, HI2⟩
        case measure => simp [intOf]; omega
      · dsimp only at h
        subst h
        by_cases h10 : c = 10
        · subst h10
          have HN2 := HN.out
          have HBC := fun w1 hw => more_nl T lg g tvk b0 w1 hw HI.out.2.1
          generalize hst1 : lexStep ⟨2, T, lg⟩ 10 = r at *
          obtain ⟨s1, k1, o1⟩ := r
          dsimp only at HN2 HBC
          have HN3 := Aside0.mk HN2
          have HBC1 := Aside0.mk HBC
          clear HN HN2 HBC hst1
          go_wp2_with (first | (go_at_call 136; refine (HBC1.out _ HI.out.1).mono ?_; rintro e w1 ⟨str, rfl, hl1, rfl, rfl, hf1⟩; have HI1 := Aside0.mk (inv_lex HI.out hgw hl1 (.inl rfl) (hf1.mono (fun i _ h => .inl h))); have hsz1 : wr.heap.size ≤ w1.heap.size := hf1.size; clear hl1 hf1) | ((with_reducible refine gate_builtin (b := .append) (xs := #[.tmp 46, .tmp 48]) rfl ?_); at_builtin; refine app_strs rfl (.tmp 46) (.tmp 48) 25 9 rfl Tryz.underlying25 info9 w.heap.size _ O [str] _ 1 1 rfl rfl ?aO ?aR ?aB ?aL ?_; (case aO => exact HI1.out.2.2.2.1.alloc _); (case aR => exact readsOf_one w1 str 9); (case aB => exact (by simp; omega)); (case aL => exact (by omega)); intro v1 w2 ho1 hf1 hat1; have HI2 := Aside0.mk (inv_cmds (inv_alloc HI1.out _) ho1 hf1); clear ho1 hf1 hat1))
          go_roundw
          case rel => exact ⟨k + 1, s1, K, O ++ [str], tvk, by go_num, hlt, ⟨by rw [HN3.out, List.append_nil]⟩, HI2⟩
          case measure => simp [intOf]; omega
        · have HN2 := HN.out
          have HBC := fun w1 hb hw => more_c T lg c g tvk b0 w1 hb hw HI.out.2.1 h10 ht80
          generalize hst1 : lexStep ⟨2, T, lg⟩ c = r at *
          obtain ⟨s1, k1, o1⟩ := r
          dsimp only at HN2 HBC
          have HN3 := Aside0.mk HN2
          have HBC1 := Aside0.mk HBC
          clear HN HN2 HBC hst1 h10
          go_wp2_with (first | (go_at_call 136; refine (HBC1.out _ (by omega) HI.out.1).mono ?_; rintro e w1 ⟨tv1, rfl, hl1, rfl, rfl, ht1, hf1⟩; have HI1 := Aside0.mk (inv_lex HI.out hgw hl1 (by rcases ht1 with h | h; exact .inl h; exact .inr (.inr h)) hf1); clear hl1 ht1 hf1))
          go_roundw
          case rel => exact ⟨k + 1, s1, K, O, tv1, by go_num, hlt, ⟨by rw [HN3.out, List.append_nil, List.append_nil]⟩, HI1⟩
          case measure => simp [intOf]; omega
    · have hk' : k = bs.length := by omega
      go_wp2
      go_ret2
      have h1 := HE.out
      rw [hk', List.take_length] at h1
      rw [h1]
      exact ⟨_, _, tvk, rfl, HI.out⟩

theorem push_to {s0 s1 : LexS} {k1 : List Int} {o1 : List ByteArray} (bs : List Int) (hE : lexAll s0 bs = (s1, k1, o1)) (A : Option Addr) (cp g : Nat) (tv : Value) (b0 : Nat) (w : World) (hb0 : b0 ≤ w.heap.size)
    (hL : IsLex w b0 g s0 tv) (hne : tv.ownBlock ≠ some g) (hst : s0.st = 0 ∨ s0.st = 1 ∨ s0.st = 2) (hT : s0.text.length ≤ 80)
    (hr : ReadsInt w .u8 A bs.length bs) (hA : 0 < bs.length → ∀ ad, A = some ad → ad.block ≠ g ∧ tv.ownBlock ≠ some ad.block) (hn : bs.length ≤ 100000) :
    Calls Tryz.prog 115 #[.pointer (some ⟨g, 0, none⟩), .slice A bs.length cp] w fun e w' => ∃ kv ov tvk, e = .returned (.tuple #[kv, ov]) ∧
      PushInv w b0 g tv s1 k1 o1 kv ov tvk w' := by
  have h := push_calls s0 bs A cp g tv b0 w hb0 hL hne hst hT hr hA hn
  rw [hE] at h
  exact h
end Go.Proofs.YtfkamoiamebngaaGreatDoor.LexW

/- The broker in memory. -/
namespace Go.Proofs.YtfkamoiamebngaaGreatDoor.BroW
open Go.RowKit Go.Proofs.YtfkamoiamebngaaGreatDoorW.PrintWords Go.Proofs.YtfkamoiamebngaaGreatDoorW.PrintMore Go.Proofs.YtfkamoiamebngaaGreatDoor.Fr Go.Proofs.YtfkamoiamebngaaGreatDoor.ScrW Go.Proofs.YtfkamoiamebngaaGreatDoor.ScrP Go.Proofs.YtfkamoiamebngaaGreatDoor.Mod Go.Proofs.YtfkamoiamebngaaGreatDoor.LexP Go.Proofs.YtfkamoiamebngaaGreatDoor.LexW Go.Proofs.YtfkamoiamebngaaGreatDoor.SpotP Go.Proofs.YtfkamoiamebngaaGreatDoor.SpotW
set_option linter.unusedVariables false
set_option linter.unusedSimpArgs false

/-- whose a block is -/
inductive Tag where
  | no | brk | cmap | log | spt | tab | inp
  | con (i : Int) (k : Nat)
abbrev Own := Nat → Tag
/-- what an operation on what is tagged so leaves -/
structure Step (T : Tag → Prop) (w : World) (o : Own) (w1 : World) (o1 : Own) : Prop where
  old : ∀ b, b < w.heap.size → o1 b = o b
  new : ∀ b, w1.heap.size ≤ b → o1 b = .no
  fr : Fr (fun b => T (o b)) w w1
theorem Step.mono {T T' : Tag → Prop} {w w1 : World} {o o1 : Own} (h : Step T w o w1 o1) (hT : ∀ t, T t → T' t) : Step T' w o w1 o1 := ⟨h.old, h.new, h.fr.mono (fun _ _ h => hT _ h)⟩
theorem Step.trans {T : Tag → Prop} {w w1 w2 : World} {o o1 o2 : Own} (h : Step T w o w1 o1) (k : Step T w1 o1 w2 o2) : Step T w o w2 o2 :=
  ⟨fun b hb => (k.old b (Nat.lt_of_lt_of_le hb h.fr.size)).trans (h.old b hb), k.new, h.fr.trans k.fr (fun b hb hs => by rw [h.old b hb] at hs; exact hs)⟩
/-- the same, and what is nobody's may turn -/
structure LStep (T : Tag → Prop) (w : World) (o : Own) (w1 : World) (o1 : Own) : Prop where
  old : ∀ b, b < w.heap.size → o1 b = o b
  new : ∀ b, w1.heap.size ≤ b → o1 b = .no
  fr : Fr (fun b => T (o b) ∨ (o b = .no ∧ ¬ libB b)) w w1
theorem Step.loose {T : Tag → Prop} {w w1 : World} {o o1 : Own} (h : Step T w o w1 o1) : LStep T w o w1 o1 := ⟨h.old, h.new, h.fr.mono (fun _ _ h => .inl h)⟩
/-- nothing of what was tagged has turned -/
theorem Step.quiet {w w1 : World} {o : Own} (h : ∀ b, w.heap.size ≤ b → o b = .no) (hf : Fr nope w w1) : Step (fun _ => False) w o w1 o :=
  ⟨fun _ _ => rfl, fun b hb => h b (Nat.le_trans hf.size hb), hf.mono (fun _ _ h => h)⟩
open Classical in
/-- new blocks are tagged -/
noncomputable def tagN (w : World) (o : Own) (T : Tag) (N : Nat → Prop) : Own := fun b => if w.heap.size ≤ b ∧ N b then T else o b
theorem tagN_old {w : World} {o : Own} {T : Tag} {N : Nat → Prop} {b : Nat} (h : b < w.heap.size) : tagN w o T N b = o b := by unfold tagN; rw [if_neg (by omega)]
theorem tagN_new {w : World} {o : Own} {T : Tag} {N : Nat → Prop} {b : Nat} (h : w.heap.size ≤ b) (hN : N b) : tagN w o T N b = T := by unfold tagN; rw [if_pos ⟨h, hN⟩]
theorem tagN_or {w : World} {o : Own} {T : Tag} {N : Nat → Prop} {b : Nat} (h : (b < w.heap.size ∧ o b = T) ∨ (w.heap.size ≤ b ∧ N b)) : tagN w o T N b = T := by
  rcases h with ⟨h, h2⟩ | ⟨h, h2⟩
  · rw [tagN_old h, h2]
  · exact tagN_new h h2
theorem step_tagN {T : Tag} {w w1 : World} {o : Own} {N : Nat → Prop} (hn : ∀ b, w.heap.size ≤ b → o b = .no) (hN : ∀ b, N b → b < w1.heap.size) (hf : Fr (fun b => o b = T) w w1) : Step (fun t => t = T) w o w1 (tagN w o T N) :=
  ⟨fun b hb => tagN_old hb, fun b hb => by unfold tagN; rw [if_neg (fun h => by have := hN b h.2; omega)]; exact hn b (Nat.le_trans hf.size hb), hf⟩

/-! ### the parts -/
def PLog (w : World) (o : Own) (g : Nat) (al : List Int) (n : Nat) : Prop := ∃ gb, IsR w g gb al n ∧ o g = .log ∧ o gb = .log
def PSpt (w : World) (o : Own) (g : Nat) (k : Nat) : Prop := ∃ s, IsSpot w g s ∧ SpGood s ∧ s.r ≤ k ∧ o g = .spt
def PTab (w : World) (o : Own) (g : Nat) (t : Tb) : Prop := ∃ mb qv, IsTb w g mb qv t ∧ o g = .tab ∧ o mb = .tab ∧ ∀ b, qv.ownBlock = some b → o b = .tab
def PInp (w : World) (o : Own) (g : Nat) (bs : List Int) (size : Int) (e : Bool) : Prop := ∃ gq v, IsI w g gq v bs size e ∧ o g = .inp ∧ o gq = .inp ∧ ∀ b, v.ownBlock = some b → o b = .inp
def PFd (w : World) (o : Own) (i : Int) (g : Nat) (fb : List Int) (fe : Int) : Prop := ∃ v, IsFd w g v fb fe ∧ o g = .con i 1 ∧ ∀ b, tlB v b → o b = .con i 1
def PLx (w : World) (o : Own) (i : Int) (g : Nat) (s : LexS) : Prop := ∃ tv, IsLex w 0 g s tv ∧ tv.ownBlock ≠ some g ∧ o g = .con i 2 ∧ ∀ b, tv.ownBlock = some b → o b = .con i 2
def POu (w : World) (o : Own) (i : Int) (g : Nat) (bs : List Int) (size : Int) : Prop := ∃ v, IsQ w 0 g bs size v ∧ o g = .con i 3 ∧ ∀ b, v.ownBlock = some b → o b = .con i 3
def PVw (w : World) (o : Own) (i : Int) (vv : Value) (v : Option Vw) : Prop := (v = none ∧ vv = .pointer none) ∨ ∃ g x, v = some x ∧ vv = .pointer (some ⟨g, 0, none⟩) ∧ IsV w g x ∧ o g = .con i 4
def conCells (i : Int) (c : Cn) (fg lg og : Nat) (vv : Value) : Array Value := #[.int .i64 i, .int .i64 c.st, .string c.name, .int .i64 c.idle, .pointer (some ⟨fg, 0, none⟩), .pointer (some ⟨lg, 0, none⟩), .pointer (some ⟨og, 0, none⟩), vv]
def PCb (w : World) (o : Own) (i : Int) (g : Nat) (cs : Array Value) : Prop := w.heap[g]? = some (.cells cs 121 (0, 0)) ∧ o g = .con i 0
def PCon (w : World) (o : Own) (i : Int) (g : Nat) (c : Cn) (q : Int) : Prop := ∃ fg lg og vv, PCb w o i g (conCells i c fg lg og vv) ∧ PFd w o i fg c.fb c.fe ∧ PLx w o i lg c.lx ∧ POu w o i og c.out q ∧ PVw w o i vv c.vw
def ConAt (w : World) (o : Own) (g : Option Nat) (i : Int) (c : Option Cn) (q : Int) : Prop := (g = none ∧ c = none) ∨ ∃ g1 c1, g = some g1 ∧ c = some c1 ∧ PCon w o i g1 c1 q

structure Lay where
  bg : Nat
  gl : Nat
  gs : Nat
  gt : Nat
  gi : Nat
  mc : Nat
  cp : Int → Option Nat
def brkCells (L : Lay) (S : St) : Array Value := #[.int .i64 S.cf.a0, .int .i64 S.cf.a1, .int .i64 S.cf.a2, .int .i64 S.cf.a3, .int .i64 S.cf.a4, .int .i64 S.cf.a5, .int .i64 S.cf.a6, .int .i64 S.cf.a7,
  .pointer (some ⟨L.gl, 0, none⟩), .pointer (some ⟨L.gs, 0, none⟩), .pointer (some ⟨L.gt, 0, none⟩), .pointer (some ⟨L.gi, 0, none⟩), .map (some L.mc), .int .i64 S.strikes, .bool S.ended, .int .i64 S.code, .int .i64 S.told]
def PBrk (w : World) (o : Own) (g : Nat) (cs : Array Value) : Prop := w.heap[g]? = some (.cells cs 87 (0, 0)) ∧ o g = .brk
def PMap (w : World) (o : Own) (g : Nat) (cp : Int → Option Nat) : Prop := MapAt w g (fun i => (cp i).map fun b => Value.pointer (some ⟨b, 0, none⟩)) ∧ o g = .cmap
structure Rep (w : World) (L : Lay) (o : Own) (S : St) : Prop where
  lib : LibOK w ∧ ∀ i, libB i → o i = .no
  fresh : ∀ b, w.heap.size ≤ b → o b = .no
  brk : PBrk w o L.bg (brkCells L S)
  map : PMap w o L.mc L.cp
  log : PLog w o L.gl S.log S.cf.a0.toNat
  spt : PSpt w o L.gs S.log.length
  tab : PTab w o L.gt S.tb
  inp : PInp w o L.gi S.inp S.cf.a3 S.inE
  con : ∀ i, ConAt w o (L.cp i) i (S.cn i) S.cf.a2

/-! ### each part stays when others turn -/
section ext
variable {T : Tag → Prop} {w w1 : World} {o o1 : Own}
theorem tag_ne {b : Nat} {t : Tag} (h : o b = t) (hT : ¬ T t) (hn : t ≠ .no := by simp) : ¬ (T (o b) ∨ (o b = .no ∧ ¬ libB b)) := by
  rw [h]
  rintro (h1 | ⟨h1, _⟩)
  · exact hT h1
  · exact hn h1
theorem LStep.at (h : LStep T w o w1 o1) {b : Nat} {ob : Obj} (hb : w.heap[b]? = some ob) {t : Tag} (ht : o b = t) : o1 b = t := (h.old b (blk_lt hb)).trans ht
theorem PLog.ext {g : Nat} {al : List Int} {n : Nat} (h : PLog w o g al n) (st : LStep T w o w1 o1) (hT : ¬ T .log) : PLog w1 o1 g al n := by
  obtain ⟨gb, hr, h1, h2⟩ := h
  have hr2 := hr.fr st.fr (tag_ne h1 hT) (tag_ne h2 hT)
  obtain ⟨buf, b1, b2, b3, b4⟩ := hr
  exact ⟨gb, hr2, st.at b2 h1, st.at b3 h2⟩
theorem PSpt.ext {g k : Nat} (h : PSpt w o g k) (st : LStep T w o w1 o1) (hT : ¬ T .spt) : PSpt w1 o1 g k := by
  obtain ⟨s, h1, h2, h3, h4⟩ := h
  exact ⟨s, st.fr.blk h1 (tag_ne h4 hT), h2, h3, st.at h1 h4⟩
theorem PTab.ext {g : Nat} {t : Tb} (h : PTab w o g t) (st : LStep T w o w1 o1) (hT : ¬ T .tab) : PTab w1 o1 g t := by
  obtain ⟨mb, qv, h1, h2, h3, h4⟩ := h
  have hl := h1.lt
  exact ⟨mb, qv, h1.fr st.fr (tag_ne h2 hT) (tag_ne h3 hT) (fun b hb => tag_ne (h4 b hb) hT), (st.old _ hl.1).trans h2, (st.old _ hl.2.1).trans h3, fun b hb => (st.old _ (hl.2.2 b hb)).trans (h4 b hb)⟩
theorem PInp.ext {g : Nat} {bs : List Int} {size : Int} {e : Bool} (h : PInp w o g bs size e) (st : LStep T w o w1 o1) (hT : ¬ T .inp) : PInp w1 o1 g bs size e := by
  obtain ⟨gq, v, h1, h2, h3, h4⟩ := h
  have h5 := h1.fr st.fr (tag_ne h2 hT) (tag_ne h3 hT) (fun b hb => tag_ne (h4 b hb) hT)
  obtain ⟨c, k1, k2, k3, k4⟩ := h1
  exact ⟨gq, v, h5, st.at k1 h2, st.at k2.1 h3, fun b hb => (st.old _ (own_old k2.2.1 hb).2).trans (h4 b hb)⟩
theorem PFd.ext {i : Int} {g : Nat} {fb : List Int} {fe : Int} (h : PFd w o i g fb fe) (st : LStep T w o w1 o1) (hT : ¬ T (.con i 1)) : PFd w1 o1 i g fb fe := by
  obtain ⟨v, ⟨h1, h2, h3⟩, h4, h5⟩ := h
  exact ⟨v, ⟨st.fr.blk h1 (tag_ne h4 hT), h2.fr st.fr (fun b hb => tag_ne (h5 b hb) hT), h3⟩, st.at h1 h4, fun b hb => (st.old _ (h2.lt hb)).trans (h5 b hb)⟩
theorem PLx.ext {i : Int} {g : Nat} {s : LexS} (h : PLx w o i g s) (st : LStep T w o w1 o1) (hT : ¬ T (.con i 2)) : PLx w1 o1 i g s := by
  obtain ⟨tv, ⟨h1, h2⟩, h3, h4, h5⟩ := h
  exact ⟨tv, ⟨st.fr.blk h1 (tag_ne h4 hT), st.fr.own h2 (fun b hb => tag_ne (h5 b hb) hT)⟩, h3, st.at h1 h4, fun b hb => (st.old _ (own_old h2 hb).2).trans (h5 b hb)⟩
theorem POu.ext {i : Int} {g : Nat} {bs : List Int} {q : Int} (h : POu w o i g bs q) (st : LStep T w o w1 o1) (hT : ¬ T (.con i 3)) : POu w1 o1 i g bs q := by
  obtain ⟨v, h1, h4, h5⟩ := h
  exact ⟨v, h1.fr st.fr (tag_ne h4 hT) (fun b hb => tag_ne (h5 b hb) hT), st.at h1.1 h4, fun b hb => (st.old _ (own_old h1.2.1 hb).2).trans (h5 b hb)⟩
theorem PVw.ext {i : Int} {vv : Value} {v : Option Vw} (h : PVw w o i vv v) (st : LStep T w o w1 o1) (hT : ¬ T (.con i 4)) : PVw w1 o1 i vv v := by
  rcases h with h | ⟨g, x, h1, h2, h3, h4⟩
  · exact .inl h
  · exact .inr ⟨g, x, h1, h2, st.fr.blk h3 (tag_ne h4 hT), st.at h3 h4⟩
theorem PCb.ext {i : Int} {g : Nat} {cs : Array Value} (h : PCb w o i g cs) (st : LStep T w o w1 o1) (hT : ¬ T (.con i 0)) : PCb w1 o1 i g cs := ⟨st.fr.blk h.1 (tag_ne h.2 hT), st.at h.1 h.2⟩
theorem PCon.ext {i : Int} {g : Nat} {c : Cn} {q : Int} (h : PCon w o i g c q) (st : LStep T w o w1 o1) (hT : ∀ k, ¬ T (.con i k)) : PCon w1 o1 i g c q := by
  obtain ⟨fg, lg, og, vv, h1, h2, h3, h4, h5⟩ := h
  exact ⟨fg, lg, og, vv, h1.ext st (hT 0), h2.ext st (hT 1), h3.ext st (hT 2), h4.ext st (hT 3), h5.ext st (hT 4)⟩
theorem ConAt.ext {i : Int} {g : Option Nat} {c : Option Cn} {q : Int} (h : ConAt w o g i c q) (st : LStep T w o w1 o1) (hT : ∀ k, ¬ T (.con i k)) : ConAt w1 o1 g i c q := by
  rcases h with h | ⟨g1, c1, h1, h2, h3⟩
  · exact .inl h
  · exact .inr ⟨g1, c1, h1, h2, h3.ext st hT⟩
theorem PBrk.ext {g : Nat} {cs : Array Value} (h : PBrk w o g cs) (st : LStep T w o w1 o1) (hT : ¬ T .brk) : PBrk w1 o1 g cs := ⟨st.fr.blk h.1 (tag_ne h.2 hT), st.at h.1 h.2⟩
theorem PMap.ext {g : Nat} {cp : Int → Option Nat} (h : PMap w o g cp) (st : LStep T w o w1 o1) (hT : ¬ T .cmap) : PMap w1 o1 g cp := ⟨h.1.fr st.fr (tag_ne h.2 hT), (st.old _ h.1.lt).trans h.2⟩
theorem var_lt {w : World} {n : String} {cs : Array Value} (h : w.var? Tryz.prog n = some cs) {i : Nat} (hi : Tryz.prog.globalNamed n = some i) : i < w.heap.size := by
  unfold World.var? at h
  rw [hi] at h
  simp only [Option.bind_some] at h
  rcases Nat.lt_or_ge i w.heap.size with h1 | h1
  · exact h1
  · rw [Array.getElem?_eq_none h1] at h; cases h
theorem LibOK.lt {w : World} (h : LibOK w) {i : Nat} (hi : libB i) : i < w.heap.size := by
  obtain ⟨h1, ⟨_, _, h2⟩, ⟨_, _, h3⟩⟩ := h
  rcases hi with e | e | e
  · exact var_lt h1 e
  · exact var_lt h2 e
  · exact var_lt h3 e
theorem lib_ext (h : LibOK w ∧ ∀ i, libB i → o i = .no) (st : LStep T w o w1 o1) (hT : ¬ T .no) : LibOK w1 ∧ ∀ i, libB i → o1 i = .no :=
  ⟨h.1.fr st.fr (fun i hi hs => by rw [h.2 i hi] at hs; rcases hs with hs | ⟨_, hs⟩; exact hT hs; exact hs hi), fun i hi => (st.old i (h.1.lt hi)).trans (h.2 i hi)⟩
end ext

/-! ### what turns in the broker -/
section upd
variable {w w1 : World} {L : Lay} {o o1 : Own} {S : St}
theorem Rep.quiet (h : Rep w L o S) (hf : Fr nope w w1) : Rep w1 L o S := by
  have st := Step.quiet h.fresh hf
  exact ⟨lib_ext h.lib st.loose (fun h => h), st.new, h.brk.ext st.loose (fun h => h), h.map.ext st.loose (fun h => h), h.log.ext st.loose (fun h => h), h.spt.ext st.loose (fun h => h), h.tab.ext st.loose (fun h => h), h.inp.ext st.loose (fun h => h), fun i => (h.con i).ext st.loose (fun _ h => h)⟩
/-- what is nobody's turns -/
theorem Rep.fr (h : Rep w L o S) {N : Nat → Prop} (hf : Fr N w w1) (hN : ∀ b, N b → o b = .no ∧ ¬ libB b) : Rep w1 L o S := by
  have st : LStep (fun _ => False) w o w1 o := ⟨fun _ _ => rfl, fun b hb => h.fresh b (Nat.le_trans hf.size hb), hf.mono (fun b _ hb => .inr (hN b hb))⟩
  exact ⟨lib_ext h.lib st (fun h => h), st.new, h.brk.ext st (fun h => h), h.map.ext st (fun h => h), h.log.ext st (fun h => h), h.spt.ext st (fun h => h), h.tab.ext st (fun h => h), h.inp.ext st (fun h => h), fun i => (h.con i).ext st (fun _ h => h)⟩
theorem Rep.tab' (h : Rep w L o S) (st : Step (fun t => t = .tab) w o w1 o1) {t : Tb} (p : PTab w1 o1 L.gt t) : Rep w1 L o1 { S with tb := t } :=
  ⟨lib_ext h.lib st.loose (by simp), st.new, h.brk.ext st.loose (by simp), h.map.ext st.loose (by simp), h.log.ext st.loose (by simp), h.spt.ext st.loose (by simp), p, h.inp.ext st.loose (by simp), fun i => (h.con i).ext st.loose (by simp)⟩
theorem Rep.inp' (h : Rep w L o S) (st : Step (fun t => t = .inp) w o w1 o1) {bs : List Int} {e : Bool} (p : PInp w1 o1 L.gi bs S.cf.a3 e) : Rep w1 L o1 { S with inp := bs, inE := e } :=
  ⟨lib_ext h.lib st.loose (by simp), st.new, h.brk.ext st.loose (by simp), h.map.ext st.loose (by simp), h.log.ext st.loose (by simp), h.spt.ext st.loose (by simp), h.tab.ext st.loose (by simp), p, fun i => (h.con i).ext st.loose (by simp)⟩
theorem Rep.log' (h : Rep w L o S) (st : Step (fun t => t = .log ∨ t = .spt) w o w1 o1) {al : List Int} (p : PLog w1 o1 L.gl al S.cf.a0.toNat) (p2 : PSpt w1 o1 L.gs al.length) : Rep w1 L o1 { S with log := al } :=
  ⟨lib_ext h.lib st.loose (by simp), st.new, h.brk.ext st.loose (by simp), h.map.ext st.loose (by simp), p, p2, h.tab.ext st.loose (by simp), h.inp.ext st.loose (by simp), fun i => (h.con i).ext st.loose (by simp)⟩
theorem Rep.brk' (h : Rep w L o S) (st : Step (fun t => t = .brk) w o w1 o1) (s e c t) (p : PBrk w1 o1 L.bg (brkCells L { S with strikes := s, ended := e, code := c, told := t })) : Rep w1 L o1 { S with strikes := s, ended := e, code := c, told := t } :=
  ⟨lib_ext h.lib st.loose (by simp), st.new, p, h.map.ext st.loose (by simp), h.log.ext st.loose (by simp), h.spt.ext st.loose (by simp), h.tab.ext st.loose (by simp), h.inp.ext st.loose (by simp), fun i => (h.con i).ext st.loose (by simp)⟩
/-- one connection turns -/
theorem Rep.con' (h : Rep w L o S) {i : Int} {g : Nat} (hg : L.cp i = some g) (st : Step (fun t => ∃ k, t = .con i k) w o w1 o1) {c : Cn} (p : PCon w1 o1 i g c S.cf.a2) : Rep w1 L o1 (S.setc i (some c)) :=
  ⟨lib_ext h.lib st.loose (by simp), st.new, h.brk.ext st.loose (by simp), h.map.ext st.loose (by simp), h.log.ext st.loose (by simp), h.spt.ext st.loose (by simp), h.tab.ext st.loose (by simp), h.inp.ext st.loose (by simp), fun j => by
    unfold St.setc
    by_cases e : j = i
    · subst e
      simp only [if_pos rfl]
      exact .inr ⟨g, c, hg, rfl, p⟩
    · simp only [if_neg e]
      exact (h.con j).ext st.loose (fun k hk => by obtain ⟨k2, hk⟩ := hk; cases hk; exact e rfl)⟩
theorem Rep.conOf (h : Rep w L o S) {i : Int} {c : Cn} (hc : S.cn i = some c) : ∃ g, L.cp i = some g ∧ PCon w o i g c S.cf.a2 := by
  rcases h.con i with ⟨_, h2⟩ | ⟨g, c1, h1, h2, h3⟩
  · rw [hc] at h2; cases h2
  · rw [hc] at h2; cases h2; exact ⟨g, h1, h3⟩
theorem Rep.cnOf (h : Rep w L o S) {i : Int} {g : Nat} (hg : L.cp i = some g) : ∃ c, S.cn i = some c ∧ PCon w o i g c S.cf.a2 := by
  rcases h.con i with ⟨h2, _⟩ | ⟨g1, c1, h1, h2, h3⟩
  · rw [hg] at h2; cases h2
  · rw [hg] at h1; cases h1; exact ⟨c1, h2, h3⟩
end upd
end Go.Proofs.YtfkamoiamebngaaGreatDoor.BroW

/- broker: ids. -/
namespace Go.Proofs.YtfkamoiamebngaaGreatDoor.BroW
open Go.RowKit Go.Proofs.YtfkamoiamebngaaGreatDoorW.PrintWords Go.Proofs.YtfkamoiamebngaaGreatDoorW.PrintMore Go.Proofs.YtfkamoiamebngaaGreatDoor.Fr Go.Proofs.YtfkamoiamebngaaGreatDoor.ScrW Go.Proofs.YtfkamoiamebngaaGreatDoor.ScrP Go.Proofs.YtfkamoiamebngaaGreatDoor.Mod
open Go.Maps Go.Sort Go.Shelf
set_option linter.unusedVariables false
set_option linter.unusedSimpArgs false

theorem sortsA (m : Nat) : AnyZI.SortsIn Tryz.prog Tryz.sortedA_ren Fence.wide m :=
  ⟨fun blk off cap ss W hH hblk hsz => callsIn_wide.2 (Tryz.slices_Sort_int blk off cap ss W hH hblk hsz),
   fun p cap W => callsIn_wide.2 (Tryz.slices_Sort_int_none p cap W)⟩

theorem idsOf_perm {w : World} {b n : Nat} {D : DataW Unit} {f : Int → Bool} (hown : w.ownsMap Tryz.prog 3 mpR b n D) (hd : ∀ i, f i = true → 1 ≤ i ∧ i ≤ 16) (hh : ∀ i : Int, (Lit.int .i64 i).wf = true → Maps.has D (.int .i64 i) = f i) {ss : List Int} (hp : ss.Perm (intKeys D)) : (ss.mergeSort fun x y => decide (x ≤ y)) = ids16.filter f := by
  have K := Maps.int_keyed Tryz.underlying3
  have hwf := intKeys_wf hown Tryz.underlying3
  have hko := hown.keysOf
  obtain ⟨es, rfl, hpw, hk0⟩ := hown.entries K
  have hk : ∀ p ∈ es, ∃ x, p.1 = .int .i64 x := by
    obtain ⟨es', hD', hko⟩ := hko
    obtain rfl : es = es' := by simpa using hD'
    intro p hp
    obtain ⟨v, hv⟩ := hko p hp
    obtain ⟨x, _, hx, _⟩ := Maps.keyOf_i64 Tryz.underlying3 hv
    exact ⟨x, hx⟩
  have hmem : ∀ x, Maps.has (.map es) (.int .i64 x) = true → x ∈ intKeys (.map es) := by
    intro x hx
    rw [Maps.has_eq, List.any_eq_true] at hx
    obtain ⟨p, hp', hs⟩ := hx
    obtain ⟨a, ha⟩ := hk p hp'
    rw [ha] at hs
    have hax : a = x := by simpa [Lit.sameKey] using hs
    unfold intKeys
    exact List.mem_map.2 ⟨p, hp', by rw [ha, hax]; rfl⟩
  have hq : (ids16.filter f).Perm (intKeys (.map es)) := by
    refine perm_intKeys hpw hk ((ids16_sorted.filter _).imp (fun {a b} h => by omega)) (fun x => ?_)
    rw [List.mem_filter, ids16_mem]
    constructor
    · intro h
      rw [hh x (mpWf h.1.1 h.1.2)]
      exact h.2
    · intro h
      have hf := hh x (hwf x (hmem x h))
      rw [hf] at h
      exact ⟨hd x h, h⟩
  have h1 : (ss.mergeSort fun x y => decide (x ≤ y)) = ((ids16.filter f).mergeSort fun x y => decide (x ≤ y)) := mergeSort_of_perm_i (hp.trans hq.symm)
  rw [h1]
  refine sorted_ids f hd _ ((ids16_sorted.filter _).imp (fun {a b} h => by omega)) (fun i => ?_)
  rw [List.mem_filter, ids16_mem]
  exact ⟨fun h => h.2, fun h => ⟨hd i h, h⟩⟩

/-- who is connected -/
def idsL (cp : Int → Option Nat) : List Int := ids16.filter fun i => (cp i).isSome
set_option maxHeartbeats 1000000 in
theorem ids_calls (w : World) (L : Lay) (hm : MapAt w L.mc (fun i => (L.cp i).map fun b => Value.pointer (some ⟨b, 0, none⟩))) {cs : Array Value} (hb : w.heap[L.bg]? = some (.cells cs 87 (0, 0))) (hc : cs[12]? = some (.map (some L.mc))) :
    Calls Tryz.prog 45 #[.pointer (some ⟨L.bg, 0, none⟩)] w fun e w' => ∃ v, e = .returned v ∧ w'.ownsRow w.heap.size 3 1 v (idsL L.cp).length (nums .i64 (idsL L.cp)) ∧ Fr nope w w' := by
  have hdom : ∀ i, (L.cp i).isSome = true → 1 ≤ i ∧ i ≤ 16 := fun i hi => hm.1 i (by simpa using hi)
  obtain ⟨D, hown, hhas⟩ := hm.few
  have hD : ∀ i : Int, (Lit.int .i64 i).wf = true → Maps.has D (.int .i64 i) = (L.cp i).isSome := fun i hi => by rw [(hhas i hi).1]; simp
  have hperm : ∀ ss : List Int, ss.Perm (intKeys D) → (ss.mergeSort fun x y => decide (x ≤ y)) = idsL L.cp := fun ss hp => idsOf_perm hown hdom hD hp
  have hsz : Maps.size D ≤ 16 := by
    obtain ⟨es, clock, _, _, hs, rfl⟩ := hown
    have h1 : Maps.size (DataW.map ((es.toList.map (Go.WideElems.rg Tryz.prog 3 mpR)).foldr DataW.insert [])) = ((es.toList.map (Go.WideElems.rg Tryz.prog 3 mpR)).foldr DataW.insert []).length := rfl
    rw [h1, (Go.WideShapes.sorted_perm _).length_eq, List.length_map, Array.length_toList]
    exact hs
  have hg : L.bg < w.heap.size := blk_lt hb
  have c12 : w.cell? ⟨L.bg, 12, none⟩ = some (.map (some L.mc)) := (blk_cell hb 12).trans hc
  have hbl := hown.lt
  have HP := Aside0.mk hperm
  refine (callsIn_wide (n := 6)).1 ?_
  have hseq : SeqGives Fence.wide 2 Tryz.prog 93 #[.pointer (some ⟨w.heap.size, 0, none⟩)] encZ (fun ss => ss.Perm (intKeys D)) (Maps.size D) (w.alloc (.cells #[.map (some L.mc)] 85)) :=
    AnyZI.keys_gives (ρ := Tryz.keysA_ren) { Tryz.keysA with } Fence.wide _ trivial rfl (by omega) w.heap.size L.mc 16 D _ (by simp) (by simp) (by
      obtain ⟨es, clock, hb, Ft, hs, hD⟩ := hown
      exact ⟨es, clock, (Below.heap_alloc _ _ L.mc hbl).trans hb, Ft, hs, hD⟩)
  have cK : ∀ mb W, CallsIn Fence.wide 5 Tryz.prog 71 #[.map mb] W fun e w' => e = .returned (.func (.func 93) #[] #[.pointer (some ⟨W.heap.size, 0, none⟩)]) ∧ w' = W.alloc (.cells #[.map mb] 85) := fun mb W => AnyZI.keys_in Tryz.keysA Fence.wide 5 trivial rfl mb W
  have cS := AnyZI.sorted_in Tryz.sortedA Fence.wide 5 trivial trivial trivial trivial rfl (by omega) (sortsA _) (enters_of Tryz.func53 (by kernel_rfl) rfl) 93 #[.pointer (some ⟨w.heap.size, 0, none⟩)] trivial (enters_of Tryz.func93 (by kernel_rfl) rfl) _ _ (by unfold maxLen; omega) (by omega) _ hseq
  change CallsIn _ _ Tryz.prog 70 _ _ _ at cS
  have hfK : Fence.wide.fn 71 := trivial
  have hfS : Fence.wide.fn 70 := trivial
  clear hm hb hc hown hhas hD hperm hdom
  refine callsIn_of_wp Tryz.func45 rfl trivial ?_ rfl
  simp only [Tryz.ntmps45, List.size_toArray, List.length_cons, List.length_nil, Nat.reduceAdd, Nat.reduceSub, Array.replicate_succ, Array.replicate_zero, List.push_toArray, List.append_toArray, List.nil_append, List.cons_append]
  gi_wp2_with (first
    | (gi_at_call 71; refine (cK _ _).mono ?_; rintro e w' ⟨rfl, rfl⟩)
    | (gi_at_call 70; refine cS.mono ?_; rintro e w' ⟨v, ss, rfl, hS, hrow, hnil, hb⟩))
  go_ret
  have he := HP.out ss hS
  have hl : (idsL L.cp).length = ss.length := by rw [← he]; exact List.length_mergeSort _
  refine ⟨v, rfl, ?_, ((Fr.refl nope w).alloc _).below hb⟩
  rw [hl, ← he]
  exact ownsRow_base_a hrow (by simp)
end Go.Proofs.YtfkamoiamebngaaGreatDoor.BroW

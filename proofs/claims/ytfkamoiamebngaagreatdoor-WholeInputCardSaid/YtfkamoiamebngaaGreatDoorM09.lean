/- order: String. -/
import Derived.Test.YtfkamoiamebngaaGreatDoorM08
import Derived.Test.YtfkamoiamebngaaGreatDoorM05
namespace Go.Proofs.YtfkamoiamebngaaGreatDoor.BroW
open Go.RowKit Go.Proofs.YtfkamoiamebngaaGreatDoorW.PrintWords Go.Proofs.YtfkamoiamebngaaGreatDoorW.PrintMore Go.Proofs.YtfkamoiamebngaaGreatDoor.Fr Go.Proofs.YtfkamoiamebngaaGreatDoor.ScrW Go.Proofs.YtfkamoiamebngaaGreatDoor.ScrP Go.Proofs.YtfkamoiamebngaaGreatDoor.Mod
set_option linter.unusedVariables false
set_option linter.unusedSimpArgs false

/-- the blocks of the library's variables -/
def libB (i : Nat) : Prop := Tryz.prog.globalNamed "internal/strconv.uint64pow10" = some i ∨ Tryz.prog.globalNamed "strconv.ErrSyntax" = some i ∨ Tryz.prog.globalNamed "strconv.ErrRange" = some i
def LibOK (w : World) : Prop := Lib.TabIs Tryz.prog w "internal/strconv.uint64pow10" .u64 Lib.pow10Tab ∧ (∃ tp p, w.var? Tryz.prog "strconv.ErrSyntax" = some #[.iface tp p]) ∧ (∃ tp p, w.var? Tryz.prog "strconv.ErrRange" = some #[.iface tp p])
theorem var_fr {S : Nat → Prop} {w w1 : World} (hF : Fr S w w1) {n : String} {cs : Array Value} (h : w.var? Tryz.prog n = some cs) (hS : ∀ i, Tryz.prog.globalNamed n = some i → ¬ S i) : w1.var? Tryz.prog n = some cs := by
  unfold World.var? at h ⊢
  cases hg : Tryz.prog.globalNamed n with
  | none => rw [hg] at h; cases h
  | some g =>
    rw [hg] at h
    simp only [Option.bind_some] at h ⊢
    cases hb : w.heap[g]? with
    | none => rw [hb] at h; cases h
    | some o =>
      have hlt : g < w.heap.size := by
        rcases Nat.lt_or_ge g w.heap.size with h1 | h1
        · exact h1
        · rw [Array.getElem?_eq_none h1] at hb; cases hb
      rw [hF.block g hlt (hS g hg)]
      exact h
theorem LibOK.fr {S : Nat → Prop} {w w1 : World} (h : LibOK w) (hF : Fr S w w1) (hS : ∀ i, libB i → ¬ S i) : LibOK w1 := by
  obtain ⟨h1, ⟨t2, p2, h2⟩, ⟨t3, p3, h3⟩⟩ := h
  exact ⟨var_fr hF h1 (fun i hi => hS i (.inl hi)), ⟨t2, p2, var_fr hF h2 (fun i hi => hS i (.inr (.inl hi)))⟩, ⟨t3, p3, var_fr hF h3 (fun i hi => hS i (.inr (.inr hi)))⟩⟩
theorem fmt_calls (n : Int) (h0 : -9223372036854775808 ≤ n) (h1 : n ≤ 9223372036854775807) (w : World) (h : LibOK w) :
    Calls Tryz.prog 162 #[.int .i64 n, .int .i64 10] w fun e w' => e = .returned (.string (strL (Lib.itoa n))) ∧ Fr nope w w' := by
  refine (Tryz.strconv_FormatInt_10 n h0 h1 w h.1).mono ?_
  rintro e w1 ⟨rfl, k, os, rfl⟩
  exact ⟨rfl, ((Fr.refl nope w).drewN k).trans (fr_grow _ os) (fun _ _ h => h)⟩
theorem words_cell {w : World} {b : Nat} (h : WordsAt w b) (j : Nat) (hj : j < 11) : w.cell? ⟨b, j, none⟩ = some (.string (strL (wordsL.getD j []))) := by
  rw [blk_cell h j]
  match j, hj with
  | 0, _ | 1, _ | 2, _ | 3, _ | 4, _ | 5, _ | 6, _ | 7, _ | 8, _ | 9, _ | 10, _ => rfl

theorem strL_append (a b : List UInt8) : strL (a ++ b) = strL a ++ strL b := by
  apply ByteArray.ext
  simp [strL]
theorem itoa_size (n : Int) (h0 : 0 ≤ n) (h1 : n ≤ 1099511627776) : (strL (Lib.itoa n)).size ≤ 13 := by
  have h : (strL (Lib.itoa n)).size = (Lib.itoa n).length := rfl
  rw [h]
  unfold Lib.itoa
  rw [if_neg (by omega), Lib.decDigits_length]
  have : ∀ m u : Nat, u < 10 ^ (m + 1) → Lib.nDigits u ≤ m + 1 := by
    intro m
    induction m with
    | zero => intro u hu; rw [Lib.nDigits_small (by simpa using hu)]; exact Nat.le_refl _
    | succ m ih =>
      intro u hu
      by_cases hs : u < 10
      · rw [Lib.nDigits_small hs]; omega
      · rw [Lib.nDigits_big hs]
        have := ih (u / 10) (by rw [Nat.pow_succ] at hu; omega)
        omega
  exact this 12 _ (by omega)
theorem words_size (j : Nat) : (strL (wordsL.getD j [])).size ≤ 7 := by
  rcases Nat.lt_or_ge j 11 with h | h
  · match j, h with
    | 0, _ | 1, _ | 2, _ | 3, _ | 4, _ | 5, _ | 6, _ | 7, _ | 8, _ | 9, _ | 10, _ => decide
  · rw [List.getD_eq_getElem?_getD, List.getElem?_eq_none (by simpa [wordsL] using h)]; decide

set_option maxRecDepth 100000 in
set_option maxHeartbeats 2000000 in
theorem ordStr_calls (k n : Int) (w : World) (h : LibOK w) : Calls Tryz.prog 142 #[.agg #[.int .i64 k, .int .i64 n]] w fun e w' => e = .returned (.string (strL (ordStr k n))) ∧ Fr nope w w' := by
  have HL := Aside0.mk h
  unfold ordStr
  clear h
  by_cases hr : ordB k n = true
  case neg =>
    rw [if_neg hr]
    have hr : ordB k n = false := by simpa using hr
    go_enter Tryz.func142, Tryz.ntmps142
    go_wp2_with (first | (go_at_call 138; refine (words_calls _).mono ?_; rintro e w1 ⟨rfl, _, hf1⟩; have hB1 := hf1.blk (blk_new w (.cells #[.int .i64 k, .int .i64 n] 195)) (fun h => h); have c0 : w1.cell? ⟨w.heap.size, 0, none⟩ = some (.int .i64 k) := (blk_cell hB1 0).trans rfl; have c1 : w1.cell? ⟨w.heap.size, 1, none⟩ = some (.int .i64 n) := (blk_cell hB1 1).trans rfl; have HF1 := Aside0.mk (((Fr.refl nope w).alloc (.cells #[.int .i64 k, .int .i64 n] 195)).trans hf1 (fun i _ h => h.elim)); have hs1 : w.heap.size < w1.heap.size := blk_lt hB1; clear hf1 hB1) | (go_at_call 161; refine (ordRight_calls k n _).mono ?_; rintro e w2 ⟨rfl, hf2⟩; rw [hr]; have HF2 := Aside0.mk (HF1.out.trans hf2 (fun i _ h => h.elim)); clear hf2))
    go_returns
    exact ⟨rfl, HF2.out⟩
  rw [if_pos hr]
  have hkn : 1 ≤ k ∧ k ≤ 11 ∧ 0 ≤ n ∧ n ≤ 1099511627776 := by
    unfold ordB at hr
    simp at hr
    omega
  obtain ⟨hk1, hk2, hn1, hn2⟩ := hkn
  obtain ⟨j, rfl⟩ : ∃ j : Nat, k = (j : Int) + 1 := ⟨(k - 1).toNat, by omega⟩
  have hj : j < 11 := by omega
  have hwr : IntKind.i64.wrap ((j : Int) + 1 - 1) = j := by rw [IntKind.wrap_i64]; omega
  have hwr2 : (j : Int) + 1 - 1 = j := by omega
  have hwr3 : IntKind.i64.wrap (j : Int) = j := by rw [IntKind.wrap_i64]; omega
  rw [show ((j : Int) + 1 - 1).toNat = j by omega]
  obtain ⟨wd, hwd⟩ : ∃ l, l = wordsL.getD j [] := ⟨_, rfl⟩
  rw [← hwd]
  have HWD := Aside0.mk hwd
  clear hwd
  by_cases h6 : (j : Int) + 1 < 6
  · rw [if_pos h6]
    have t6 : decide ((j : Int) + 1 < 6) = true := decide_eq_true h6
    clear h6 hk1 hk2
    go_enter Tryz.func142, Tryz.ntmps142
    go_wp2_with (first | (go_at_call 138; refine (words_calls _).mono ?_; rintro e w1 ⟨rfl, hW1, hf1⟩; rw [World.size_alloc] at hW1; have HW1 := Aside0.mk hW1; have hB1 := hf1.blk (blk_new w (.cells #[.int .i64 ((j : Int) + 1), .int .i64 n] 195)) (fun h => h); have HB1 := Aside0.mk hB1; have c0 : w1.cell? ⟨w.heap.size, 0, none⟩ = some (.int .i64 ((j : Int) + 1)) := (blk_cell hB1 0).trans rfl; have c1 : w1.cell? ⟨w.heap.size, 1, none⟩ = some (.int .i64 n) := (blk_cell hB1 1).trans rfl; have HF1 := Aside0.mk (((Fr.refl nope w).alloc (.cells #[.int .i64 ((j : Int) + 1), .int .i64 n] 195)).trans hf1 (fun i _ h => h.elim)); have hs1 : w.heap.size < w1.heap.size := blk_lt hB1; clear hf1 hB1 hW1) | (go_at_call 161; refine (ordRight_calls _ n _).mono ?_; rintro e w2 ⟨rfl, hf2⟩; rw [hr]; have hB2 := hf2.blk HB1.out (fun h => h); have d0 : w2.cell? ⟨w.heap.size, 0, none⟩ = some (.int .i64 ((j : Int) + 1)) := (blk_cell hB2 0).trans rfl; have hW2 := hf2.blk HW1.out (fun h => h); have d1 := words_cell hW2 j hj; rw [← HWD.out] at d1; have hs2 : w.heap.size < w2.heap.size := blk_lt hB2; have HF2 := Aside0.mk (HF1.out.trans hf2 (fun i _ h => h.elim)); clear hf2 hB2 hW2 c0 c1))
    go_returns
    exact ⟨rfl, HF2.out⟩
  · rw [if_neg h6]
    have t6 : decide ((j : Int) + 1 < 6) = false := decide_eq_false h6
    clear h6 hk1 hk2
    go_enter Tryz.func142, Tryz.ntmps142
    go_wp2_with (first | (go_at_call 138; refine (words_calls _).mono ?_; rintro e w1 ⟨rfl, hW1, hf1⟩; rw [World.size_alloc] at hW1; have HW1 := Aside0.mk hW1; have hB1 := hf1.blk (blk_new w (.cells #[.int .i64 ((j : Int) + 1), .int .i64 n] 195)) (fun h => h); have HB1 := Aside0.mk hB1; have c0 : w1.cell? ⟨w.heap.size, 0, none⟩ = some (.int .i64 ((j : Int) + 1)) := (blk_cell hB1 0).trans rfl; have c1 : w1.cell? ⟨w.heap.size, 1, none⟩ = some (.int .i64 n) := (blk_cell hB1 1).trans rfl; have HF1 := Aside0.mk (((Fr.refl nope w).alloc (.cells #[.int .i64 ((j : Int) + 1), .int .i64 n] 195)).trans hf1 (fun i _ h => h.elim)); have hs1 : w.heap.size < w1.heap.size := blk_lt hB1; clear hf1 hB1 hW1) | (go_at_call 161; refine (ordRight_calls _ n _).mono ?_; rintro e w2 ⟨rfl, hf2⟩; rw [hr]; have hB2 := hf2.blk HB1.out (fun h => h); have HB2 := Aside0.mk hB2; have d0 : w2.cell? ⟨w.heap.size, 0, none⟩ = some (.int .i64 ((j : Int) + 1)) := (blk_cell hB2 0).trans rfl; have hW2 := hf2.blk HW1.out (fun h => h); have HW2 := Aside0.mk hW2; have hs2 : w.heap.size < w2.heap.size := blk_lt hB2; have HF2 := Aside0.mk (HF1.out.trans hf2 (fun i _ h => h.elim)); clear hf2 hB2 hW2 c0 c1))
    have hz1 : (strL wd).size ≤ 7 := by rw [HWD.out]; exact words_size j
    have hz2 := itoa_size n hn1 hn2
    have hc1 : ¬ 9223372036854775807 < (strL wd).size + 1 := by omega
    have hc2 : ¬ 9223372036854775807 < (strL wd).size + 1 + (strL (Lib.itoa n)).size := by omega
    have hc3 : (j : Int) < 11 := by omega
    have hc4 : (0 : Int) ≤ (j : Int) := by omega
    clear hz1 hz2
    have HK : Aside0 (∀ w', Fr nope w2 w' → w'.cell? ⟨w.heap.size, 0, none⟩ = some (.int .i64 ((j : Int) + 1)) ∧ w'.cell? ⟨w.heap.size, 1, none⟩ = some (.int .i64 n) ∧ w'.cell? ⟨w.heap.size + 1, j, none⟩ = some (.string (strL wd)) ∧ Fr nope w2 w') :=
      ⟨fun w' hF => ⟨(blk_cell (hF.blk HB2.out (fun h => h)) 0).trans rfl, (blk_cell (hF.blk HB2.out (fun h => h)) 1).trans rfl, by rw [HWD.out]; exact words_cell (hF.blk HW2.out (fun h => h)) j hj, hF⟩⟩
    clear d0
    go_region_held3 (fun w' => w'.cell? ⟨w.heap.size, 0, none⟩ = some (.int .i64 ((j : Int) + 1)) ∧ w'.cell? ⟨w.heap.size, 1, none⟩ = some (.int .i64 n) ∧ w'.cell? ⟨w.heap.size + 1, j, none⟩ = some (.string (strL wd)) ∧ Fr nope w2 w')
      (first | exact HK.out _ (Fr.refl nope w2).drew | exact HK.out _ HF3.out | fail)
      (first | (go_at_call 162; have hq := fmt_calls n (by omega) (by omega) w2.drew (HL.out.fr (HF2.out.trans (Fr.refl nope w2).drew (fun _ _ h => h)) (fun _ _ h => h)); (refine hq.mono ?_); rintro e3 w3 ⟨rfl, hf3⟩; have HF3 := Aside0.mk ((Fr.refl nope w2).drew.trans hf3 (fun _ _ h => h)); clear hf3) | fail)
    all_goals
      go_wp2
      go_returns
      refine ⟨?_, HF2.out.trans HF3.out (fun _ _ h => h)⟩
      rw [strL_append, strL_append]
      rfl
end Go.Proofs.YtfkamoiamebngaaGreatDoor.BroW

/- order: Parse. -/
namespace Go.Proofs.YtfkamoiamebngaaGreatDoor.BroW
open Go.RowKit Go.Proofs.YtfkamoiamebngaaGreatDoorW.PrintWords Go.Proofs.YtfkamoiamebngaaGreatDoorW.PrintMore Go.Proofs.YtfkamoiamebngaaGreatDoor.Fr Go.Proofs.YtfkamoiamebngaaGreatDoor.ScrW Go.Proofs.YtfkamoiamebngaaGreatDoor.ScrP Go.Proofs.YtfkamoiamebngaaGreatDoor.Mod
set_option linter.unusedVariables false
set_option linter.unusedSimpArgs false

theorem pint_ok (s : ByteArray) (hs : s.size ≤ 1000000) (v : Int) (hv : Lib.parseIntB 64 s.data.toList = .ok v) (w : World) :
    Calls Tryz.prog 141 #[.string s, .int .i64 10, .int .i64 64] w fun e w' => e = .returned (.tuple #[.int .i64 v, .nilIface]) ∧ Fr nope w w' := by
  refine (Tryz.strconv_ParseInt_10_at64_ok s (by omega) v hv w).mono ?_
  rintro e w1 ⟨rfl, h⟩
  refine ⟨rfl, ?_⟩
  rcases h with rfl | ⟨t, rfl⟩
  · exact Fr.refl _ _
  · exact ⟨rfl, rfl, rfl, by unfold Lib.bytesWorld World.freeze; simp, fun i hi _ => Lib.bytesWorld_at_old w 5 t i hi⟩
theorem pint_bad (s : ByteArray) (hs : s.size ≤ 1000000) (hv : ∀ v, Lib.parseIntB 64 s.data.toList ≠ .ok v) (w : World) (h : LibOK w) :
    Calls Tryz.prog 141 #[.string s, .int .i64 10, .int .i64 64] w fun e w' => ∃ x t N, e = .returned (.tuple #[.int .i64 x, .iface t (.pointer (some ⟨N, 0, none⟩))]) ∧ Fr nope w w' := by
  obtain ⟨h1, ⟨t2, p2, h2⟩, ⟨t3, p3, h3⟩⟩ := h
  rcases hp : Lib.parseIntB 64 s.data.toList with v | _ | _
  · exact absurd hp (hv v)
  · refine (Tryz.strconv_ParseInt_10_at64_syntax_var s (by omega) hv (by rw [hp]; intro e; cases e) t2 p2 w h2).mono ?_
    rintro e w1 ⟨N, rfl, _, _, hb⟩
    exact ⟨_, _, N, rfl, (Fr.refl nope w).below hb⟩
  · refine (Tryz.strconv_ParseInt_10_at64_range_var s (by omega) hp t3 p3 w h3).mono ?_
    rintro e w1 ⟨N, rfl, _, _, hb⟩
    exact ⟨_, _, N, rfl, (Fr.refl nope w).below hb⟩
theorem strL_inj {a b : List UInt8} : strL a = strL b ↔ a = b := by
  constructor
  · intro h
    have := congrArg (fun x : ByteArray => x.data.toList) h
    simpa [strL] using this
  · intro h; rw [h]
theorem idx_kind (l : List UInt8) : Lib.idxOfS (wordsL.map strL) (strL l) + 1 = kindOf l := by
  have key : ∀ (L : List (List UInt8)) (i : Nat), Lib.idxFromS (L.map strL) (strL l) i + 1 = ((L.findIdx? fun x => x == l).map fun k => ((i + k : Nat) : Int) + 1).getD 0 := by
    intro L
    induction L with
    | nil => intro i; rfl
    | cons a L ih =>
      intro i
      simp only [List.map_cons, Lib.idxFromS, List.findIdx?_cons]
      by_cases h : a = l
      · simp [h]
      · have h1 : ¬ strL a = strL l := fun e => h (strL_inj.1 e)
        have h2 : (a == l) = false := beq_eq_false_iff_ne.2 h
        rw [if_neg h1, ih, h2]
        cases L.findIdx? fun x => x == l with
        | none => rfl
        | some k => simp; omega
  have := key wordsL 0
  unfold Lib.idxOfS kindOf
  rw [this]
  cases wordsL.findIdx? fun x => x == l with
  | none => rfl
  | some k => simp
theorem index_calls (l : List UInt8) (b : Nat) (w : World) (h : WordsAt w b) : Calls Tryz.prog 140 #[.slice (some ⟨b, 0, none⟩) 11 11, .string (strL l)] w fun e w' => e = .returned (.int .i64 (Lib.idxOfS (wordsL.map strL) (strL l))) ∧ w' = w := by
  have := Tryz.slices_Index_string b 0 11 11 (wordsL.map strL) (strL l) w (by decide) (by decide) (fun j hj => by
    have hj : j < 11 := by simpa [wordsL] using hj
    rw [Nat.zero_add, words_cell h j hj]
    match j, hj with
    | 0, _ | 1, _ | 2, _ | 3, _ | 4, _ | 5, _ | 6, _ | 7, _ | 8, _ | 9, _ | 10, _ => rfl)
  rw [List.take_of_length_le (by decide)] at this
  exact this
/-- what Parse hands back -/
def parseV (s : ByteArray) : Value := match parseO s with
  | some p => .tuple #[.agg #[.int .i64 p.1, .int .i64 p.2], .int .i64 0]
  | none => .tuple #[.agg #[.int .i64 0, .int .i64 0], .int .i64 8]

def badV : Value := .tuple #[.agg #[.int .i64 0, .int .i64 0], .int .i64 8]
theorem parseV_at (s : ByteArray) (v : Int) (h : ((Lib.cut s.data.toList [32]).2.1 = [] ∧ v = 0) ∨ (¬ (Lib.cut s.data.toList [32]).2.1 = [] ∧ Lib.parseIntB 64 (Lib.cut s.data.toList [32]).2.1 = .ok v)) : parseV s = if s.data.toList = [] ∨ ordStr (kindOf (Lib.cut s.data.toList [32]).1) v ≠ s.data.toList then badV else .tuple #[.agg #[.int .i64 (kindOf (Lib.cut s.data.toList [32]).1), .int .i64 v], .int .i64 0] := by
  have key : parseO s = if s.data.toList = [] then none else if ordStr (kindOf (Lib.cut s.data.toList [32]).1) v = s.data.toList then some (kindOf (Lib.cut s.data.toList [32]).1, v) else none := by
    unfold parseO
    simp only
    rcases h with ⟨h, rfl⟩ | ⟨h, h2⟩
    · rw [if_pos h]
    · rw [if_neg h, h2]
  unfold parseV
  rw [key]
  by_cases h1 : s.data.toList = []
  · simp [h1, badV]
  · by_cases h2 : ordStr (kindOf (Lib.cut s.data.toList [32]).1) v = s.data.toList
    · simp [h1, h2]
    · simp [h1, h2, badV]
theorem toList_strL (l : List UInt8) : (strL l).toList = l := by rw [ByteArray.toList_eq]; rfl

set_option maxRecDepth 100000 in
set_option maxHeartbeats 4000000 in
theorem parse_calls (s : ByteArray) (hs : s.size ≤ 1000000) (w : World) (h : LibOK w) : Calls Tryz.prog 117 #[.string s] w fun e w' => e = .returned (parseV s) ∧ Fr nope w w' := by
  have HL := Aside0.mk h
  obtain ⟨wd, hwd⟩ : ∃ l, l = (Lib.cut s.data.toList [32]).1 := ⟨_, rfl⟩
  obtain ⟨nm, hnm⟩ : ∃ l, l = (Lib.cut s.data.toList [32]).2.1 := ⟨_, rfl⟩
  obtain ⟨fd, hfd⟩ : ∃ l, l = (Lib.cut s.data.toList [32]).2.2 := ⟨_, rfl⟩
  obtain ⟨pv, hpv⟩ : ∃ p, p = parseV s := ⟨_, rfl⟩
  rw [← hpv]
  have HPV := Aside0.mk hpv
  have HC := Aside0.mk (And.intro hwd (And.intro hnm hfd))
  have hnl : nm.length ≤ s.size := by
    rw [hnm]; unfold Lib.cut
    split
    · simp only [List.length_drop]
      have : s.data.toList.length = s.size := rfl
      omega
    · simp
  have hns : (strL nm).size ≤ 1000000 := by
    have : (strL nm).size = nm.length := rfl
    omega
  obtain ⟨kd, hkd⟩ : ∃ k, k = kindOf wd := ⟨_, rfl⟩
  have HKD := Aside0.mk hkd
  have hix : ∃ i, Lib.idxOfS (wordsL.map strL) (strL wd) = i ∧ IntKind.i64.wrap (i + 1) = kd := by
    refine ⟨_, rfl, ?_⟩
    rw [idx_kind, ← hkd]
    have : 0 ≤ kd ∧ kd ≤ 11 := by
      rw [hkd]; unfold kindOf
      cases hf : wordsL.findIdx? fun x => x == wd with
      | none => simp
      | some k =>
        have := (List.findIdx?_eq_some_iff_getElem.1 hf).1
        have hl : wordsL.length = 11 := rfl
        simp
        omega
    rw [IntKind.wrap_i64]; omega
  obtain ⟨ix, hix, hwx⟩ := hix
  have HIX := Aside0.mk hix
  clear h hwd hnm hfd hpv hkd hix hnl
  have hcut : ∀ w1, Calls Tryz.prog 139 #[.string s, .string ⟨#[32]⟩] w1 fun e w' => e = .returned (.tuple #[.string (strL wd), .string (strL nm), .bool fd]) ∧ Fr nope w1 w' := by
    intro w1
    have := cut_calls s 32 w1 hs
    obtain ⟨h1, h2, h3⟩ := HC.out
    rw [h1, h2, h3]
    exact this
  have HCUT := Aside0.mk hcut
  clear hcut
  by_cases h0 : nm = []
  · have t0 : (strL nm).toList.isEmpty = true := by rw [h0, toList_strL]; rfl
    have hp := HPV.out
    rw [parseV_at s 0 (.inl ⟨by rw [← HC.out.2.1]; exact h0, rfl⟩), ← HC.out.1, ← HKD.out] at hp
    have hst : s.toList = s.data.toList := ByteArray.toList_eq s
    by_cases h1 : s.data.toList = []
    · rw [if_pos (.inl h1)] at hp
      rw [hp]
      have t1 : s.toList.isEmpty = true := by rw [hst, h1]; rfl
      unfold badV
      clear hp h0 h1 hst
      go_enter Tryz.func117, Tryz.ntmps117
      go_wp2_with (first | (go_at_call 138; refine (words_calls _).mono ?_; rintro e w1 ⟨rfl, hW1, hf1⟩; rw [World.size_alloc] at hW1; have HW1 := Aside0.mk hW1; have hB1 := hf1.blk (blk_new w (.cells #[.int .i64 0, .int .i64 0] 195)) (fun h => h); have HB1 := Aside0.mk hB1; have HF1 := Aside0.mk (((Fr.refl nope w).alloc (.cells #[.int .i64 0, .int .i64 0] 195)).trans hf1 (fun i _ h => h.elim)); have hs1 : w.heap.size < w1.heap.size := blk_lt hB1; clear hf1 hB1 hW1) | (go_at_call 139; refine (HCUT.out _).mono ?_; rintro e w2 ⟨rfl, hf2⟩; have HW2 := Aside0.mk (hf2.blk HW1.out (fun h => h)); have HB2 := Aside0.mk (hf2.blk HB1.out (fun h => h)); have hs2 : w.heap.size < w2.heap.size := blk_lt HB2.out; have HF2 := Aside0.mk (HF1.out.trans hf2 (fun i _ h => h.elim)); have z2 : ∀ o, (w2.alloc o).frozen? ⟨w.heap.size, 0, none⟩ = false ∧ (w2.alloc o).frozen? ⟨w.heap.size, 1, none⟩ = false := fun o => ⟨blk_frozen (blk_alloc HB2.out o) 0, blk_frozen (blk_alloc HB2.out o) 1⟩; have z20 := fun o => (z2 o).1; have z21 := fun o => (z2 o).2; have z22 : ∀ o u, ((w2.setCell ⟨w.heap.size, 0, none⟩ u).alloc o).frozen? ⟨w.heap.size, 1, none⟩ = false := fun o u => blk_frozen (blk_alloc (blk_set HB2.out 0 u) o) 1; have y20 : w2.cell? ⟨w.heap.size, 0, none⟩ = some (.int .i64 0) := (blk_cell HB2.out 0).trans rfl; have y21 : w2.cell? ⟨w.heap.size, 1, none⟩ = some (.int .i64 0) := (blk_cell HB2.out 1).trans rfl; have HF3 := Aside0.mk (HF2.out.alloc (.cells #[.int .i64 kd, .int .i64 0] 195)); clear z2; clear hf2) | (go_at_call 140; refine (index_calls wd _ _ HW2.out).mono ?_; rintro e w3 ⟨rfl, hw⟩; have hw := hw.symm; subst hw; rw [HIX.out]))
      obtain ⟨W9, hW9⟩ : ∃ W9, W9 = ((w2.setCell ⟨w.heap.size, 0, none⟩ (.int .i64 0)).setCell ⟨w.heap.size, 1, none⟩ (.int .i64 0)).alloc (.cells #[.int .i64 kd, .int .i64 0] 195) := ⟨_, rfl⟩
      rw [← hW9]
      have hB9 := blk_alloc (blk_set (blk_set HB2.out 0 (.int .i64 0)) 1 (.int .i64 0)) (.cells #[.int .i64 kd, .int .i64 0] 195)
      rw [← hW9] at hB9
      have p0 : W9.cell? ⟨w.heap.size, 0, none⟩ = some (.int .i64 0) := (blk_cell hB9 0).trans rfl
      have p1 : W9.cell? ⟨w.heap.size, 1, none⟩ = some (.int .i64 0) := (blk_cell hB9 1).trans rfl
      refine bodyPost_ret (by simp [results, Tryz.results117, go_sem, p0, p1]; try rfl) rfl ?_
      rw [hW9]
      exact ⟨rfl, ((HF2.out.set (fun h => by omega) 0 _).set (fun h => by omega) 1 _).alloc _⟩
    · have t1 : s.toList.isEmpty = false := by rw [hst]; simpa using h1
      by_cases h2 : ordStr kd 0 = s.data.toList
      · rw [if_neg (by simp [h1, h2])] at hp
        rw [hp]
        have t2 : ((strL (ordStr kd 0)).toList == s.toList) = true := by rw [toList_strL, hst, h2]; simp
        clear hp h0 h1 hst h2
        go_enter Tryz.func117, Tryz.ntmps117
        go_wp2_with (first | (go_at_call 138; refine (words_calls _).mono ?_; rintro e w1 ⟨rfl, hW1, hf1⟩; rw [World.size_alloc] at hW1; have HW1 := Aside0.mk hW1; have hB1 := hf1.blk (blk_new w (.cells #[.int .i64 0, .int .i64 0] 195)) (fun h => h); have HB1 := Aside0.mk hB1; have HF1 := Aside0.mk (((Fr.refl nope w).alloc (.cells #[.int .i64 0, .int .i64 0] 195)).trans hf1 (fun i _ h => h.elim)); have hs1 : w.heap.size < w1.heap.size := blk_lt hB1; clear hf1 hB1 hW1) | (go_at_call 139; refine (HCUT.out _).mono ?_; rintro e w2 ⟨rfl, hf2⟩; have HW2 := Aside0.mk (hf2.blk HW1.out (fun h => h)); have HB2 := Aside0.mk (hf2.blk HB1.out (fun h => h)); have hs2 : w.heap.size < w2.heap.size := blk_lt HB2.out; have HF2 := Aside0.mk (HF1.out.trans hf2 (fun i _ h => h.elim)); have z2 : ∀ o, (w2.alloc o).frozen? ⟨w.heap.size, 0, none⟩ = false ∧ (w2.alloc o).frozen? ⟨w.heap.size, 1, none⟩ = false := fun o => ⟨blk_frozen (blk_alloc HB2.out o) 0, blk_frozen (blk_alloc HB2.out o) 1⟩; have z20 := fun o => (z2 o).1; have z21 := fun o => (z2 o).2; have z22 : ∀ o u, ((w2.setCell ⟨w.heap.size, 0, none⟩ u).alloc o).frozen? ⟨w.heap.size, 1, none⟩ = false := fun o u => blk_frozen (blk_alloc (blk_set HB2.out 0 u) o) 1; have y20 : w2.cell? ⟨w.heap.size, 0, none⟩ = some (.int .i64 0) := (blk_cell HB2.out 0).trans rfl; have y21 : w2.cell? ⟨w.heap.size, 1, none⟩ = some (.int .i64 0) := (blk_cell HB2.out 1).trans rfl; have HF3 := Aside0.mk (HF2.out.alloc (.cells #[.int .i64 kd, .int .i64 0] 195)); clear z2; clear hf2) | (go_at_call 140; refine (index_calls wd _ _ HW2.out).mono ?_; rintro e w3 ⟨rfl, hw⟩; have hw := hw.symm; subst hw; rw [HIX.out]) | (go_at_call 142; refine (ordStr_calls kd 0 _ (HL.out.fr HF3.out (fun _ _ h => h))).mono ?_; rintro e w4 ⟨rfl, hf4⟩; have hB4 := hf4.blk (blk_alloc HB2.out _) (fun h => h); have hO4 := hf4.blk (blk_new w2 _) (fun h => h); have r0 : w4.cell? ⟨w.heap.size, 0, none⟩ = some (.int .i64 0) := (blk_cell hB4 0).trans rfl; have r1 : w4.cell? ⟨w.heap.size, 1, none⟩ = some (.int .i64 0) := (blk_cell hB4 1).trans rfl; have q0 := blk_frozen hB4 0; have q1 := blk_frozen hB4 1; have o0 : w4.cell? ⟨w2.heap.size, 0, none⟩ = some (.int .i64 kd) := (blk_cell hO4 0).trans rfl; have o1 : w4.cell? ⟨w2.heap.size, 1, none⟩ = some (.int .i64 0) := (blk_cell hO4 1).trans rfl; have hs4 : w.heap.size < w4.heap.size := blk_lt hB4; have hs5 : w2.heap.size < w4.heap.size := blk_lt hO4; have HB4 := Aside0.mk hB4; have HF4 := Aside0.mk (HF3.out.trans hf4 (fun i _ h => h.elim)); clear hf4 hB4 hO4))
        obtain ⟨W9, hW9, p0, p1⟩ := set2 HB4.out (.int .i64 kd) (.int .i64 0)
        rw [← hW9]
        refine bodyPost_ret (by simp [results, Tryz.results117, go_sem, p0, p1]; try rfl) rfl ?_
        rw [hW9]
        exact ⟨rfl, (HF4.out.set (fun h => by omega) 0 _).set (fun h => by omega) 1 _⟩
      · rw [if_pos (.inr h2)] at hp
        rw [hp]
        unfold badV
        have t2 : ((strL (ordStr kd 0)).toList == s.toList) = false := by rw [toList_strL, hst]; exact beq_eq_false_iff_ne.2 h2
        clear hp h0 h1 hst h2
        go_enter Tryz.func117, Tryz.ntmps117
        go_wp2_with (first | (go_at_call 138; refine (words_calls _).mono ?_; rintro e w1 ⟨rfl, hW1, hf1⟩; rw [World.size_alloc] at hW1; have HW1 := Aside0.mk hW1; have hB1 := hf1.blk (blk_new w (.cells #[.int .i64 0, .int .i64 0] 195)) (fun h => h); have HB1 := Aside0.mk hB1; have HF1 := Aside0.mk (((Fr.refl nope w).alloc (.cells #[.int .i64 0, .int .i64 0] 195)).trans hf1 (fun i _ h => h.elim)); have hs1 : w.heap.size < w1.heap.size := blk_lt hB1; clear hf1 hB1 hW1) | (go_at_call 139; refine (HCUT.out _).mono ?_; rintro e w2 ⟨rfl, hf2⟩; have HW2 := Aside0.mk (hf2.blk HW1.out (fun h => h)); have HB2 := Aside0.mk (hf2.blk HB1.out (fun h => h)); have hs2 : w.heap.size < w2.heap.size := blk_lt HB2.out; have HF2 := Aside0.mk (HF1.out.trans hf2 (fun i _ h => h.elim)); have z2 : ∀ o, (w2.alloc o).frozen? ⟨w.heap.size, 0, none⟩ = false ∧ (w2.alloc o).frozen? ⟨w.heap.size, 1, none⟩ = false := fun o => ⟨blk_frozen (blk_alloc HB2.out o) 0, blk_frozen (blk_alloc HB2.out o) 1⟩; have z20 := fun o => (z2 o).1; have z21 := fun o => (z2 o).2; have z22 : ∀ o u, ((w2.setCell ⟨w.heap.size, 0, none⟩ u).alloc o).frozen? ⟨w.heap.size, 1, none⟩ = false := fun o u => blk_frozen (blk_alloc (blk_set HB2.out 0 u) o) 1; have y20 : w2.cell? ⟨w.heap.size, 0, none⟩ = some (.int .i64 0) := (blk_cell HB2.out 0).trans rfl; have y21 : w2.cell? ⟨w.heap.size, 1, none⟩ = some (.int .i64 0) := (blk_cell HB2.out 1).trans rfl; have HF3 := Aside0.mk (HF2.out.alloc (.cells #[.int .i64 kd, .int .i64 0] 195)); clear z2; clear hf2) | (go_at_call 140; refine (index_calls wd _ _ HW2.out).mono ?_; rintro e w3 ⟨rfl, hw⟩; have hw := hw.symm; subst hw; rw [HIX.out]) | (go_at_call 142; refine (ordStr_calls kd 0 _ (HL.out.fr HF3.out (fun _ _ h => h))).mono ?_; rintro e w4 ⟨rfl, hf4⟩; have hB4 := hf4.blk (blk_alloc HB2.out _) (fun h => h); have hO4 := hf4.blk (blk_new w2 _) (fun h => h); have r0 : w4.cell? ⟨w.heap.size, 0, none⟩ = some (.int .i64 0) := (blk_cell hB4 0).trans rfl; have r1 : w4.cell? ⟨w.heap.size, 1, none⟩ = some (.int .i64 0) := (blk_cell hB4 1).trans rfl; have q0 := blk_frozen hB4 0; have q1 := blk_frozen hB4 1; have o0 : w4.cell? ⟨w2.heap.size, 0, none⟩ = some (.int .i64 kd) := (blk_cell hO4 0).trans rfl; have o1 : w4.cell? ⟨w2.heap.size, 1, none⟩ = some (.int .i64 0) := (blk_cell hO4 1).trans rfl; have hs4 : w.heap.size < w4.heap.size := blk_lt hB4; have hs5 : w2.heap.size < w4.heap.size := blk_lt hO4; have HB4 := Aside0.mk hB4; have HF4 := Aside0.mk (HF3.out.trans hf4 (fun i _ h => h.elim)); clear hf4 hB4 hO4))
        obtain ⟨W9, hW9, p0, p1⟩ := set2 HB4.out (.int .i64 0) (.int .i64 0)
        rw [← hW9]
        refine bodyPost_ret (by simp [results, Tryz.results117, go_sem, p0, p1]; try rfl) rfl ?_
        rw [hW9]
        exact ⟨rfl, (HF4.out.set (fun h => by omega) 0 _).set (fun h => by omega) 1 _⟩
  · have t0 : (strL nm).toList.isEmpty = false := by rw [toList_strL]; simpa using h0
    by_cases hv : ∃ v, Lib.parseIntB 64 nm = .ok v
    · obtain ⟨v, hv⟩ := hv
      have hp := HPV.out
      rw [parseV_at s v (.inr ⟨by rw [← HC.out.2.1]; exact h0, by rw [← HC.out.2.1]; exact hv⟩), ← HC.out.1, ← HKD.out] at hp
      have hst : s.toList = s.data.toList := ByteArray.toList_eq s
      have h1 : ¬ s.data.toList = [] := by
        intro e
        apply h0
        rw [HC.out.2.1, e]
        rfl
      have t1 : s.toList.isEmpty = false := by rw [hst]; simpa using h1
      by_cases h2 : ordStr kd v = s.data.toList
      · rw [if_neg (by simp [h1, h2])] at hp
        rw [hp]
        have t2 : ((strL (ordStr kd v)).toList == s.toList) = true := by rw [toList_strL, hst, h2]; simp
        clear hp h0 h1 hst h2
        go_enter Tryz.func117, Tryz.ntmps117
        go_wp2_with (first | (go_at_call 138; refine (words_calls _).mono ?_; rintro e w1 ⟨rfl, hW1, hf1⟩; rw [World.size_alloc] at hW1; have HW1 := Aside0.mk hW1; have hB1 := hf1.blk (blk_new w (.cells #[.int .i64 0, .int .i64 0] 195)) (fun h => h); have HB1 := Aside0.mk hB1; have HF1 := Aside0.mk (((Fr.refl nope w).alloc (.cells #[.int .i64 0, .int .i64 0] 195)).trans hf1 (fun i _ h => h.elim)); have hs1 : w.heap.size < w1.heap.size := blk_lt hB1; clear hf1 hB1 hW1) | (go_at_call 139; refine (HCUT.out _).mono ?_; rintro e w2 ⟨rfl, hf2⟩; have HW2 := Aside0.mk (hf2.blk HW1.out (fun h => h)); have HB2 := Aside0.mk (hf2.blk HB1.out (fun h => h)); have hs2 : w.heap.size < w2.heap.size := blk_lt HB2.out; have HF2 := Aside0.mk (HF1.out.trans hf2 (fun i _ h => h.elim)); clear hf2) | (go_at_call 140; refine (index_calls wd _ _ HW2.out).mono ?_; rintro e w3 ⟨rfl, hw⟩; have hw := hw.symm; subst hw; rw [HIX.out]) | (go_at_call 141; refine (pint_ok (strL nm) hns v hv _).mono ?_; rintro e w4 ⟨rfl, hf4⟩; have hf5 := ((Fr.refl nope w2).alloc (.cells #[.int .i64 kd, .int .i64 0] 195)).trans hf4 (fun i _ h => h.elim); have hB4 := hf5.blk HB2.out (fun h => h); have hO4 := hf4.blk (blk_new w2 _) (fun h => h); have r0 : w4.cell? ⟨w.heap.size, 0, none⟩ = some (.int .i64 0) := (blk_cell hB4 0).trans rfl; have r1 : w4.cell? ⟨w.heap.size, 1, none⟩ = some (.int .i64 0) := (blk_cell hB4 1).trans rfl; have o0 : w4.cell? ⟨w2.heap.size, 0, none⟩ = some (.int .i64 kd) := (blk_cell hO4 0).trans rfl; have o1 : w4.cell? ⟨w2.heap.size, 1, none⟩ = some (.int .i64 0) := (blk_cell hO4 1).trans rfl; have p1 := blk_frozen hO4 1; have hne : w2.heap.size ≠ w.heap.size := (by omega); have hs4 : w.heap.size < w4.heap.size := blk_lt hB4; have hs5 : w2.heap.size < w4.heap.size := blk_lt hO4; have HB4 := Aside0.mk (blk_other (b := w2.heap.size) hB4 (by omega) 1 (.int .i64 v)); have HO4 := Aside0.mk (blk_set hO4 1 (.int .i64 v)); have HF4 := Aside0.mk ((HF2.out.trans hf5 (fun i _ h => h.elim)).set (g := w2.heap.size) (fun h => by omega) 1 (.int .i64 v)); clear hf4 hf5 hB4 hO4) | (go_at_call 142; refine (ordStr_calls kd v _ (HL.out.fr HF4.out (fun _ _ h => h))).mono ?_; rintro e w6 ⟨rfl, hf6⟩; have hB6 := hf6.blk HB4.out (fun h => h); have hO6 := hf6.blk HO4.out (fun h => h); have r60 : w6.cell? ⟨w.heap.size, 0, none⟩ = some (.int .i64 0) := (blk_cell hB6 0).trans rfl; have r61 : w6.cell? ⟨w.heap.size, 1, none⟩ = some (.int .i64 0) := (blk_cell hB6 1).trans rfl; have q0 := blk_frozen hB6 0; have q1 := blk_frozen hB6 1; have o60 : w6.cell? ⟨w2.heap.size, 0, none⟩ = some (.int .i64 kd) := (blk_cell hO6 0).trans rfl; have o61 : w6.cell? ⟨w2.heap.size, 1, none⟩ = some (.int .i64 v) := (blk_cell hO6 1).trans rfl; have hs6 : w.heap.size < w6.heap.size := blk_lt hB6; have hs7 : w2.heap.size < w6.heap.size := blk_lt hO6; have HB6 := Aside0.mk hB6; have HF6 := Aside0.mk (HF4.out.trans hf6 (fun i _ h => h.elim)); clear hf6 hB6 hO6))
        obtain ⟨W9, hW9, p0, p1⟩ := set2 HB6.out (.int .i64 kd) (.int .i64 v)
        rw [← hW9]
        refine bodyPost_ret (by simp [results, Tryz.results117, go_sem, p0, p1]; try rfl) rfl ?_
        rw [hW9]
        exact ⟨rfl, (HF6.out.set (fun h => by omega) 0 _).set (fun h => by omega) 1 _⟩
      · rw [if_pos (.inr h2)] at hp
        rw [hp]
        unfold badV
        have t2 : ((strL (ordStr kd v)).toList == s.toList) = false := by rw [toList_strL, hst]; exact beq_eq_false_iff_ne.2 h2
        clear hp h0 h1 hst h2
        go_enter Tryz.func117, Tryz.ntmps117
        go_wp2_with (first | (go_at_call 138; refine (words_calls _).mono ?_; rintro e w1 ⟨rfl, hW1, hf1⟩; rw [World.size_alloc] at hW1; have HW1 := Aside0.mk hW1; have hB1 := hf1.blk (blk_new w (.cells #[.int .i64 0, .int .i64 0] 195)) (fun h => h); have HB1 := Aside0.mk hB1; have HF1 := Aside0.mk (((Fr.refl nope w).alloc (.cells #[.int .i64 0, .int .i64 0] 195)).trans hf1 (fun i _ h => h.elim)); have hs1 : w.heap.size < w1.heap.size := blk_lt hB1; clear hf1 hB1 hW1) | (go_at_call 139; refine (HCUT.out _).mono ?_; rintro e w2 ⟨rfl, hf2⟩; have HW2 := Aside0.mk (hf2.blk HW1.out (fun h => h)); have HB2 := Aside0.mk (hf2.blk HB1.out (fun h => h)); have hs2 : w.heap.size < w2.heap.size := blk_lt HB2.out; have HF2 := Aside0.mk (HF1.out.trans hf2 (fun i _ h => h.elim)); clear hf2) | (go_at_call 140; refine (index_calls wd _ _ HW2.out).mono ?_; rintro e w3 ⟨rfl, hw⟩; have hw := hw.symm; subst hw; rw [HIX.out]) | (go_at_call 141; refine (pint_ok (strL nm) hns v hv _).mono ?_; rintro e w4 ⟨rfl, hf4⟩; have hf5 := ((Fr.refl nope w2).alloc (.cells #[.int .i64 kd, .int .i64 0] 195)).trans hf4 (fun i _ h => h.elim); have hB4 := hf5.blk HB2.out (fun h => h); have hO4 := hf4.blk (blk_new w2 _) (fun h => h); have r0 : w4.cell? ⟨w.heap.size, 0, none⟩ = some (.int .i64 0) := (blk_cell hB4 0).trans rfl; have r1 : w4.cell? ⟨w.heap.size, 1, none⟩ = some (.int .i64 0) := (blk_cell hB4 1).trans rfl; have o0 : w4.cell? ⟨w2.heap.size, 0, none⟩ = some (.int .i64 kd) := (blk_cell hO4 0).trans rfl; have o1 : w4.cell? ⟨w2.heap.size, 1, none⟩ = some (.int .i64 0) := (blk_cell hO4 1).trans rfl; have p1 := blk_frozen hO4 1; have hne : w2.heap.size ≠ w.heap.size := (by omega); have hs4 : w.heap.size < w4.heap.size := blk_lt hB4; have hs5 : w2.heap.size < w4.heap.size := blk_lt hO4; have HB4 := Aside0.mk (blk_other (b := w2.heap.size) hB4 (by omega) 1 (.int .i64 v)); have HO4 := Aside0.mk (blk_set hO4 1 (.int .i64 v)); have HF4 := Aside0.mk ((HF2.out.trans hf5 (fun i _ h => h.elim)).set (g := w2.heap.size) (fun h => by omega) 1 (.int .i64 v)); clear hf4 hf5 hB4 hO4) | (go_at_call 142; refine (ordStr_calls kd v _ (HL.out.fr HF4.out (fun _ _ h => h))).mono ?_; rintro e w6 ⟨rfl, hf6⟩; have hB6 := hf6.blk HB4.out (fun h => h); have hO6 := hf6.blk HO4.out (fun h => h); have r60 : w6.cell? ⟨w.heap.size, 0, none⟩ = some (.int .i64 0) := (blk_cell hB6 0).trans rfl; have r61 : w6.cell? ⟨w.heap.size, 1, none⟩ = some (.int .i64 0) := (blk_cell hB6 1).trans rfl; have q0 := blk_frozen hB6 0; have q1 := blk_frozen hB6 1; have o60 : w6.cell? ⟨w2.heap.size, 0, none⟩ = some (.int .i64 kd) := (blk_cell hO6 0).trans rfl; have o61 : w6.cell? ⟨w2.heap.size, 1, none⟩ = some (.int .i64 v) := (blk_cell hO6 1).trans rfl; have hs6 : w.heap.size < w6.heap.size := blk_lt hB6; have hs7 : w2.heap.size < w6.heap.size := blk_lt hO6; have HB6 := Aside0.mk hB6; have HF6 := Aside0.mk (HF4.out.trans hf6 (fun i _ h => h.elim)); clear hf6 hB6 hO6))
        obtain ⟨W9, hW9, p0, p1⟩ := set2 HB6.out (.int .i64 0) (.int .i64 0)
        rw [← hW9]
        refine bodyPost_ret (by simp [results, Tryz.results117, go_sem, p0, p1]; try rfl) rfl ?_
        rw [hW9]
        exact ⟨rfl, (HF6.out.set (fun h => by omega) 0 _).set (fun h => by omega) 1 _⟩
    · have hv' : ∀ v, Lib.parseIntB 64 (strL nm).data.toList ≠ .ok v := fun v e => hv ⟨v, e⟩
      have hp : pv = .tuple #[.agg #[.int .i64 0, .int .i64 0], .int .i64 8] := by
        rw [HPV.out]
        have : parseO s = none := by
          unfold parseO
          simp only
          rw [← HC.out.2.1, if_neg h0]
          rcases hq : Lib.parseIntB 64 nm with v | _ | _
          · exact absurd ⟨v, hq⟩ hv
          · rfl
          · rfl
        unfold parseV; rw [this]
      rw [hp]
      clear hp hv h0
      go_enter Tryz.func117, Tryz.ntmps117
      go_wp2_with (first | (go_at_call 138; refine (words_calls _).mono ?_; rintro e w1 ⟨rfl, hW1, hf1⟩; rw [World.size_alloc] at hW1; have HW1 := Aside0.mk hW1; have hB1 := hf1.blk (blk_new w (.cells #[.int .i64 0, .int .i64 0] 195)) (fun h => h); have HB1 := Aside0.mk hB1; have HF1 := Aside0.mk (((Fr.refl nope w).alloc (.cells #[.int .i64 0, .int .i64 0] 195)).trans hf1 (fun i _ h => h.elim)); have hs1 : w.heap.size < w1.heap.size := blk_lt hB1; clear hf1 hB1 hW1) | (go_at_call 139; refine (HCUT.out _).mono ?_; rintro e w2 ⟨rfl, hf2⟩; have HW2 := Aside0.mk (hf2.blk HW1.out (fun h => h)); have HB2 := Aside0.mk (hf2.blk HB1.out (fun h => h)); have hs2 : w.heap.size < w2.heap.size := blk_lt HB2.out; have HF2 := Aside0.mk (HF1.out.trans hf2 (fun i _ h => h.elim)); clear hf2) | (go_at_call 140; refine (index_calls wd _ _ HW2.out).mono ?_; rintro e w3 ⟨rfl, hw⟩; have hw := hw.symm; subst hw; rw [HIX.out]) | (go_at_call 141; refine (pint_bad (strL nm) hns hv' _ (HL.out.fr (HF2.out.alloc _) (fun _ _ h => h))).mono ?_; rintro e w4 ⟨x4, t4, N4, rfl, hf4⟩; have hf5 := ((Fr.refl nope w2).alloc (.cells #[.int .i64 kd, .int .i64 0] 195)).trans hf4 (fun i _ h => h.elim); have hB4 := hf5.blk HB2.out (fun h => h); have r0 : w4.cell? ⟨w.heap.size, 0, none⟩ = some (.int .i64 0) := (blk_cell hB4 0).trans rfl; have r1 : w4.cell? ⟨w.heap.size, 1, none⟩ = some (.int .i64 0) := (blk_cell hB4 1).trans rfl; have q0 := blk_frozen hB4 0; have q1 := blk_frozen hB4 1; have hs4 : w.heap.size < w4.heap.size := blk_lt hB4; have HB4 := Aside0.mk hB4; have HF4 := Aside0.mk (HF2.out.trans hf5 (fun i _ h => h.elim)); clear hf4 hf5 hB4))
      obtain ⟨W9, hW9, p0, p1⟩ := set2 HB4.out (.int .i64 0) (.int .i64 0)
      rw [← hW9]
      refine bodyPost_ret (by simp [results, Tryz.results117, go_sem, p0, p1]; try rfl) rfl ?_
      rw [hW9]
      exact ⟨rfl, (HF4.out.set (fun h => by omega) 0 _).set (fun h => by omega) 1 _⟩
end Go.Proofs.YtfkamoiamebngaaGreatDoor.BroW

/- msg: number, Frame, Put. -/
namespace Go.Proofs.YtfkamoiamebngaaGreatDoor.BroW
open Go.RowKit Go.Proofs.YtfkamoiamebngaaGreatDoorW.PrintWords Go.Proofs.YtfkamoiamebngaaGreatDoorW.PrintMore Go.Proofs.YtfkamoiamebngaaGreatDoor.Fr Go.Proofs.YtfkamoiamebngaaGreatDoor.ScrW Go.Proofs.YtfkamoiamebngaaGreatDoor.ScrP Go.Proofs.YtfkamoiamebngaaGreatDoor.Mod
set_option linter.unusedVariables false
set_option linter.unusedSimpArgs false

set_option maxHeartbeats 2000000 in
set_option maxRecDepth 100000 in
theorem number6_calls (n : Int) (h0 : 0 ≤ n) (h1 : n ≤ 1099511627776) (base : Nat) (A : Option Addr) (cp : Nat) (xs : List Int) (w : World) (hb : base ≤ w.heap.size) (hl : xs.length ≤ 1000000)
    (ho : w.ownsRow base 5 1 (.slice A xs.length cp) xs.length (nums .u8 xs)) :
    Calls Tryz.prog 75 #[.slice A xs.length cp, .int .i64 n] w fun e w' => ∃ v1, e = .returned v1 ∧ w'.ownsRow base 5 1 v1 (xs ++ be6 n).length (nums .u8 (xs ++ be6 n)) ∧ Fr (rowOf (.slice A xs.length cp)) w w' ∧ AtRow w v1 (.slice A xs.length cp) := by
  have HO0 := Aside0.mk ho
  have HF0 : Aside0 (Fr (rowOf (.slice A xs.length cp)) w w) := ⟨Fr.refl _ _⟩
  have HT0 : Aside0 (AtRow w (.slice A xs.length cp) (.slice A xs.length cp)) := ⟨.inl rfl⟩
  clear ho
  go_enter Tryz.func75, Tryz.ntmps75
  go_wp2
  refine wp_loop_rounds 7 ?_
  obtain ⟨x1, hx1⟩ : ∃ x, x = xs ++ [n / 1099511627776] := ⟨_, rfl⟩
  have hlx1 : x1.length ≤ xs.length + 1 := by rw [hx1]; simp
  have HX1 := Aside0.mk hx1
  clear hx1
  rw [rounds_succ]
  go_wp2_with (first | ((with_reducible refine gate_builtin (b := .append) (xs := #[.tmp 10, .tmp 15]) rfl ?_); at_builtin; refine app_nums rfl (.tmp 10) (.tmp 15) 29 5 .u8 1 rfl Tryz.underlying29 info5 (by decide) base (.slice A xs.length cp) xs [n / 1099511627776] _ 1 1 rfl rfl ?aO ?aR ?aB ?aL ?_; (case aO => exact HO0.out.alloc _); (case aR => exact reads_one w .u8 (n / 1099511627776) 5); (case aB => exact (by rw [World.size_alloc]; omega)); (case aL => exact (by omega)); intro v1 w1 ho1 hf1 hat1; rw [← HX1.out] at ho1; obtain ⟨A1, c1, rfl⟩ := own_slice ho1; have HO1 := Aside0.mk ho1; have HF1 := Aside0.mk (num_step HF0.out HO0.out HT0.out hf1 hb (fun _ h => h)); have HT1 := Aside0.mk (num_at HF0.out HT0.out hat1); have hs1 : w.heap.size ≤ w1.heap.size := (by have h9 := hf1.size; rw [World.size_alloc] at h9; omega); clear ho1 hf1 hat1))
  obtain ⟨x2, hx2⟩ : ∃ x, x = x1 ++ [n / 4294967296 % 256] := ⟨_, rfl⟩
  have hlx2 : x2.length ≤ x1.length + 1 := by rw [hx2]; simp
  have HX2 := Aside0.mk hx2
  clear hx2
  rw [rounds_succ]
  go_wp2_with (first | ((with_reducible refine gate_builtin (b := .append) (xs := #[.tmp 10, .tmp 15]) rfl ?_); at_builtin; refine app_nums rfl (.tmp 10) (.tmp 15) 29 5 .u8 1 rfl Tryz.underlying29 info5 (by decide) base (.slice A1 x1.length c1) x1 [n / 4294967296 % 256] _ 1 1 rfl rfl ?aO ?aR ?aB ?aL ?_; (case aO => exact HO1.out.alloc _); (case aR => exact reads_one w1 .u8 (n / 4294967296 % 256) 5); (case aB => exact (by rw [World.size_alloc]; omega)); (case aL => exact (by omega)); intro v2 w2 ho1 hf1 hat1; rw [← HX2.out] at ho1; obtain ⟨A2, c2, rfl⟩ := own_slice ho1; have HO2 := Aside0.mk ho1; have HF2 := Aside0.mk (num_step HF1.out HO1.out HT1.out hf1 hb (fun _ h => h)); have HT2 := Aside0.mk (num_at HF1.out HT1.out hat1); have hs2 : w1.heap.size ≤ w2.heap.size := (by have h9 := hf1.size; rw [World.size_alloc] at h9; omega); clear ho1 hf1 hat1))
  obtain ⟨x3, hx3⟩ : ∃ x, x = x2 ++ [n / 16777216 % 256] := ⟨_, rfl⟩
  have hlx3 : x3.length ≤ x2.length + 1 := by rw [hx3]; simp
  have HX3 := Aside0.mk hx3
  clear hx3
  rw [rounds_succ]
  go_wp2_with (first | ((with_reducible refine gate_builtin (b := .append) (xs := #[.tmp 10, .tmp 15]) rfl ?_); at_builtin; refine app_nums rfl (.tmp 10) (.tmp 15) 29 5 .u8 1 rfl Tryz.underlying29 info5 (by decide) base (.slice A2 x2.length c2) x2 [n / 16777216 % 256] _ 1 1 rfl rfl ?aO ?aR ?aB ?aL ?_; (case aO => exact HO2.out.alloc _); (case aR => exact reads_one w2 .u8 (n / 16777216 % 256) 5); (case aB => exact (by rw [World.size_alloc]; omega)); (case aL => exact (by omega)); intro v3 w3 ho1 hf1 hat1; rw [← HX3.out] at ho1; obtain ⟨A3, c3, rfl⟩ := own_slice ho1; have HO3 := Aside0.mk ho1; have HF3 := Aside0.mk (num_step HF2.out HO2.out HT2.out hf1 hb (fun _ h => h)); have HT3 := Aside0.mk (num_at HF2.out HT2.out hat1); have hs3 : w2.heap.size ≤ w3.heap.size := (by have h9 := hf1.size; rw [World.size_alloc] at h9; omega); clear ho1 hf1 hat1))
  obtain ⟨x4, hx4⟩ : ∃ x, x = x3 ++ [n / 65536 % 256] := ⟨_, rfl⟩
  have hlx4 : x4.length ≤ x3.length + 1 := by rw [hx4]; simp
  have HX4 := Aside0.mk hx4
  clear hx4
  rw [rounds_succ]
  go_wp2_with (first | ((with_reducible refine gate_builtin (b := .append) (xs := #[.tmp 10, .tmp 15]) rfl ?_); at_builtin; refine app_nums rfl (.tmp 10) (.tmp 15) 29 5 .u8 1 rfl Tryz.underlying29 info5 (by decide) base (.slice A3 x3.length c3) x3 [n / 65536 % 256] _ 1 1 rfl rfl ?aO ?aR ?aB ?aL ?_; (case aO => exact HO3.out.alloc _); (case aR => exact reads_one w3 .u8 (n / 65536 % 256) 5); (case aB => exact (by rw [World.size_alloc]; omega)); (case aL => exact (by omega)); intro v4 w4 ho1 hf1 hat1; rw [← HX4.out] at ho1; obtain ⟨A4, c4, rfl⟩ := own_slice ho1; have HO4 := Aside0.mk ho1; have HF4 := Aside0.mk (num_step HF3.out HO3.out HT3.out hf1 hb (fun _ h => h)); have HT4 := Aside0.mk (num_at HF3.out HT3.out hat1); have hs4 : w3.heap.size ≤ w4.heap.size := (by have h9 := hf1.size; rw [World.size_alloc] at h9; omega); clear ho1 hf1 hat1))
  obtain ⟨x5, hx5⟩ : ∃ x, x = x4 ++ [n / 256 % 256] := ⟨_, rfl⟩
  have hlx5 : x5.length ≤ x4.length + 1 := by rw [hx5]; simp
  have HX5 := Aside0.mk hx5
  clear hx5
  rw [rounds_succ]
  go_wp2_with (first | ((with_reducible refine gate_builtin (b := .append) (xs := #[.tmp 10, .tmp 15]) rfl ?_); at_builtin; refine app_nums rfl (.tmp 10) (.tmp 15) 29 5 .u8 1 rfl Tryz.underlying29 info5 (by decide) base (.slice A4 x4.length c4) x4 [n / 256 % 256] _ 1 1 rfl rfl ?aO ?aR ?aB ?aL ?_; (case aO => exact HO4.out.alloc _); (case aR => exact reads_one w4 .u8 (n / 256 % 256) 5); (case aB => exact (by rw [World.size_alloc]; omega)); (case aL => exact (by omega)); intro v5 w5 ho1 hf1 hat1; rw [← HX5.out] at ho1; obtain ⟨A5, c5, rfl⟩ := own_slice ho1; have HO5 := Aside0.mk ho1; have HF5 := Aside0.mk (num_step HF4.out HO4.out HT4.out hf1 hb (fun _ h => h)); have HT5 := Aside0.mk (num_at HF4.out HT4.out hat1); have hs5 : w4.heap.size ≤ w5.heap.size := (by have h9 := hf1.size; rw [World.size_alloc] at h9; omega); clear ho1 hf1 hat1))
  obtain ⟨x6, hx6⟩ : ∃ x, x = x5 ++ [n % 256] := ⟨_, rfl⟩
  have hlx6 : x6.length ≤ x5.length + 1 := by rw [hx6]; simp
  have HX6 := Aside0.mk hx6
  clear hx6
  rw [rounds_succ]
  go_wp2_with (first | ((with_reducible refine gate_builtin (b := .append) (xs := #[.tmp 10, .tmp 15]) rfl ?_); at_builtin; refine app_nums rfl (.tmp 10) (.tmp 15) 29 5 .u8 1 rfl Tryz.underlying29 info5 (by decide) base (.slice A5 x5.length c5) x5 [n % 256] _ 1 1 rfl rfl ?aO ?aR ?aB ?aL ?_; (case aO => exact HO5.out.alloc _); (case aR => exact reads_one w5 .u8 (n % 256) 5); (case aB => exact (by rw [World.size_alloc]; omega)); (case aL => exact (by omega)); intro v6 w6 ho1 hf1 hat1; rw [← HX6.out] at ho1; obtain ⟨A6, c6, rfl⟩ := own_slice ho1; have HO6 := Aside0.mk ho1; have HF6 := Aside0.mk (num_step HF5.out HO5.out HT5.out hf1 hb (fun _ h => h)); have HT6 := Aside0.mk (num_at HF5.out HT5.out hat1); have hs6 : w5.heap.size ≤ w6.heap.size := (by have h9 := hf1.size; rw [World.size_alloc] at h9; omega); clear ho1 hf1 hat1))
  rw [rounds_succ]
  go_wp2
  go_returns
  have hfin : x6 = xs ++ be6 n := by
    rw [HX6.out, HX5.out, HX4.out, HX3.out, HX2.out, HX1.out]
    unfold be6
    rw [show n / 1099511627776 % 256 = n / 1099511627776 by omega]
    simp
  have h1 := HO6.out
  rw [hfin] at h1
  exact ⟨_, rfl, by rw [hfin]; exact h1, HF6.out, HT6.out⟩

end Go.Proofs.YtfkamoiamebngaaGreatDoor.BroW

/- msg: Frame, Put. -/
namespace Go.Proofs.YtfkamoiamebngaaGreatDoor.BroW
open Go.RowKit Go.Proofs.YtfkamoiamebngaaGreatDoorW.PrintWords Go.Proofs.YtfkamoiamebngaaGreatDoorW.PrintMore Go.Proofs.YtfkamoiamebngaaGreatDoor.Fr Go.Proofs.YtfkamoiamebngaaGreatDoor.ScrW Go.Proofs.YtfkamoiamebngaaGreatDoor.ScrP Go.Proofs.YtfkamoiamebngaaGreatDoor.Mod
set_option linter.unusedVariables false
set_option linter.unusedSimpArgs false

theorem mgB_facts {m : Mg} (h : mgB m = true) : shO m.k = true ∧ 1 ≤ m.k ∧ m.k ≤ 15 ∧ (m.t.size : Int) ≤ shT m.k ∧ 0 ≤ m.a ∧ m.a ≤ 1099511627776 ∧ 0 ≤ m.b ∧ m.b ≤ 1099511627776 ∧ (0 < shN m.k ∨ m.a = 0) ∧ (1 < shN m.k ∨ m.b = 0) := by
  unfold mgB at h
  simp only [Bool.and_eq_true, Bool.or_eq_true, decide_eq_true_eq, beq_iff_eq] at h
  obtain ⟨h1, h2, h3, h4, h5, h6, h7, h8⟩ := h
  have h9 := h1
  unfold shO at h9
  rw [decide_eq_true_eq] at h9
  exact ⟨h1, h9.1, h9.2, h2, h3, h5, h4, h6, h7, h8⟩
def numsOf (m : Mg) (k : Nat) : List Int := ((([m.a, m.b] : List Int).take k).map be6).flatten
theorem numsOf_succ (m : Mg) (k : Nat) (x : Int) (h : k < 2) (hx : ([m.a, m.b] : List Int).getD k 0 = x) : numsOf m (k + 1) = numsOf m k ++ be6 x := by
  obtain rfl | rfl : k = 0 ∨ k = 1 := by omega
  all_goals (subst hx; simp [numsOf])
theorem numsOf_len (m : Mg) (k : Nat) (h : k ≤ 2) : (numsOf m k).length = 6 * k := by
  obtain rfl | rfl | rfl : k = 0 ∨ k = 1 ∨ k = 2 := by omega
  all_goals rfl
theorem mBody_eq (m : Mg) : mBody m = numsOf m (shN m.k).toNat ++ bytesOf m.t := by
  have h := shN_b m.k
  unfold mBody
  obtain h0 | h0 | h0 : shN m.k = 0 ∨ shN m.k = 1 ∨ shN m.k = 2 := by omega
  all_goals (rw [h0]; simp [numsOf])
theorem mBody_len (m : Mg) (h : mgB m = true) : (mBody m).length ≤ 2048 := by
  have h0 := mgB_facts h
  have hn := shN_b m.k
  rw [mBody_eq, List.length_append, numsOf_len _ _ (by omega), bytesOf_length]
  have ht := h0.2.2.2.1
  unfold shN shT at *
  repeat' split at ht
  all_goals (repeat' split)
  all_goals first | omega | (exfalso; omega)

theorem bytesOf_isB (s : ByteArray) : isB (bytesOf s) := by
  intro x hx
  unfold bytesOf at hx
  rw [List.mem_map] at hx
  obtain ⟨c, _, rfl⟩ := hx
  have := c.toNat_lt
  omega
theorem be6_isB (n : Int) : isB (be6 n) := by
  intro x hx
  unfold be6 at hx
  simp only [List.mem_cons, List.not_mem_nil, or_false] at hx
  omega
theorem mBody_isB (m : Mg) : isB (mBody m) := by
  intro x hx
  unfold mBody at hx
  rcases List.mem_append.1 hx with hx | hx
  · rcases List.mem_append.1 hx with hx | hx
    · split at hx
      · exact be6_isB _ x hx
      · simp at hx
    · split at hx
      · exact be6_isB _ x hx
      · simp at hx
  · exact bytesOf_isB m.t x hx
/-- what Frame leaves -/
def MFrame (m : Mg) (w : World) (e : Ending) (w' : World) : Prop :=
  (mgB m = false ∧ e = .returned (.tuple #[.agg #[.int .u8 0, .slice none 0 0], .bool false]) ∧ Fr nope w w') ∨
  (mgB m = true ∧ ∃ v, e = .returned (.tuple #[.agg #[.int .u8 m.k, v], .bool true]) ∧ OwnB w w' v (mBody m) ∧ Fr nope w w')

set_option maxRecDepth 100000 in
set_option maxHeartbeats 2000000 in
theorem mframe_calls (m : Mg) (w : World) (ht : m.t.size ≤ 140737488351232) :
    Calls Tryz.prog 50 #[mgV m] w (MFrame m w) := by
  unfold mgV
  have hn := shN_b m.k
  obtain ⟨n, hn1⟩ : ∃ n : Nat, shN m.k = (n : Int) := ⟨(shN m.k).toNat, by omega⟩
  obtain ⟨t, ht1⟩ : ∃ t, shT m.k = t := ⟨_, rfl⟩
  obtain ⟨o, ho1⟩ : ∃ o, shO m.k = o := ⟨_, rfl⟩
  have H := Aside0.mk (And.intro hn1 (And.intro ht1 ho1))
  have hn2 : n ≤ 2 := by omega
  clear hn1 ht1 ho1 hn
  by_cases hg : mgB m = true
  case neg =>
    have hg' : mgB m = false := by simpa using hg
    have HG := Aside0.mk hg'
    clear hg hg'
    go_enter Tryz.func50, Tryz.ntmps50
    go_wp2_with (first | (go_at_call 30; refine (shape_calls m.k _).mono ?_; rintro e w1 ⟨rfl, hw1⟩; have hw1 := hw1.symm; subst hw1; rw [H.out.1, H.out.2.1, H.out.2.2]) | (go_at_call 31; refine (mright_calls m _ ht).mono ?_; rintro e w2 ⟨rfl, hw2⟩; rw [HG.out]; have hB := blk_below (blk_second w _ _) hw2; have g0 : w2.cell? ⟨w.heap.size + 1, 0, none⟩ = some (.int .u8 0) := (blk_cell hB 0).trans rfl; have g1 : w2.cell? ⟨w.heap.size + 1, 1, none⟩ = some (.slice none 0 0) := (blk_cell hB 1).trans rfl; have f0 := blk_frozen hB 0; have f1 := blk_frozen hB 1; have HB := Aside0.mk hB; have HW := Aside0.mk (((((Fr.refl nope w).alloc _).alloc _)).below hw2); clear hB hw2))
    obtain ⟨W4, hW4, r0, r1⟩ := set2 HB.out (.int .u8 0) (.slice none 0 0)
    rw [← hW4]
    refine bodyPost_ret (by simp [results, Tryz.results50, go_sem, r0, r1]; try rfl) rfl ?_
    rw [hW4]
    exact .inl ⟨HG.out, rfl, (HW.out.set (fun h => by omega) 0 _).set (fun h => by omega) 1 _⟩
  obtain ⟨ho, hk1, hk2, htt, ha0, ha1, hb0, hb1, hra, hrb⟩ := mgB_facts hg
  have HG := Aside0.mk hg
  have HRA := Aside0.mk (And.intro hra hrb)
  have htb := shT_b m.k
  have hts : (m.t.size : Int) ≤ 2042 := by omega
  have HTT := Aside0.mk htt
  clear hg ho hra hrb htt htb
  go_enter Tryz.func50, Tryz.ntmps50
  go_wp2_with (first | (go_at_call 30; refine (shape_calls m.k _).mono ?_; rintro e w1 ⟨rfl, hw1⟩; have hw1 := hw1.symm; subst hw1; rw [H.out.1, H.out.2.1, H.out.2.2]) | (go_at_call 31; refine (mright_calls m _ ht).mono ?_; rintro e w2 ⟨rfl, hw2⟩; rw [HG.out]; have hB := blk_below (blk_second w _ _) hw2; have hM := blk_below (blk_alloc (blk_new w (.cells (mgCells m) 39)) (.cells #[.int .u8 0, .slice none 0 0] 50)) hw2; have q0 : w2.cell? ⟨w.heap.size, 0, none⟩ = some (.int .i64 m.k) := (blk_cell hM 0).trans rfl; have q1 : w2.cell? ⟨w.heap.size, 1, none⟩ = some (.int .i64 m.a) := (blk_cell hM 1).trans rfl; have q2 : w2.cell? ⟨w.heap.size, 2, none⟩ = some (.int .i64 m.b) := (blk_cell hM 2).trans rfl; have q3 : w2.cell? ⟨w.heap.size, 3, none⟩ = some (.string m.t) := (blk_cell hM 3).trans rfl; have HB := Aside0.mk hB; have HM := Aside0.mk hM; have HW := Aside0.mk (((((Fr.refl nope w).alloc _).alloc _)).below hw2); have hs2 : w.heap.size + 1 < w2.heap.size := blk_lt hB; clear hB hM hw2))
  obtain ⟨W3, hW3⟩ : ∃ W3, W3 = w2.alloc (.cells #[.int .i64 m.a, .int .i64 m.b] 2) := ⟨_, rfl⟩
  rw [← hW3]
  have hP : W3.heap[w2.heap.size]? = some (.cells #[.int .i64 m.a, .int .i64 m.b] 2 (0, 0)) := by rw [hW3]; exact blk_new w2 _
  have HF3 : Aside0 (Fr nope w W3) := ⟨by rw [hW3]; exact HW.out.alloc _⟩
  have HB3 : Aside0 (W3.heap[w.heap.size + 1]? = some (.cells #[.int .u8 0, .slice none 0 0] 50 (0, 0))) := ⟨by rw [hW3]; exact blk_alloc HB.out _⟩
  have HM3 : Aside0 (W3.heap[w.heap.size]? = some (.cells (mgCells m) 39 (0, 0))) := ⟨by rw [hW3]; exact blk_alloc HM.out _⟩
  have HP := Aside0.mk hP
  have hs3 : w.heap.size + 1 < W3.heap.size := blk_lt HB3.out
  clear hP hW3 HW HB HM q0 q1 q2 q3
  go_loopw [7, 29] (fun v7 v29 wr => ∃ (k : Nat) (xs : List Int) (A7 : Option Addr) (c7 : Nat), v29 = .int .i64 k ∧ k ≤ n ∧ v7 = .slice A7 xs.length c7 ∧ Aside0 (xs = numsOf m k) ∧ xs.length ≤ 12 ∧ Aside0 (wr.ownsRow W3.heap.size 5 1 (.slice A7 xs.length c7) xs.length (nums .u8 xs)) ∧ Aside0 (Fr nope W3 wr)) (fun _ i _ => n - (intOf i).toNat)
  case atStart => exact ⟨0, [], none, 0, rfl, Nat.zero_le _, rfl, ⟨rfl⟩, Nat.zero_le _, ⟨World.ownsRow_nil _ _ _ _⟩, ⟨Fr.refl _ _⟩⟩
  case round =>
    obtain ⟨k, xs, A7, c7, rfl, hk, rfl, HX, hxl, HO, HF⟩ := hrel
    by_cases hlt : k < n
    · obtain ⟨x, hxe⟩ : ∃ x, ([m.a, m.b] : List Int).getD k 0 = x := ⟨_, rfl⟩
      have hx : 0 ≤ x ∧ x ≤ 1099511627776 := by
        obtain rfl | rfl : k = 0 ∨ k = 1 := by omega
        all_goals (simp at hxe; omega)
      have p1 : wr.cell? ⟨w2.heap.size, k, none⟩ = some (.int .i64 x) := by
        refine (blk_cell (HF.out.blk HP.out (fun h => h)) k).trans ?_
        obtain rfl | rfl : k = 0 ∨ k = 1 := by omega
        all_goals (subst hxe; rfl)
      obtain ⟨ys, hys⟩ : ∃ l, l = xs ++ be6 x := ⟨_, rfl⟩
      have HX2 : Aside0 (ys = numsOf m (k + 1)) := ⟨by rw [hys, numsOf_succ m k x (by omega) hxe, HX.out]⟩
      have hyl : ys.length ≤ 12 := by rw [HX2.out, numsOf_len m (k + 1) (by omega)]; omega
      have HYS := Aside0.mk hys
      clear hxe hys
      go_wp2_with (first | (go_at_call 75; refine (number6_calls x hx.1 hx.2 W3.heap.size A7 c7 xs _ HF.out.size (by omega) HO.out).mono ?_; rintro e w3 ⟨v1, rfl, ho1, hf1, hat1⟩; rw [← HYS.out] at ho1; obtain ⟨A1, c1, rfl⟩ := own_slice ho1; have HO1 := Aside0.mk ho1; have HF1 := Aside0.mk (HF.out.trans hf1 (fun i hi hs => absurd (own_old HO.out hs).1 (by omega))); clear ho1 hf1 hat1))
      case roundEnd =>
        refine ⟨⟨k + 1, ys, A1, c1, by push_cast; rfl, by omega, rfl, HX2, hyl, HO1, HF1⟩, ?_⟩
        simp only [intOf]
        omega
    · have hkn : k = n := by omega
      have HXN : Aside0 (xs ++ bytesOf m.t = mBody m) := ⟨by rw [mBody_eq, H.out.1, HX.out, hkn]; rfl⟩
      have hwk : IntKind.u8.wrap m.k = m.k := by rw [wrap_u8]; omega
      have q0 : wr.cell? ⟨w.heap.size, 0, none⟩ = some (.int .i64 m.k) := (blk_cell (HF.out.blk HM3.out (fun h => h)) 0).trans rfl
      have q3 : wr.cell? ⟨w.heap.size, 3, none⟩ = some (.string m.t) := (blk_cell (HF.out.blk HM3.out (fun h => h)) 3).trans rfl
      have HBr := Aside0.mk (HF.out.blk HB3.out (fun h => h))
      have hsr : W3.heap.size ≤ wr.heap.size := HF.out.size
      have HFw := Aside0.mk (frThru HF3.out HF.out)
      have HK : Aside0 (∀ w', Fr (fun i => i = w.heap.size + 1 ∨ W3.heap.size ≤ i) wr w' → w'.cell? ⟨w.heap.size, 0, none⟩ = some (.int .i64 m.k) ∧ w'.cell? ⟨w.heap.size, 3, none⟩ = some (.string m.t) ∧ Fr (fun i => i = w.heap.size + 1 ∨ W3.heap.size ≤ i) wr w') :=
        ⟨fun w' hF => ⟨frCell hF q0 (fun h => by simp only at h; omega), frCell hF q3 (fun h => by simp only at h; omega), hF⟩⟩
      have t1 : decide (k < n) = false := decide_eq_false hlt
      clear hkn hlt
      go_wp2
      go_region_held3 (fun w' => w'.cell? ⟨w.heap.size, 0, none⟩ = some (.int .i64 m.k) ∧ w'.cell? ⟨w.heap.size, 3, none⟩ = some (.string m.t) ∧ Fr (fun i => i = w.heap.size + 1 ∨ W3.heap.size ≤ i) wr w')
        (first | exact HK.out _ (Fr.refl _ wr).drew | exact HK.out _ hF3 | exact HK.out _ ((hF3.set (fun _ => .inl rfl) 0 _).set (fun _ => .inl rfl) 1 _) | fail)
        (first | (refine step_app_str (W := wr.drew) (by rfl) (.tmp 40) (.tmp 42) 29 9 5 (by rfl) Tryz.underlying29 Tryz.underlying9 info5 W3.heap.size (.slice A7 xs.length c7) xs m.t (by rfl) (by rfl) HO.out (by rw [drew_size]; omega) (by omega) ?_; intro v3 w3 ho3 hf3; rw [HXN.out] at ho3; obtain ⟨A3, c3, rfl⟩ := own_slice ho3; have HO3 := Aside0.mk ho3; have hF3 : Fr (fun i => i = w.heap.size + 1 ∨ W3.heap.size ≤ i) wr w3 := (Fr.refl _ wr).drew.trans hf3 (fun i hi hs => .inr (own_old HO.out hs).1); have hB3 := hf3.blk (blk_drew HBr.out) (fun hs => absurd (own_old HO.out hs).1 (by omega)); have HB4 := Aside0.mk hB3; have g0 : w3.cell? ⟨w.heap.size + 1, 0, none⟩ = some (.int .u8 0) := (blk_cell hB3 0).trans rfl; have g1 : w3.cell? ⟨w.heap.size + 1, 1, none⟩ = some (.slice none 0 0) := (blk_cell hB3 1).trans rfl; have f0 := blk_frozen hB3 0; have f1 := blk_frozen hB3 1; clear hB3 ho3 hf3) | fail)
      all_goals go_wp2
      obtain ⟨W4, hW4, r0, r1⟩ := set2 HB4.out (.int .u8 m.k) (.slice A3 (mBody m).length c3)
      rw [← hW4]
      refine bodyPost_ret (by simp [results, Tryz.results50, go_sem, r0, r1]; try rfl) rfl ?_
      rw [hW4]
      have hne : some (w.heap.size + 1) ≠ (Value.slice A3 (mBody m).length c3).ownBlock := fun e => absurd (HO3.out.lt _ e.symm).1 (by omega)
      refine .inr ⟨HG.out, _, rfl, own_setCell (own_setCell (own_base_le HO3.out (by omega)) hne _) hne _, ?_⟩
      exact ((HFw.out.trans hF3 (fun i hi h => by omega)).set (fun h => by omega) 0 _).set (fun h => by omega) 1 _

/-- a message's bytes -/
theorem mput_calls (m : Mg) (w : World) (ht : m.t.size ≤ 140737488351232) :
    Calls Tryz.prog 29 #[.slice none 0 0, mgV m] w fun e w' => ∃ v, e = .returned v ∧ OwnB w w' v (mB m) ∧ Fr nope w w' := by
  have HC := Aside0.mk (fun w => mframe_calls m w ht)
  unfold mgV
  by_cases hg : mgB m = true
  case neg =>
    have HG : Aside0 (mB m = []) := ⟨by unfold mB; rw [if_neg hg]⟩
    have HG2 := Aside0.mk hg
    clear hg
    go_enter Tryz.func29, Tryz.ntmps29
    go_wp2_with (first | (go_at_call 50; refine (HC.out _).mono ?_; rintro e1 w1 (⟨_, rfl, hf1⟩ | ⟨hbad, _⟩); rotate_left; exact absurd hbad HG2.out; have HF1 := Aside0.mk hf1; clear hf1))
    go_returns
    exact ⟨_, rfl, by unfold OwnB; rw [HG.out]; exact World.ownsRow_nil _ _ _ _, frThru ((Fr.refl nope w).alloc _) (HF1.out.alloc _)⟩
  have HG : Aside0 (mB m = frB m.k (mBody m)) := ⟨by unfold mB; rw [if_pos hg]⟩
  have HG2 := Aside0.mk hg
  have hk := mgB_facts hg
  have HK := Aside0.mk (And.intro hk.2.1 hk.2.2.1)
  have HL := Aside0.mk (mBody_len m hg)
  have HB : Aside0 (isB (mBody m)) := ⟨mBody_isB m⟩
  clear hg hk
  go_enter Tryz.func29, Tryz.ntmps29
  go_wp2_with (first | (go_at_call 50; refine (HC.out _).mono ?_; rintro e1 w1 (⟨hbad, _⟩ | ⟨_, v1, rfl, ho1, hf1⟩); exact absurd HG2.out (by rw [hbad]; decide); obtain ⟨A1, c1, rfl⟩ := own_slice ho1; have HO1 := Aside0.mk ho1; have HF1 := Aside0.mk hf1; clear ho1 hf1) | (go_at_call 51; refine (fput_calls m.k (mBody m) A1 c1 _ ⟨by have := HK.out; omega, by have := HK.out; omega⟩ HL.out (((Fr.refl nope w1).alloc _).reads (own_reads' HO1.out) (fun _ _ h => h)) HB.out).mono ?_; rintro e2 w2 ⟨v2, rfl, ho2, hf2⟩; rw [← HG.out] at ho2; obtain ⟨A2, c2, rfl⟩ := own_slice ho2; have HO2 := Aside0.mk ho2; have HF2 := Aside0.mk hf2; clear ho2 hf2))
  go_returns
  have hF : Fr nope w (w1.alloc (.cells #[.int .u8 m.k, .slice A1 (mBody m).length c1] 50)) := (frThru ((Fr.refl nope w).alloc _) HF1.out).alloc _
  exact ⟨_, rfl, own_base_le HO2.out hF.size, frThru hF HF2.out⟩
end Go.Proofs.YtfkamoiamebngaaGreatDoor.BroW

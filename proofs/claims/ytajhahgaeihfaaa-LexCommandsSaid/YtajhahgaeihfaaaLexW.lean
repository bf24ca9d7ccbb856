/- What the lexer's functions do to memory, told by the lexer as a function on lists. -/
import Derived.Test.YtajhahgaeihfaaaProg
import Derived.Test.YtajhahgaeihfaaaFr
import Derived.Test.YtajhahgaeihfaaaLexP
import Derived.WalkKit
import Derived.KernelRfl
import Derived.RowKit3
import Derived.Outline
import Derived.Deep.DeepMust
import Derived.BigQuiet
import Derived.Deep.QuietTactic
namespace Go.Proofs.Ytajhahgaeihfaaa.LexW
open Go.RowKit Go.Proofs.YtajhahgaeihfaaaW.PrintWords Go.Proofs.YtajhahgaeihfaaaW.PrintMore Go.Proofs.Ytajhahgaeihfaaa.Fr Go.Proofs.Ytajhahgaeihfaaa.LexP
set_option linter.unusedVariables false
set_option linter.unusedSimpArgs false

theorem info5 : (Try.prog.info? 5).map (fun i => (i.zero, i.size, i.bytes)) = some (some (.int .u8 0), 1, 1) := by kernel_rfl
theorem info9 : (Try.prog.info? 9).map (fun i => (i.zero, i.size, i.bytes)) = some (some (.string ⟨#[]⟩), 1, 16) := by kernel_rfl

abbrev lexCells (s : LexS) (tv : Value) : Array Value := #[.int .i64 s.st, tv, .bool s.long]
/-- A lexer at block g: its state, and its text in a row of its own from block b0 on. -/
def IsLex (W : World) (b0 g : Nat) (s : LexS) (tv : Value) : Prop :=
  W.heap[g]? = some (.cells #[.int .i64 s.st, tv, .bool s.long] 47 (0, 0)) ∧ W.ownsRow b0 5 1 tv s.text.length (nums .u8 s.text)
/-- A slice of bytes that can be read, none of whose memory lay before. -/
def FreshBytes (w W : World) (v : Value) (xs : List Int) : Prop :=
  ∃ A c, v = .slice A xs.length c ∧ xs.length ≤ c ∧ ReadsInt W .u8 A xs.length xs ∧ ∀ ad, A = some ad → w.heap.size ≤ ad.block

theorem fresh_nil (w W : World) : FreshBytes w W (.slice none 0 0) [] := ⟨none, 0, rfl, Nat.le_refl _, reads_nil W .u8 none, fun _ h => by cases h⟩

theorem new_calls (b0 : Nat) (w : World) :
    Calls Try.prog 14 #[] w fun e w' => e = .returned (.pointer (some ⟨w.heap.size, 0, none⟩)) ∧ IsLex w' b0 w.heap.size lex0 (.slice none 0 0) ∧ Below w.heap.size w w' := by
  go_enter Try.func14, Try.ntmps14
  go_wp2
  go_ret
  exact ⟨rfl, ⟨heap_alloc_new w _, own_nil _ _ _ _⟩, below_alloc (Below.refl _ _) _⟩

theorem begin_calls (s : LexS) (c : Int) (g : Nat) (tv : Value) (b0 : Nat) (w : World) (hL : IsLex w b0 g s tv) (hne : tv.ownBlock ≠ some g) (hs : s.st = 1) :
    Calls Try.prog 19 #[.pointer (some ⟨g, 0, none⟩), .int .u8 c] w fun e w' => ∃ tv' kv, e = .returned kv ∧ IsLex w' b0 g (lexStep s c).1 tv' ∧ FreshBytes w w' kv (lexStep s c).2.1 ∧ (lexStep s c).2.2 = [] ∧ (tv' = tv ∨ tv' = .slice none 0 0) ∧ Fr (only g) w w' := by
  obtain ⟨hb, ho⟩ := hL
  have HB := Aside0.mk hb
  have HO := Aside0.mk ho
  have c0 : w.cell? ⟨g, 0, none⟩ = some (.int .i64 s.st) := (blk_cell hb 0).trans rfl
  have c1 : w.cell? ⟨g, 1, none⟩ = some tv := (blk_cell hb 1).trans rfl
  have c2 : w.cell? ⟨g, 2, none⟩ = some (.bool s.long) := (blk_cell hb 2).trans rfl
  have f0 : w.frozen? ⟨g, 0, none⟩ = false := blk_frozen hb 0
  have f1 : w.frozen? ⟨g, 1, none⟩ = false := blk_frozen hb 1
  have f2 : w.frozen? ⟨g, 2, none⟩ = false := blk_frozen hb 2
  clear hb ho
  by_cases h29 : c = 29
  · subst h29
    have hst : lexStep s 29 = (⟨0, s.text, s.long⟩, [29], []) := by simp [lexStep, hs]
    have HST := Aside0.mk hst
    have HS := Aside0.mk hs
    have HNE := Aside0.mk hne
    clear hst hs hne
    go_enter Try.func19, Try.ntmps19
    go_wp2
    go_ret
    have hF : Fr (only g) w ((w.setCell ⟨g, 0, none⟩ (.int .i64 0)).alloc (.cells #[.int .u8 29] 5)) := ((Fr.refl (only g) w).set (fun _ => only_self g) 0 _).alloc _
    rw [HST.out]
    refine ⟨tv, _, rfl, ⟨blk_alloc (by simpa using blk_set HB.out 0 (.int .i64 0)) _, hF.own HO.out (fun b hb e => HNE.out (by rw [hb, e]))⟩, ⟨_, 1, rfl, by simp, ?_, ?_⟩, rfl, .inl rfl, hF⟩
    · have := reads_one (w.setCell ⟨g, 0, none⟩ (.int .i64 0)) .u8 29 5
      rw [size_set] at this
      exact this
    · intro ad h
      cases h
      exact Nat.le_refl _
  · have hc1 : (c == 29) = false := beq_eq_false_iff_ne.2 h29
    by_cases h58 : c = 58
    · subst h58
      have HST := Aside0.mk (show lexStep s 58 = (⟨2, [], false⟩, [], []) by simp [lexStep, hs])
      have HNE := Aside0.mk hne
      clear hs hne
      go_enter Try.func19, Try.ntmps19
      go_wp2
      go_ret
      rw [HST.out]
      have h1 := blk_set HB.out 0 (.int .i64 0)
      have h2 := blk_set h1 0 (.int .i64 2)
      have h3 := blk_set h2 1 (.slice none 0 0)
      have h4 := blk_set h3 2 (.bool false)
      exact ⟨.slice none 0 0, _, rfl, ⟨by simpa using h4, own_nil _ _ _ _⟩, fresh_nil _ _, rfl, .inr rfl, (((((Fr.refl (only g) w).set (fun _ => only_self g) 0 _).set (fun _ => only_self g) 0 _).set (fun _ => only_self g) 1 _).set (fun _ => only_self g) 2 _)⟩
    · have hc2 : (c == 58) = false := beq_eq_false_iff_ne.2 h58
      have HST := Aside0.mk (show lexStep s c = (⟨0, s.text, s.long⟩, [], []) by simp [lexStep, hs, h29, h58])
      have HNE := Aside0.mk hne
      clear hs hne h29 h58
      go_enter Try.func19, Try.ntmps19
      go_wp2
      go_ret
      rw [HST.out]
      have hF : Fr (only g) w (w.setCell ⟨g, 0, none⟩ (.int .i64 0)) := (Fr.refl (only g) w).set (fun _ => only_self g) 0 _
      exact ⟨tv, _, rfl, ⟨by simpa using blk_set HB.out 0 (.int .i64 0), hF.own HO.out (fun b hb e => HNE.out (by rw [hb, e]))⟩, fresh_nil _ _, rfl, .inl rfl, hF⟩

theorem more_nl (T : List Int) (lg : Bool) (g : Nat) (tv : Value) (b0 : Nat) (w : World) (hL : IsLex w b0 g ⟨2, T, lg⟩ tv) (hne : tv.ownBlock ≠ some g) :
    Calls Try.prog 20 #[.pointer (some ⟨g, 0, none⟩), .int .u8 10] w fun e w' => ∃ str, e = .returned (.tuple #[.string str, .bool true]) ∧ IsLex w' b0 g (lexStep ⟨2, T, lg⟩ 10).1 tv ∧ (lexStep ⟨2, T, lg⟩ 10).2.1 = [] ∧ (lexStep ⟨2, T, lg⟩ 10).2.2 = [str] ∧ Fr (only g) w w' := by
  obtain ⟨hb, ho⟩ := hL
  dsimp only at hb ho
  obtain ⟨A, cp, rfl⟩ := own_slice ho
  have c1 : w.cell? ⟨g, 1, none⟩ = some (.slice A T.length cp) := (blk_cell hb 1).trans rfl
  have f0 : w.frozen? ⟨g, 0, none⟩ = false := blk_frozen hb 0
  have c0 : w.cell? ⟨g, 0, none⟩ = some (.int .i64 2) := (blk_cell hb 0).trans rfl
  have hF : Fr (only g) w (w.setCell ⟨g, 0, none⟩ (.int .i64 0)) := (Fr.refl (only g) w).set (fun _ => only_self g) 0 _
  have hO1 := hF.own ho (fun b hb e => hne (by rw [hb, e]))
  have hB1 := blk_set hb 0 (.int .i64 0)
  have HF := Aside0.mk hF
  have HO1 := Aside0.mk hO1
  have HB1 := Aside0.mk hB1
  have c2 : w.cell? ⟨g, 2, none⟩ = some (.bool lg) := (blk_cell hb 2).trans rfl
  have hcv := own_string (P := Try.prog) (src := 34) (dst := 9) Try.underlying34 Try.underlying5 Try.underlying9 hO1
  clear hb ho hne hF hO1 hB1
  cases lg with
  | true =>
    have HST := Aside0.mk (show lexStep ⟨2, T, true⟩ 10 = (⟨0, T, true⟩, [], [⟨#[]⟩]) by simp [lexStep])
    go_enter Try.func20, Try.ntmps20
    go_wp2
    go_ret2
    rw [HST.out]
    exact ⟨_, rfl, ⟨by simpa using HB1.out, HO1.out⟩, rfl, rfl, HF.out⟩
  | false =>
    have HST := Aside0.mk (show lexStep ⟨2, T, false⟩ 10 = (⟨0, T, false⟩, [], [strOfNums T]) by simp [lexStep])
    go_enter Try.func20, Try.ntmps20
    go_wp2
    go_ret2
    rw [HST.out]
    exact ⟨_, rfl, ⟨by simpa using HB1.out, HO1.out⟩, rfl, rfl, HF.out⟩

theorem more_c (T : List Int) (lg : Bool) (c : Int) (g : Nat) (tv : Value) (b0 : Nat) (w : World) (hb0 : b0 ≤ w.heap.size) (hL : IsLex w b0 g ⟨2, T, lg⟩ tv) (hne : tv.ownBlock ≠ some g) (h10 : c ≠ 10) (hT : T.length ≤ 80) :
    Calls Try.prog 20 #[.pointer (some ⟨g, 0, none⟩), .int .u8 c] w fun e w' => ∃ tv', e = .returned (.tuple #[.string ⟨#[]⟩, .bool false]) ∧ IsLex w' b0 g (lexStep ⟨2, T, lg⟩ c).1 tv' ∧ (lexStep ⟨2, T, lg⟩ c).2.1 = [] ∧ (lexStep ⟨2, T, lg⟩ c).2.2 = [] ∧ (tv'.ownBlock = tv.ownBlock ∨ ∃ b, tv'.ownBlock = some b ∧ w.heap.size ≤ b) ∧ Fr (fun i => i = g ∨ tv.ownBlock = some i) w w' := by
  obtain ⟨hb, ho⟩ := hL
  dsimp only at hb ho
  obtain ⟨A, cp, rfl⟩ := own_slice ho
  have HB := Aside0.mk hb
  have HO := Aside0.mk ho
  have HNE := Aside0.mk hne
  have c1 : w.cell? ⟨g, 1, none⟩ = some (.slice A T.length cp) := (blk_cell hb 1).trans rfl
  have c2 : w.cell? ⟨g, 2, none⟩ = some (.bool lg) := (blk_cell hb 2).trans rfl
  have f1 : w.frozen? ⟨g, 1, none⟩ = false := blk_frozen hb 1
  have f2 : w.frozen? ⟨g, 2, none⟩ = false := blk_frozen hb 2
  have hc1 : (c != 10) = true := bne_iff_ne.2 h10
  clear hb ho hne
  cases lg with
  | true =>
    have HST := Aside0.mk (show lexStep ⟨2, T, true⟩ c = (⟨2, T, true⟩, [], []) by simp [lexStep, h10])
    clear h10
    go_enter Try.func20, Try.ntmps20
    go_wp2
    go_ret2
    rw [HST.out]
    have hF : Fr (fun i => i = g ∨ (Value.slice A T.length cp).ownBlock = some i) w (w.setCell ⟨g, 2, none⟩ (.bool true)) := (Fr.refl _ w).set (fun _ => Or.inl rfl) 2 _
    have hF2 : Fr (only g) w (w.setCell ⟨g, 2, none⟩ (.bool true)) := (Fr.refl (only g) w).set (fun _ => only_self g) 2 _
    exact ⟨_, rfl, ⟨by simpa using blk_set HB.out 2 (.bool true), hF2.own HO.out (fun b hb e => HNE.out (by rw [hb, e]))⟩, rfl, rfl, .inl rfl, hF⟩
  | false =>
    by_cases h80 : T.length = 80
    · have HST := Aside0.mk (show lexStep ⟨2, T, false⟩ c = (⟨2, T, true⟩, [], []) by simp [lexStep, h10, h80])
      have h80b : ((T.length : Int) == 80) = true := by rw [h80]; rfl
      clear h10 h80
      go_enter Try.func20, Try.ntmps20
      go_wp2
      go_ret2
      rw [HST.out]
      have hF : Fr (fun i => i = g ∨ (Value.slice A T.length cp).ownBlock = some i) w (w.setCell ⟨g, 2, none⟩ (.bool true)) := (Fr.refl _ w).set (fun _ => Or.inl rfl) 2 _
      have hF2 : Fr (only g) w (w.setCell ⟨g, 2, none⟩ (.bool true)) := (Fr.refl (only g) w).set (fun _ => only_self g) 2 _
      exact ⟨_, rfl, ⟨by simpa using blk_set HB.out 2 (.bool true), hF2.own HO.out (fun b hb e => HNE.out (by rw [hb, e]))⟩, rfl, rfl, .inl rfl, hF⟩
    · have HST := Aside0.mk (show lexStep ⟨2, T, false⟩ c = (⟨2, T ++ [c], false⟩, [], []) by simp [lexStep, h10, h80])
      have h80b : ((T.length : Int) == 80) = false := by rw [beq_eq_false_iff_ne]; omega
      clear h10 h80
      have hF2 : Fr (only g) w (w.setCell ⟨g, 2, none⟩ (.bool false)) := (Fr.refl (only g) w).set (fun _ => only_self g) 2 _
      have hO2 := hF2.own HO.out (fun b hb e => HNE.out (by rw [hb, e]))
      have HO2 := Aside0.mk hO2
      have HB2 : Aside0 ((w.setCell ⟨g, 2, none⟩ (.bool false)).heap[g]? = some (.cells #[.int .i64 2, .slice A T.length cp, .bool false] 47 (0, 0))) := ⟨by simpa using blk_set HB.out 2 (.bool false)⟩
      have HF2 := Aside0.mk hF2
      clear hF2 hO2
      go_enter Try.func20, Try.ntmps20
      go_wp2_with (first | ((with_reducible refine gate_builtin (b := .append) (xs := #[.tmp 32, .tmp 34]) rfl ?_); at_builtin; go_must (refine app_nums rfl (.tmp 32) (.tmp 34) 34 5 .u8 1 rfl Try.underlying34 info5 (by decide) b0 _ T [c] _ 1 1 rfl rfl ?aO ?aR ?aB ?aL ?_); (case aO => exact HO2.out.alloc _); (case aR => exact (by have := reads_one (w.setCell ⟨g, 2, none⟩ (.bool false)) .u8 c 5; rw [size_set] at this; exact this)); (case aB => exact (by simp [World.setCell]; omega)); (case aL => exact (by omega)); intro v1 w1 ho1 hf1 hat1; obtain ⟨A1, cp1, rfl⟩ := own_slice ho1; have hb3 := hf1.blk (blk_alloc HB2.out _) HNE.out; have c3 : w1.cell? ⟨g, 1, none⟩ = some (.slice A T.length cp) := (blk_cell hb3 1).trans rfl; have f3 : w1.frozen? ⟨g, 1, none⟩ = false := blk_frozen hb3 1; have HB3 := Aside0.mk hb3; have HO3 := Aside0.mk ho1; have HF3 := Aside0.mk hf1; have HAT := Aside0.mk hat1; clear hb3 ho1 hf1 hat1))
      go_ret2
      rw [HST.out]
      have hlt := blk_lt HB.out
      have hne1 : (Value.slice A1 (T ++ [c]).length cp1).ownBlock ≠ some g := by
        rcases HAT.out with h | ⟨b, h, hb⟩
        · rw [h]; exact HNE.out
        · rw [h]
          intro e
          simp only [Option.some.injEq] at e
          simp [World.setCell] at hb
          omega
      refine ⟨.slice A1 (T ++ [c]).length cp1, rfl, ⟨by simpa using blk_set HB3.out 1 (.slice A1 (T ++ [c]).length cp1), own_setCell HO3.out (fun e => hne1 e.symm) _⟩, rfl, rfl, ?_, ?_⟩
      · rcases HAT.out with h | ⟨b, h, hb⟩
        · exact .inl h
        · exact .inr ⟨b, h, by simp [World.setCell] at hb; omega⟩
      · refine Fr.set (g := g) (Fr.trans (Fr.alloc (Fr.set (g := g) (Fr.refl _ w) (fun _ => .inl rfl) 2 _) _) HF3.out (fun i _ h => .inr h)) (fun _ => .inl rfl) 1 _

/-- What a push leaves: the lexer, keystrokes and commands in rows of its own. -/
def PushInv (w : World) (b0 g : Nat) (tv : Value) (s : LexS) (K : List Int) (O : List ByteArray) (kv ov tvk : Value) (wr : World) : Prop :=
  IsLex wr b0 g s tvk ∧ tvk.ownBlock ≠ some g ∧ wr.ownsRow w.heap.size 5 1 kv K.length (nums .u8 K) ∧ wr.ownsRow w.heap.size 9 1 ov O.length (encs Value.string O) ∧
  (tvk.ownBlock = tv.ownBlock ∨ tvk.ownBlock = none ∨ ∃ b, tvk.ownBlock = some b ∧ w.heap.size ≤ b) ∧ NeRow kv tvk ∧ Fr (fun i => i = g ∨ tv.ownBlock = some i) w wr

theorem inv_start {w : World} {b0 g : Nat} {tv : Value} {s : LexS} (hL : IsLex w b0 g s tv) (hne : tv.ownBlock ≠ some g) : PushInv w b0 g tv s [] [] (.slice none 0 0) (.slice none 0 0) tv w :=
  ⟨hL, hne, own_nil _ _ _ _, own_nil _ _ _ _, .inl rfl, ne_nil _, Fr.refl _ _⟩

/-- the lexer's own block and text turn; keystrokes and commands stay -/
theorem inv_lex {w wr w1 : World} {b0 g : Nat} {tv tvk tv1 : Value} {s s1 : LexS} {K : List Int} {O : List ByteArray} {kv ov : Value} (h : PushInv w b0 g tv s K O kv ov tvk wr) (hg : g < w.heap.size)
    (hL : IsLex w1 b0 g s1 tv1) (h1 : tv1.ownBlock = tvk.ownBlock ∨ tv1.ownBlock = none ∨ ∃ b, tv1.ownBlock = some b ∧ wr.heap.size ≤ b) (hF : Fr (fun i => i = g ∨ tvk.ownBlock = some i) wr w1) :
    PushInv w b0 g tv s1 K O kv ov tv1 w1 := by
  obtain ⟨hl, hn, hk, ho, ht, hne, hf⟩ := h
  have hkg : some g ≠ kv.ownBlock := own_ne hk hl.1 (by decide)
  have hog : some g ≠ ov.ownBlock := own_ne ho hl.1 (by decide)
  have hot : NeRow ov tvk := ne_types ho hl.2 (by decide)
  refine ⟨hL, ?_, ?_, ?_, ?_, ?_, ?_⟩
  · rcases h1 with h1 | h1 | ⟨b, h1, hb⟩
    · rw [h1]; exact hn
    · rw [h1]; exact fun e => by cases e
    · rw [h1]
      intro e
      simp only [Option.some.injEq] at e
      have := hf.size
      omega
  · refine hF.own hk fun b hb hs => ?_
    rcases hs with rfl | hs
    · exact hkg hb.symm
    · exact hne b hb hs
  · refine hF.own ho fun b hb hs => ?_
    rcases hs with rfl | hs
    · exact hog hb.symm
    · exact hot b hb hs
  · rcases h1 with h1 | h1 | ⟨b, h1, hb⟩
    · rw [h1]; exact ht
    · exact .inr (.inl h1)
    · exact .inr (.inr ⟨b, h1, Nat.le_trans hf.size hb⟩)
  · intro b hb hs
    rcases h1 with h1 | h1 | ⟨b1, h1, hb1⟩
    · rw [h1] at hs; exact hne b hb hs
    · rw [h1] at hs; cases hs
    · rw [h1] at hs
      simp only [Option.some.injEq] at hs
      have := own_lt hk b hb
      omega
  · refine hf.trans hF fun i hi hs => ?_
    rcases hs with rfl | hs
    · exact .inl rfl
    · rcases ht with ht | ht | ⟨b, ht, hb⟩
      · exact .inr (by rw [← ht]; exact hs)
      · rw [ht] at hs; cases hs
      · rw [ht] at hs
        simp only [Option.some.injEq] at hs
        omega

/-- keystrokes are appended; the lexer and the commands stay -/
theorem inv_keys {w wr w1 : World} {b0 g : Nat} {tv tvk : Value} {s : LexS} {K K1 : List Int} {O : List ByteArray} {kv kv1 ov : Value} (h : PushInv w b0 g tv s K O kv ov tvk wr)
    (hk1 : w1.ownsRow w.heap.size 5 1 kv1 K1.length (nums .u8 K1)) (h1 : kv1.ownBlock = kv.ownBlock ∨ ∃ b, kv1.ownBlock = some b ∧ wr.heap.size ≤ b) (hF : Fr (rowOf kv) wr w1) :
    PushInv w b0 g tv s K1 O kv1 ov tvk w1 := by
  obtain ⟨hl, hn, hk, ho, ht, hne, hf⟩ := h
  have hkg : some g ≠ kv.ownBlock := own_ne hk hl.1 (by decide)
  have hok : NeRow ov kv := ne_types ho hk (by decide)
  refine ⟨⟨hF.blk hl.1 (fun e => hkg e.symm), hF.own hl.2 (fun b hb hs => hne b hs hb)⟩, hn, hk1, hF.own ho (fun b hb hs => hok b hb hs), ht, ?_, ?_⟩
  · intro b hb hs
    rcases h1 with h1 | ⟨b1, h1, hb1⟩
    · rw [h1] at hb; exact hne b hb hs
    · rw [h1] at hb
      simp only [Option.some.injEq] at hb
      have := own_lt hl.2 b hs
      omega
  · refine hf.trans hF fun i hi hs => ?_
    have := (own_old hk hs).1
    omega

/-- commands are appended -/
theorem inv_cmds {w wr w1 : World} {b0 g : Nat} {tv tvk : Value} {s : LexS} {K : List Int} {O O1 : List ByteArray} {kv ov ov1 : Value} (h : PushInv w b0 g tv s K O kv ov tvk wr)
    (ho1 : w1.ownsRow w.heap.size 9 1 ov1 O1.length (encs Value.string O1)) (hF : Fr (rowOf ov) wr w1) :
    PushInv w b0 g tv s K O1 kv ov1 tvk w1 := by
  obtain ⟨hl, hn, hk, ho, ht, hne, hf⟩ := h
  have hog : some g ≠ ov.ownBlock := own_ne ho hl.1 (by decide)
  have hok : NeRow ov kv := ne_types ho hk (by decide)
  have hot : NeRow ov tvk := ne_types ho hl.2 (by decide)
  refine ⟨⟨hF.blk hl.1 (fun e => hog e.symm), hF.own hl.2 (fun b hb hs => hot b hs hb)⟩, hn, hF.own hk (fun b hb hs => hok b hs hb), ho1, ht, hne, ?_⟩
  refine hf.trans hF fun i hi hs => ?_
  have := (own_old ho hs).1
  omega

theorem inv_alloc {w wr : World} {b0 g : Nat} {tv tvk : Value} {s : LexS} {K : List Int} {O : List ByteArray} {kv ov : Value} (h : PushInv w b0 g tv s K O kv ov tvk wr) (o : Obj) :
    PushInv w b0 g tv s K O kv ov tvk (wr.alloc o) := by
  obtain ⟨hl, hn, hk, ho, ht, hne, hf⟩ := h
  exact ⟨⟨blk_alloc hl.1 o, hl.2.alloc o⟩, hn, hk.alloc o, ho.alloc o, ht, hne, hf.alloc o⟩
end Go.Proofs.Ytajhahgaeihfaaa.LexW

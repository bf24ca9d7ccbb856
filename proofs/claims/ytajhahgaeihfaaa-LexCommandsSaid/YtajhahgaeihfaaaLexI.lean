/- What the loop of LexPieces keeps: the lexer, all bytes, keystrokes and commands, each in a row of its own. -/
import Derived.Test.YtajhahgaeihfaaaLexH
namespace Go.Proofs.Ytajhahgaeihfaaa.LexW
open Go.RowKit Go.Proofs.YtajhahgaeihfaaaW.PrintWords Go.Proofs.YtajhahgaeihfaaaW.PrintMore Go.Proofs.Ytajhahgaeihfaaa.Fr Go.Proofs.Ytajhahgaeihfaaa.LexP
set_option linter.unusedVariables false
set_option linter.unusedSimpArgs false

structure LI (w : World) (g : Nat) (s : LexS) (P K : List Int) (O : List ByteArray) (v4 v5 v6 tv : Value) (wr : World) : Prop where
  lex : IsLex wr w.heap.size g s tv
  ge : w.heap.size ≤ g
  r4 : wr.ownsRow w.heap.size 5 1 v4 P.length (nums .u8 P)
  r5 : wr.ownsRow w.heap.size 5 1 v5 K.length (nums .u8 K)
  r6 : wr.ownsRow w.heap.size 9 1 v6 O.length (encs Value.string O)
  n45 : NeRow v4 v5
  n4t : NeRow v4 tv
  n5t : NeRow v5 tv
  fr : Fr nope w wr

section
variable {w wr w1 : World} {g : Nat} {s s1 : LexS} {P P1 K K1 : List Int} {O O1 : List ByteArray} {v4 v41 v5 v51 v6 v61 tv tv1 : Value}

theorem LI.tne (h : LI w g s P K O v4 v5 v6 tv wr) : tv.ownBlock ≠ some g := fun e => (own_ne h.lex.2 h.lex.1 (by decide)) e.symm
theorem LI.fr_row {v : Value} (h : LI w g s P K O v4 v5 v6 tv wr) {e : TypeId} {n : Nat} {xs : List Value} (hr : wr.ownsRow w.heap.size e 1 v n xs) (hF : Fr (rowOf v) wr w1) : Fr nope w w1 :=
  h.fr.trans hF fun i hi hs => by have := (own_old hr hs).1; omega
theorem LI.all (h : LI w g s P K O v4 v5 v6 tv wr) (h4 : w1.ownsRow w.heap.size 5 1 v41 P1.length (nums .u8 P1)) (hat : v41.ownBlock = v4.ownBlock ∨ ∃ b, v41.ownBlock = some b ∧ wr.heap.size ≤ b) (hF : Fr (rowOf v4) wr w1) :
    LI w g s P1 K O v41 v5 v6 tv w1 :=
  { lex := ⟨hF.blk h.lex.1 (fun e => (own_ne h.r4 h.lex.1 (by decide)) e.symm), hF.own h.lex.2 (fun b hb hs => h.n4t b hs hb)⟩
    ge := h.ge
    r4 := h4
    r5 := hF.own h.r5 (fun b hb hs => h.n45 b hs hb)
    r6 := hF.own h.r6 (fun b hb hs => (ne_types h.r6 h.r4 (by decide)) b hb hs)
    n45 := ne_append h.n45 hat h.r5
    n4t := ne_append h.n4t hat h.lex.2
    n5t := h.n5t
    fr := h.fr_row h.r4 hF }
theorem LI.keys (h : LI w g s P K O v4 v5 v6 tv wr) (h5 : w1.ownsRow w.heap.size 5 1 v51 K1.length (nums .u8 K1)) (hat : v51.ownBlock = v5.ownBlock ∨ ∃ b, v51.ownBlock = some b ∧ wr.heap.size ≤ b) (hF : Fr (rowOf v5) wr w1) :
    LI w g s P K1 O v4 v51 v6 tv w1 :=
  { lex := ⟨hF.blk h.lex.1 (fun e => (own_ne h.r5 h.lex.1 (by decide)) e.symm), hF.own h.lex.2 (fun b hb hs => h.n5t b hs hb)⟩
    ge := h.ge
    r4 := hF.own h.r4 (fun b hb hs => h.n45 b hb hs)
    r5 := h5
    r6 := hF.own h.r6 (fun b hb hs => (ne_types h.r6 h.r5 (by decide)) b hb hs)
    n45 := ne_symm (ne_append (ne_symm h.n45) hat h.r4)
    n4t := h.n4t
    n5t := ne_append h.n5t hat h.lex.2
    fr := h.fr_row h.r5 hF }
theorem LI.cmds (h : LI w g s P K O v4 v5 v6 tv wr) (h6 : w1.ownsRow w.heap.size 9 1 v61 O1.length (encs Value.string O1)) (hF : Fr (rowOf v6) wr w1) :
    LI w g s P K O1 v4 v5 v61 tv w1 :=
  { lex := ⟨hF.blk h.lex.1 (fun e => (own_ne h.r6 h.lex.1 (by decide)) e.symm), hF.own h.lex.2 (fun b hb hs => (ne_types h.lex.2 h.r6 (by decide)) b hb hs)⟩
    ge := h.ge
    r4 := hF.own h.r4 (fun b hb hs => (ne_types h.r4 h.r6 (by decide)) b hb hs)
    r5 := hF.own h.r5 (fun b hb hs => (ne_types h.r5 h.r6 (by decide)) b hb hs)
    r6 := h6
    n45 := h.n45
    n4t := h.n4t
    n5t := h.n5t
    fr := h.fr_row h.r6 hF }
theorem LI.step (h : LI w g s P K O v4 v5 v6 tv wr) (hL : IsLex w1 w.heap.size g s1 tv1) (h1 : tv1.ownBlock = tv.ownBlock ∨ tv1.ownBlock = none ∨ ∃ b, tv1.ownBlock = some b ∧ wr.heap.size ≤ b) (hF : Fr (fun i => i = g ∨ tv.ownBlock = some i) wr w1) :
    LI w g s1 P K O v4 v5 v6 tv1 w1 := by
  have hn : ∀ {v : Value} {xs : List Value} {n : Nat}, wr.ownsRow w.heap.size 5 1 v n xs → NeRow v tv → NeRow v tv1 := by
    intro v xs n hr hne b hb hs
    rcases h1 with h1 | h1 | ⟨b1, h1, hb1⟩
    · rw [h1] at hs; exact hne b hb hs
    · rw [h1] at hs; cases hs
    · rw [h1] at hs
      simp only [Option.some.injEq] at hs
      have := own_lt hr b hb
      omega
  exact
  { lex := hL
    ge := h.ge
    r4 := hF.own h.r4 (fun b hb hs => by rcases hs with rfl | hs; exact (own_ne h.r4 h.lex.1 (by decide)) hb.symm; exact h.n4t b hb hs)
    r5 := hF.own h.r5 (fun b hb hs => by rcases hs with rfl | hs; exact (own_ne h.r5 h.lex.1 (by decide)) hb.symm; exact h.n5t b hb hs)
    r6 := hF.own h.r6 (fun b hb hs => by rcases hs with rfl | hs; exact (own_ne h.r6 h.lex.1 (by decide)) hb.symm; exact (ne_types h.r6 h.lex.2 (by decide)) b hb hs)
    n45 := h.n45
    n4t := hn h.r4 h.n4t
    n5t := hn h.r5 h.n5t
    fr := h.fr.trans hF fun i hi hs => by
      rcases hs with rfl | hs
      · have := h.ge; omega
      · have := (own_old h.lex.2 hs).1; omega }
theorem LI.keep (h : LI w g s P K O v4 v5 v6 tv wr) (hF : Fr nope wr w1) : LI w g s P K O v4 v5 v6 tv w1 :=
  { lex := ⟨hF.blk h.lex.1 id, hF.own h.lex.2 (fun _ _ => id)⟩
    ge := h.ge
    r4 := hF.own h.r4 (fun _ _ => id)
    r5 := hF.own h.r5 (fun _ _ => id)
    r6 := hF.own h.r6 (fun _ _ => id)
    n45 := h.n45
    n4t := h.n4t
    n5t := h.n5t
    fr := h.fr.trans hF fun i hi hs => hs }
end
end Go.Proofs.Ytajhahgaeihfaaa.LexW

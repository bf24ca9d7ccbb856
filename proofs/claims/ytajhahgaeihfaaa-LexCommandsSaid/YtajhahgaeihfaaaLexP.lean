/- The lexer as a function on lists, and the statement's own partition of bytes: both come to the same keystrokes and commands. Plain. -/
import Derived.Test.YtajhahgaeihfaaaWWords
import Derived.Test.YtajhahgaeihfaaaWMore
import Derived.Laws.BytesArg
namespace Go.Proofs.Ytajhahgaeihfaaa.LexP
open Go.RowKit Go.Proofs.YtajhahgaeihfaaaW.PrintWords Go.Proofs.YtajhahgaeihfaaaW.PrintMore

structure LexS where
  st : Int
  text : List Int
  long : Bool

def lexStep (s : LexS) (c : Int) : LexS × List Int × List ByteArray :=
  if s.st = 1 then (if c = 29 then (⟨0, s.text, s.long⟩, [c], []) else if c = 58 then (⟨2, [], false⟩, [], []) else (⟨0, s.text, s.long⟩, [], []))
  else if s.st = 2 then
    (if c = 10 then (⟨0, s.text, s.long⟩, [], [if s.long = true then ⟨#[]⟩ else strOfNums s.text])
     else (⟨2, if (s.long || s.text.length == 80) = true then s.text else s.text ++ [c], s.long || s.text.length == 80⟩, [], []))
  else if c = 29 then (⟨1, s.text, s.long⟩, [], []) else (s, [c], [])

def lexAll : LexS → List Int → LexS × List Int × List ByteArray
  | s, [] => (s, [], [])
  | s, c :: cs => ((lexAll (lexStep s c).1 cs).1, (lexStep s c).2.1 ++ (lexAll (lexStep s c).1 cs).2.1, (lexStep s c).2.2 ++ (lexAll (lexStep s c).1 cs).2.2)

theorem lexAll_append (l1 l2 : List Int) : ∀ s, lexAll s (l1 ++ l2) = ((lexAll (lexAll s l1).1 l2).1, (lexAll s l1).2.1 ++ (lexAll (lexAll s l1).1 l2).2.1, (lexAll s l1).2.2 ++ (lexAll (lexAll s l1).1 l2).2.2) := by
  induction l1 with
  | nil => intro s; simp [lexAll]
  | cons c cs ih => intro s; simp only [List.cons_append, lexAll, ih, List.append_assoc]

theorem lexAll_snoc (l : List Int) (c : Int) (s : LexS) : lexAll s (l ++ [c]) = ((lexStep (lexAll s l).1 c).1, (lexAll s l).2.1 ++ (lexStep (lexAll s l).1 c).2.1, (lexAll s l).2.2 ++ (lexStep (lexAll s l).1 c).2.2) := by
  rw [lexAll_append]
  simp [lexAll]

theorem lexStep_len (s : LexS) (c : Int) : (lexStep s c).2.1.length ≤ 1 ∧ (lexStep s c).2.2.length ≤ 1 := by
  unfold lexStep
  repeat' split
  all_goals simp

theorem lexAll_len (l : List Int) : ∀ s, (lexAll s l).2.1.length ≤ l.length ∧ (lexAll s l).2.2.length ≤ l.length := by
  induction l with
  | nil => intro s; simp [lexAll]
  | cons c cs ih =>
    intro s
    have h1 := lexStep_len s c
    have h2 := ih (lexStep s c).1
    simp only [lexAll, List.length_append, List.length_cons]
    omega

theorem lexStep_text (s : LexS) (c : Int) (h : s.text.length ≤ 80) : (lexStep s c).1.text.length ≤ 80 := by
  unfold lexStep
  repeat' split
  all_goals (try simp; try exact h)
  rename_i hx
  simp only [Bool.or_eq_true, beq_iff_eq, not_or] at hx
  omega

theorem lexAll_text (l : List Int) : ∀ s, s.text.length ≤ 80 → (lexAll s l).1.text.length ≤ 80 := by
  induction l with
  | nil => intro s h; simpa [lexAll] using h
  | cons c cs ih => intro s h; exact ih _ (lexStep_text s c h)

theorem drop_rd (x : List Int) (i : Nat) (h : i < x.length) : x.drop i = rd x (i : Int) :: x.drop (i + 1) := by
  rw [List.drop_eq_getElem_cons h]
  simp [rd, h]

/-- keystrokes and commands of bytes, behind so many of each -/
def outs (K : List Int) (O : List ByteArray) (s : LexS) (l : List Int) : Option (List Int × List ByteArray) := some (K ++ (lexAll s l).2.1, O ++ (lexAll s l).2.2)

theorem outs_nil (K : List Int) (O : List ByteArray) (s : LexS) : outs K O s [] = some (K, O) := by simp [outs, lexAll]
theorem outs_cons (K : List Int) (O : List ByteArray) (s : LexS) (c : Int) (l : List Int) : outs K O s (c :: l) = outs (K ++ (lexStep s c).2.1) (O ++ (lexStep s c).2.2) (lexStep s c).1 l := by simp [outs, lexAll]

theorem outs_end (K : List Int) (O : List ByteArray) (s : LexS) (x : List Int) (i : Nat) (h : i = x.length) : outs K O s (x.drop i) = some (K, O) := by
  rw [h, List.drop_length, outs_nil]
theorem outs_plain {K : List Int} {O : List ByteArray} {s : LexS} {x : List Int} {i : Nat} {c : Int} (h : i < x.length) (hc : rd x (i : Int) = c) (hs : s.st = 0) (h29 : c ≠ 29) :
    outs K O s (x.drop i) = outs (K ++ [c]) O s (x.drop (i + 1)) := by
  obtain ⟨st, T, lg⟩ := s
  dsimp only at hs
  subst hs
  rw [drop_rd x i h, outs_cons, hc]
  have hs1 : lexStep ⟨0, T, lg⟩ c = (⟨0, T, lg⟩, [c], []) := by simp [lexStep, h29]
  rw [hs1]
  simp
theorem outs_esc {K : List Int} {O : List ByteArray} {s : LexS} {x : List Int} {i : Nat} (h : i < x.length) (hc : rd x (i : Int) = 29) (hs : s.st = 0) :
    outs K O s (x.drop i) = outs K O ⟨1, s.text, s.long⟩ (x.drop (i + 1)) := by
  obtain ⟨st, T, lg⟩ := s
  dsimp only at hs
  subst hs
  rw [drop_rd x i h, outs_cons, hc]
  have hs1 : lexStep ⟨0, T, lg⟩ 29 = (⟨1, T, lg⟩, [], []) := by simp [lexStep]
  rw [hs1]
  simp
theorem outs_esc_last {K : List Int} {O : List ByteArray} {s : LexS} {x : List Int} {i : Nat} (h : i + 1 = x.length) (hc : rd x (i : Int) = 29) (hs : s.st = 0) :
    outs K O s (x.drop i) = some (K, O) := by
  rw [outs_esc (by omega) hc hs, outs_end _ _ _ _ _ h]
theorem outs_esc_esc {K : List Int} {O : List ByteArray} {s : LexS} {x : List Int} {i : Nat} (h : i + 1 < x.length) (hc : rd x (i : Int) = 29) (hs : s.st = 0) (h2 : rd x ((i + 1 : Nat) : Int) = 29) :
    outs K O s (x.drop i) = outs (K ++ [29]) O s (x.drop (i + 2)) := by
  rw [outs_esc (by omega) hc hs]
  obtain ⟨st, T, lg⟩ := s
  dsimp only at hs
  subst hs
  rw [drop_rd x (i + 1) h, outs_cons, h2]
  have hs1 : lexStep ⟨1, T, lg⟩ 29 = (⟨0, T, lg⟩, [29], []) := by simp [lexStep]
  rw [hs1]
  simp
theorem outs_esc_colon {K : List Int} {O : List ByteArray} {s : LexS} {x : List Int} {i : Nat} (h : i + 1 < x.length) (hc : rd x (i : Int) = 29) (hs : s.st = 0) (h2 : rd x ((i + 1 : Nat) : Int) = 58) :
    outs K O s (x.drop i) = outs K O ⟨2, ((x.take (i + 2)).drop (i + 2)).take 80, decide (80 < i + 2 - (i + 2))⟩ (x.drop (i + 2)) := by
  rw [outs_esc (by omega) hc hs]
  obtain ⟨st, T, lg⟩ := s
  dsimp only at hs
  subst hs
  rw [drop_rd x (i + 1) h, outs_cons, h2]
  have hs1 : lexStep ⟨1, T, lg⟩ 58 = (⟨2, [], false⟩, [], []) := by simp [lexStep]
  rw [hs1]
  simp
theorem outs_esc_other {K : List Int} {O : List ByteArray} {s : LexS} {x : List Int} {i : Nat} {c : Int} (h : i + 1 < x.length) (hc : rd x (i : Int) = 29) (hs : s.st = 0) (h2 : rd x ((i + 1 : Nat) : Int) = c) (h29 : c ≠ 29) (h58 : c ≠ 58) :
    outs K O s (x.drop i) = outs K O s (x.drop (i + 2)) := by
  rw [outs_esc (by omega) hc hs]
  obtain ⟨st, T, lg⟩ := s
  dsimp only at hs
  subst hs
  rw [drop_rd x (i + 1) h, outs_cons, h2]
  have hs1 : lexStep ⟨1, T, lg⟩ c = (⟨0, T, lg⟩, [], []) := by simp [lexStep, h29, h58]
  rw [hs1]
  simp
/-- the state within a command that began behind place i, at place e -/
def inLine (x : List Int) (i e : Nat) : LexS := ⟨2, ((x.take e).drop (i + 2)).take 80, decide (80 < e - (i + 2))⟩
theorem outs_line {K : List Int} {O : List ByteArray} {x : List Int} {i e : Nat} {c : Int} (hie : i + 2 ≤ e) (hlt : e < x.length) (hc : rd x (e : Int) = c) (h10 : c ≠ 10) :
    outs K O (inLine x i e) (x.drop e) = outs K O (inLine x i (e + 1)) (x.drop (e + 1)) := by
  have hbody : ((x.take e).drop (i + 2)).length = e - (i + 2) := by simp; omega
  rw [drop_rd x e hlt, outs_cons, hc]
  have hs : lexStep (inLine x i e) c = (inLine x i (e + 1), [], []) := by
    simp only [lexStep, inLine]
    rw [if_neg (by decide), if_pos trivial, if_neg h10]
    have htk : (x.take (e + 1)).drop (i + 2) = (x.take e).drop (i + 2) ++ [c] := by
      rw [List.take_succ_eq_append_getElem hlt, List.drop_append_of_le_length (by simp; omega), ← hc]
      simp [rd, hlt]
    rw [htk]
    have hlen : (((x.take e).drop (i + 2)).take 80).length = min 80 (e - (i + 2)) := by rw [List.length_take, hbody]
    by_cases h80 : 80 ≤ e - (i + 2)
    · have hb : (decide (80 < e - (i + 2)) || (((x.take e).drop (i + 2)).take 80).length == 80) = true := by rw [hlen]; simp; omega
      have hd : decide (80 < e + 1 - (i + 2)) = true := by simp; omega
      simp only [hb, hd, if_true]
      rw [List.take_append_of_le_length (by omega)]
    · have hb : (decide (80 < e - (i + 2)) || (((x.take e).drop (i + 2)).take 80).length == 80) = false := by rw [hlen]; simp; omega
      have hd : decide (80 < e + 1 - (i + 2)) = false := by simp; omega
      simp only [hb, hd, Bool.false_eq_true, if_false]
      have h1 : ((x.take e).drop (i + 2)).take 80 = (x.take e).drop (i + 2) := List.take_of_length_le (by omega)
      have h2 : ((x.take e).drop (i + 2) ++ [c]).take 80 = (x.take e).drop (i + 2) ++ [c] := List.take_of_length_le (by rw [List.length_append, hbody, List.length_singleton]; omega)
      rw [h1, h2]
  rw [hs]
  simp
theorem outs_line_end {K : List Int} {O : List ByteArray} {x : List Int} {i e : Nat} (hie : i + 2 ≤ e) (hlt : e < x.length) (hc : rd x (e : Int) = 10) :
    outs K O (inLine x i e) (x.drop e) = outs K (O ++ [if 80 < e - (i + 2) then ⟨#[]⟩ else strOfNums ((x.take e).drop (i + 2))]) ⟨0, ((x.take e).drop (i + 2)).take 80, decide (80 < e - (i + 2))⟩ (x.drop (e + 1)) := by
  have hbody : ((x.take e).drop (i + 2)).length = e - (i + 2) := by simp; omega
  rw [drop_rd x e hlt, outs_cons, hc]
  have hs : lexStep (inLine x i e) 10 = (⟨0, ((x.take e).drop (i + 2)).take 80, decide (80 < e - (i + 2))⟩, [], [if 80 < e - (i + 2) then ⟨#[]⟩ else strOfNums ((x.take e).drop (i + 2))]) := by
    simp only [lexStep, inLine]
    rw [if_neg (by decide), if_pos trivial, if_pos trivial]
    by_cases h80 : 80 < e - (i + 2)
    · simp [h80]
    · simp only [h80, decide_false]
      rw [List.take_of_length_le (by omega)]
      simp
  rw [hs]
  simp

def lex0 : LexS := ⟨0, [], false⟩

theorem outs_lex0 (x : List Int) : outs [] [] lex0 (x.drop 0) = some ((lexAll lex0 x).2.1, (lexAll lex0 x).2.2) := by simp [outs]
end Go.Proofs.Ytajhahgaeihfaaa.LexP

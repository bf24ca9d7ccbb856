/- Plain: commands between keystrokes, as the lexer on lists takes them. -/
import Derived.Test.YtajhahgaeihfaaaLexC
namespace Go.Proofs.Ytajhahgaeihfaaa.LexW
open Go.RowKit Go.Proofs.YtajhahgaeihfaaaW.PrintWords Go.Proofs.YtajhahgaeihfaaaW.PrintMore Go.Proofs.Ytajhahgaeihfaaa.Fr Go.Proofs.Ytajhahgaeihfaaa.LexP Go.Proofs.Ytajhahgaeihfaaa.Openers
set_option linter.unusedVariables false
set_option linter.unusedSimpArgs false

theorem bytesOf_append (a b : ByteArray) : bytesOf (a ++ b) = bytesOf a ++ bytesOf b := by
  unfold bytesOf
  rw [append_data, List.map_append]
theorem str_bytes (s : ByteArray) : strOfNums (bytesOf s) = s := by
  apply bytes_ext
  rw [strOfNums_data, bytesOf, List.map_map]
  conv => rhs; rw [← List.map_id s.data.toList]
  apply List.map_congr_left
  intro b _
  simp
theorem str_append (a b : List Int) : strOfNums a ++ strOfNums b = strOfNums (a ++ b) := by
  apply bytes_ext
  rw [append_data]
  simp [strOfNums_data]
theorem bytes_at (s : ByteArray) (j : Nat) (h : j < s.size) : (bytesOf s)[j]'(by rw [bytesOf_length]; exact h) = ((s[j]'h).toNat : Int) := by
  simp [bytesOf]
  rfl
theorem bytes_mem (s : ByteArray) (x : Int) (hx : ∀ j (h : j < s.size), ((s[j]'h).toNat : Int) ≠ x) : x ∉ bytesOf s := by
  intro hm
  obtain ⟨j, hj, he⟩ := List.getElem_of_mem hm
  rw [bytesOf_length] at hj
  exact hx j hj (by rw [← bytes_at s j hj]; exact he)

theorem lex_plain (l : List Int) : ∀ s : LexS, s.st = 0 → 29 ∉ l → lexAll s l = (s, l, []) := by
  induction l with
  | nil => intro s _ _; rfl
  | cons c cs ih =>
    rintro ⟨st, T, lg⟩ h hm
    dsimp only at h
    subst h
    have h29 : c ≠ 29 := fun e => hm (by rw [e]; exact List.mem_cons_self)
    have hs : lexStep ⟨0, T, lg⟩ c = (⟨0, T, lg⟩, [c], []) := by simp [lexStep, h29]
    have h1 := ih ⟨0, T, lg⟩ rfl (fun h => hm (List.mem_cons_of_mem _ h))
    simp only [lexAll, hs, h1]
    simp
theorem lex_inline (l : List Int) : ∀ T : List Int, T.length + l.length ≤ 80 → 10 ∉ l → lexAll ⟨2, T, false⟩ l = (⟨2, T ++ l, false⟩, [], []) := by
  induction l with
  | nil => intro T _ _; simp [lexAll]
  | cons c cs ih =>
    intro T hl hm
    have h10 : c ≠ 10 := fun e => hm (by rw [e]; exact List.mem_cons_self)
    have hT : T.length ≠ 80 := by simp at hl; omega
    have hs : lexStep ⟨2, T, false⟩ c = (⟨2, T ++ [c], false⟩, [], []) := by simp [lexStep, h10, hT]
    have h1 := ih (T ++ [c]) (by simp at hl ⊢; omega) (fun h => hm (List.mem_cons_of_mem _ h))
    simp only [lexAll, hs, h1]
    simp

/-- what the loop of LexCommands keeps of its two texts -/
def CInv (lines : List ByteArray) (i : Nat) (all want : ByteArray) : Prop :=
  ∃ s : LexS, s.st = 0 ∧ lexAll lex0 (bytesOf all) = (s, bytesOf want, lines.take i)

theorem cinv_zero (lines : List ByteArray) : CInv lines 0 ⟨#[]⟩ ⟨#[]⟩ := ⟨lex0, rfl, rfl⟩
theorem cinv_key {lines : List ByteArray} {i : Nat} {all want k : ByteArray} (h : CInv lines i all want) (hk : 29 ∉ bytesOf k) (hi : lines.length ≤ i) : CInv lines (i + 1) (all ++ k) (want ++ k) := by
  obtain ⟨s, hs, he⟩ := h
  refine ⟨s, hs, ?_⟩
  rw [bytesOf_append, lexAll_append, he, lex_plain _ _ hs hk, bytesOf_append]
  simp only [List.append_nil]
  rw [List.take_of_length_le hi, List.take_of_length_le (by omega)]
theorem cinv_line {lines : List ByteArray} {i : Nat} {all want k l : ByteArray} (h : CInv lines i all want) (hk : 29 ∉ bytesOf k) (hi : i < lines.length) (hl : lines.getD i ByteArray.empty = l) (h80 : l.size ≤ 80) (h10 : 10 ∉ bytesOf l) :
    CInv lines (i + 1) (all ++ k ++ ⟨#[29, 58]⟩ ++ l ++ ⟨#[10]⟩) (want ++ k) := by
  obtain ⟨⟨st, T, lg⟩, hs, he⟩ := h
  dsimp only at hs
  subst hs
  refine ⟨⟨0, bytesOf l, false⟩, rfl, ?_⟩
  have h1 : lexAll ⟨0, T, lg⟩ (bytesOf ⟨#[29, 58]⟩) = (⟨2, [], false⟩, [], []) := by
    show lexAll ⟨0, T, lg⟩ [29, 58] = _
    simp [lexAll, lexStep]
  have h2 : lexAll ⟨2, bytesOf l, false⟩ (bytesOf ⟨#[10]⟩) = (⟨0, bytesOf l, false⟩, [], [l]) := by
    show lexAll ⟨2, bytesOf l, false⟩ [10] = _
    simp [lexAll, lexStep, str_bytes]
  have h3 := lex_inline (bytesOf l) [] (by rw [bytesOf_length]; simp; exact h80) h10
  rw [bytesOf_append, bytesOf_append, bytesOf_append, bytesOf_append, lexAll_append, lexAll_append, lexAll_append, lexAll_append, he, lex_plain _ _ rfl hk]
  dsimp only
  rw [h1]
  dsimp only
  rw [h3]
  dsimp only
  rw [List.nil_append, h2, bytesOf_append]
  simp only [List.append_nil, List.nil_append]
  rw [List.take_succ_eq_append_getElem hi]
  have : lines[i] = l := by rw [← hl]; simp [hi]
  rw [this]
theorem cinv_end {lines : List ByteArray} {i a : Nat} {all want : ByteArray} (h : CInv lines i all want) (hi : lines.length ≤ i) :
    ∃ s1 k1 o1 s2 k2 o2, lexAll lex0 ((bytesOf all).take a) = (s1, k1, o1) ∧ lexAll s1 ((bytesOf all).drop a) = (s2, k2, o2) ∧ strOfNums k1 ++ strOfNums k2 = want ∧ o1 ++ o2 = lines := by
  obtain ⟨s, hs, he⟩ := h
  rw [← List.take_append_drop a (bytesOf all), lexAll_append, List.take_of_length_le hi] at he
  simp only [Prod.mk.injEq] at he
  refine ⟨_, _, _, _, _, _, rfl, rfl, ?_, he.2.2⟩
  rw [str_append, he.2.1, str_bytes]
theorem bytesOf_take (s : ByteArray) (a : Nat) (h : a ≤ s.size) : bytesOf (s.extract 0 a) = (bytesOf s).take a := by
  unfold bytesOf
  rw [ByteArray.data_extract, ← List.map_take]
  congr 1
  simp
theorem bytesOf_drop (s : ByteArray) (a : Nat) : bytesOf (s.extract a s.size) = (bytesOf s).drop a := by
  unfold bytesOf
  rw [ByteArray.data_extract, ← List.map_drop]
  congr 1
  simp
  exact List.take_of_length_le (by rw [List.length_drop, data_length]; exact Nat.le_refl _)
end Go.Proofs.Ytajhahgaeihfaaa.LexW

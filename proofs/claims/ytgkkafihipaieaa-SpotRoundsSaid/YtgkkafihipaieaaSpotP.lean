/- The place of the next sign as a plain function of bytes; and what the statements' own model does. Plain. -/
import Derived.Test.YtgkkafihipaieaaFlt
namespace Go.Proofs.Ytgkkafihipaieaa.SpotP
open Go.Proofs.Ytgkkafihipaieaa.Flt

structure Sp where
  w : Nat
  c : Nat
  r : Nat
  st : Nat
  deriving DecidableEq

def sp0 (w : Nat) : Sp := ⟨w, 0, 0, 0⟩
def signS (s : Sp) : Sp := if s.c + 1 = s.w then { s with c := 0, r := s.r + 1 } else { s with c := s.c + 1 }
def oneS (s : Sp) (b : Int) : Sp :=
  if b = 27 then { s with st := 1 }
  else if b = 13 then { s with c := 0 }
  else if b = 10 then { s with r := s.r + 1 }
  else if b = 8 then { s with c := s.c - 1 }
  else if b = 9 then { s with c := min (8 * (s.c / 8 + 1)) (s.w - 1) }
  else if 32 ≤ b ∧ b ≠ 127 then signS s
  else s
def moveS (s : Sp) (b : Int) : Sp :=
  if b = 65 then { s with r := s.r - 1 }
  else if b = 66 then { s with r := s.r + 1 }
  else if b = 67 then { s with c := min (s.c + 1) (s.w - 1) }
  else if b = 68 then { s with c := s.c - 1 }
  else s
def byteS (s : Sp) (b : Int) : Sp :=
  if s.st = 0 then oneS s b
  else if s.st = 1 then { s with st := if b = 91 then 2 else 0 }
  else moveS { s with st := 0 } b
def allS (s : Sp) (bs : List Int) : Sp := bs.foldl byteS s
/-- what always holds -/
def SpGood (s : Sp) : Prop := s.c < s.w ∧ s.w ≤ 500 ∧ s.st ≤ 2

theorem allS_append (s : Sp) (a b : List Int) : allS s (a ++ b) = allS (allS s a) b := List.foldl_append
theorem oneS_w (s : Sp) (b : Int) : (oneS s b).w = s.w := by unfold oneS signS; repeat' split <;> try rfl
theorem moveS_w (s : Sp) (b : Int) : (moveS s b).w = s.w := by unfold moveS; repeat' split <;> try rfl
theorem byteS_w (s : Sp) (b : Int) : (byteS s b).w = s.w := by
  unfold byteS
  split
  · exact oneS_w s b
  · split
    · rfl
    · exact moveS_w _ b
theorem good_one (s : Sp) (b : Int) (h : SpGood s) : SpGood (oneS s b) := by
  obtain ⟨h1, h2, h3⟩ := h
  unfold oneS signS SpGood
  repeat' split
  all_goals try simp only
  all_goals omega
theorem good_move (s : Sp) (b : Int) (h : SpGood s) : SpGood (moveS s b) := by
  obtain ⟨h1, h2, h3⟩ := h
  unfold moveS SpGood
  repeat' split
  all_goals try simp only
  all_goals omega
theorem good_byte (s : Sp) (b : Int) (h : SpGood s) : SpGood (byteS s b) := by
  unfold byteS
  split
  · exact good_one s b h
  · split
    · obtain ⟨h1, h2, h3⟩ := h
      refine ⟨h1, h2, ?_⟩
      show (if b = 91 then 2 else 0) ≤ 2
      split <;> omega
    · exact good_move _ b ⟨h.1, h.2.1, Nat.zero_le _⟩
theorem row_byte (s : Sp) (b : Int) : (byteS s b).r ≤ s.r + 1 := by
  unfold byteS oneS moveS signS
  repeat' split
  all_goals try simp only
  all_goals omega
theorem good_all (l : List Int) : ∀ s, SpGood s → SpGood (allS s l) := by
  induction l with
  | nil => intro s h; exact h
  | cons b l ih => intro s h; exact ih _ (good_byte s b h)
theorem row_all (l : List Int) : ∀ s, (allS s l).r ≤ s.r + l.length := by
  induction l with
  | nil => intro s; exact Nat.le_refl _
  | cons b l ih => intro s; have := ih (byteS s b); have h2 := row_byte s b; show (allS (byteS s b) l).r ≤ _; simp only [List.length_cons]; omega
theorem w_all (l : List Int) : ∀ s, (allS s l).w = s.w := by
  induction l with
  | nil => intro s; rfl
  | cons b l ih => intro s; show (allS (byteS s b) l).w = _; rw [ih, byteS_w]
theorem allS_take (bs : List Int) (s0 : Sp) (k : Nat) (h : k < bs.length) : allS s0 (bs.take (k + 1)) = byteS (allS s0 (bs.take k)) (bs.getD k 0) := by
  rw [List.take_succ_eq_append_getElem h, allS_append]
  simp [allS, h]

-- the least and the greatest of two floats
def fmin (x y : Nat) : Option Nat := match FloatKind.f64.format.order x y with
  | none => none
  | some .lt => some x
  | some .gt => some y
  | some .eq => some (if (FloatKind.f64.decode x).neg then x else y)
def fmax (x y : Nat) : Option Nat := match FloatKind.f64.format.order x y with
  | none => none
  | some .lt => some y
  | some .gt => some x
  | some .eq => some (if (FloatKind.f64.decode x).neg then y else x)
theorem fmin_F (a b : Nat) (ha : a < 4200) (hb : b < 4200) : fmin (F a) (F b) = some (F (min a b)) := by
  unfold fmin
  rw [order_F a b ha hb]
  rcases Nat.lt_trichotomy a b with h | h | h
  · rw [Nat.compare_eq_lt.2 h, Nat.min_eq_left (by omega)]
  · subst h; rw [Nat.compare_eq_eq.2 rfl]; simp
  · rw [Nat.compare_eq_gt.2 h, Nat.min_eq_right (by omega)]
theorem fmax_F (a b : Nat) (ha : a < 4200) (hb : b < 4200) : fmax (F a) (F b) = some (F (max a b)) := by
  unfold fmax
  rw [order_F a b ha hb]
  rcases Nat.lt_trichotomy a b with h | h | h
  · rw [Nat.compare_eq_lt.2 h, Nat.max_eq_right (by omega)]
  · subst h; rw [Nat.compare_eq_eq.2 rfl]; simp
  · rw [Nat.compare_eq_gt.2 h, Nat.max_eq_left (by omega)]
theorem fmax_zero (b : Nat) (hb : b < 4200) : fmax 0 (F b) = some (F b) := by
  have := fmax_F 0 b (by decide) hb
  rwa [F_zero, Nat.zero_max] at this
theorem fmax_minus : fmax 0 13830554455654793216 = some (F 0) := by decide +kernel
theorem fmin_minus (b : Nat) (hb : b < 4200) : fmin 13830554455654793216 (F b) = some 13830554455654793216 := by
  unfold fmin
  obtain ⟨m, p, r1, h1, h2, h3, h4⟩ := read_F b hb
  have hr : Ieee.double.read 13830554455654793216 = .number true 4503599627370496 (-52) := by decide +kernel
  have : FloatKind.f64.format.order 13830554455654793216 (F b) = some .lt := by
    show (Ieee.double.read 13830554455654793216).order (Ieee.double.read (F b)) = _
    rw [r1, hr]
    simp only [Ieee.Datum.order, Ieee.signed, if_true, Bool.false_eq_true, if_false, Option.some.injEq]
    have hp : 0 < 4503599627370496 <<< ((-52 : Int) - min (-52) p).toNat := by
      rw [Nat.shiftLeft_eq]
      exact Nat.mul_pos (by decide) (Nat.two_pow_pos _)
    generalize 4503599627370496 <<< ((-52 : Int) - min (-52) p).toNat = x at *
    generalize m <<< (p - min (-52) p).toNat = y
    exact Int.compare_eq_lt.2 (by omega)
  rw [this]
theorem run_fmin {P : Program} (w : World) (ts : Array TypeId) (t : TypeId) (x y m : Nat) (h : fmin x y = some m) : (Builtin.min_ ts t #[.float .f64 x, .float .f64 y]).run P w = .ok (.float .f64 m) w := by
  show (Builtin.min2 (.float .f64 x) (.float .f64 y) >>= fun a => pure a).run P w = _
  unfold fmin at h
  simp only [Builtin.min2]
  revert h
  generalize FloatKind.f64.format.order x y = o
  intro h
  cases o with
  | none => cases h
  | some o => cases o <;> simp at h <;> simp [h]
theorem run_fmax {P : Program} (w : World) (ts : Array TypeId) (t : TypeId) (x y m : Nat) (h : fmax x y = some m) : (Builtin.max_ ts t #[.float .f64 x, .float .f64 y]).run P w = .ok (.float .f64 m) w := by
  show (Builtin.max2 (.float .f64 x) (.float .f64 y) >>= fun a => pure a).run P w = _
  unfold fmax at h
  simp only [Builtin.max2]
  revert h
  generalize FloatKind.f64.format.order x y = o
  intro h
  cases o with
  | none => cases h
  | some o => cases o <;> simp at h <;> simp [h]
theorem csum_F (op : BinOp) (a b c d re im : Nat) (h1 : floatBits op .f64 a c = some re) (h2 : floatBits op .f64 b d = some im) : cSumBits op .f64 a b c d = some (re, im) := by
  simp [cSumBits, h1, h2]
theorem turn0 : cMulBits 4607182418800017408 0 0 4607182418800017408 = some (0, 4607182418800017408) := by decide +kernel
theorem turn1 : cMulBits 0 4607182418800017408 0 4607182418800017408 = some (13830554455654793216, 0) := by decide +kernel
theorem turn2 : cMulBits 13830554455654793216 0 0 4607182418800017408 = some (9223372036854775808, 13830554455654793216) := by decide +kernel
end Go.Proofs.Ytgkkafihipaieaa.SpotP

/- Small whole numbers as floats of 64 bits: sums, differences, order, and back. Plain. -/
import Derived.WalkLawsBesides
import Derived.KernelRfl
namespace Go.Proofs.Ytgkkafihipaieaa.Flt

/-- the float of a whole number -/
def F (n : Nat) : Nat := floatOfInt .f64 (n : Int)
theorem F_def (n : Nat) : F n = Ieee.Format.nearest Ieee.double false n 0 := by
  show FloatKind.f64.format.write (.number (decide ((n : Int) < 0)) (n : Int).natAbs 0) = _
  rw [show decide ((n : Int) < 0) = false from decide_eq_false (by omega)]
  rfl
theorem F_zero : F 0 = 0 := by decide +kernel
theorem F_one : F 1 = 4607182418800017408 := by decide +kernel

theorem below {p : Nat → Prop} (h : ∀ q < 66, ∀ r < 64, p (64 * q + r)) : ∀ n, n < 4200 → p n := by
  intro n hn
  have := h (n / 64) (by omega) (n % 64) (by omega)
  rwa [Nat.div_add_mod] at this

/-- what F n reads as -/
def unitsOk (n : Nat) : Bool := match Ieee.double.read (F n) with
  | .number false m p => decide (-1074 ≤ p) && (decide (p ≤ 0) && (decide (m < 2 ^ 53) && decide (m * 2 ^ (p + 1074).toNat = n * 2 ^ 1074)))
  | _ => false
set_option maxHeartbeats 0 in
theorem units : ∀ n, n < 4200 → unitsOk n = true := below (by decide +kernel)

theorem read_F (n : Nat) (h : n < 4200) : ∃ m p, Ieee.double.read (F n) = .number false m p ∧ -1074 ≤ p ∧ p ≤ 0 ∧ m < 2 ^ 53 ∧ m = n * 2 ^ (-p).toNat := by
  have u := units n h
  unfold unitsOk at u
  revert u
  generalize Ieee.double.read (F n) = x
  intro u
  cases x with
  | number s m p =>
    cases s
    · simp only [Bool.and_eq_true, decide_eq_true_eq] at u
      obtain ⟨h1, h2, h3, h4⟩ := u
      refine ⟨m, p, rfl, h1, h2, h3, ?_⟩
      have e : (1074 : Nat) = (-p).toNat + (p + 1074).toNat := by omega
      have h5 : m * 2 ^ (p + 1074).toNat = n * 2 ^ ((-p).toNat + (p + 1074).toNat) := by rw [← e]; exact h4
      rw [Nat.pow_add, ← Nat.mul_assoc] at h5
      exact Nat.eq_of_mul_eq_mul_right ((Nat.two_pow_pos _)) h5
    · cases u
  | infinity _ => cases u
  | nan _ _ => cases u

theorem log2_shift (m k : Nat) (h : m ≠ 0) : (m * 2 ^ k).log2 = m.log2 + k := by
  have hp : 0 < 2 ^ k := (Nat.two_pow_pos _)
  have h1 := Nat.log2_self_le h
  have h2 := @Nat.lt_log2_self m
  apply Nat.le_antisymm
  · have : (m * 2 ^ k) < 2 ^ (m.log2 + k + 1) := by
      rw [show m.log2 + k + 1 = (m.log2 + 1) + k by omega, Nat.pow_add]
      exact Nat.mul_lt_mul_of_pos_right h2 hp
    have := (Nat.log2_lt (Nat.mul_ne_zero h (by omega))).2 this
    omega
  · rw [Nat.le_log2 (Nat.mul_ne_zero h (by omega)), Nat.pow_add]
    exact Nat.mul_le_mul_right _ h1

theorem nearest_shift (m k : Nat) (p : Int) (hm : m < 2 ^ 53) (hp : -1074 ≤ p) : Ieee.double.nearest false (m * 2 ^ k) (p - k) = Ieee.double.nearest false m p := by
  have hk : 0 < 2 ^ k := (Nat.two_pow_pos _)
  by_cases h0 : m = 0
  · subst h0; simp [Ieee.Format.nearest]
  have h1 : m * 2 ^ k ≠ 0 := Nat.mul_ne_zero h0 (by omega)
  have hl : m.log2 ≤ 52 := by have := (Nat.log2_lt h0).2 hm; omega
  unfold Ieee.Format.nearest
  rw [if_neg h0, if_neg h1, log2_shift m k h0]
  have hf : ((Ieee.double.fractionBits : Nat) : Int) = 52 := rfl
  have hlp : Ieee.double.leastPlace = -1074 := by decide
  have hlast : max (p - (k : Int) + ((m.log2 + k : Nat) : Int) - (Ieee.double.fractionBits : Int)) Ieee.double.leastPlace = max (p + (m.log2 : Int) - (Ieee.double.fractionBits : Int)) Ieee.double.leastPlace := by
    congr 1
    omega
  simp only [hlast]
  have hL : max (p + (m.log2 : Int) - (Ieee.double.fractionBits : Int)) Ieee.double.leastPlace ≤ p := by rw [hf, hlp]; omega
  generalize max (p + (m.log2 : Int) - (Ieee.double.fractionBits : Int)) Ieee.double.leastPlace = L at *
  have e2 : Ieee.Toward.even.cut false (m <<< (p - L).toNat) (L - p).toNat = m * 2 ^ (p - L).toNat := by
    rw [show (L - p).toNat = 0 by omega, Nat.shiftLeft_eq]
    simp [Ieee.Toward.cut, Nat.mod_one]
  have e1 : Ieee.Toward.even.cut false ((m * 2 ^ k) <<< (p - (k : Int) - L).toNat) (L - (p - (k : Int))).toNat = m * 2 ^ (p - L).toNat := by
    by_cases hc : L ≤ p - (k : Int)
    · rw [show (L - (p - (k : Int))).toNat = 0 by omega, Nat.shiftLeft_eq, Nat.mul_assoc, ← Nat.pow_add, show k + (p - (k : Int) - L).toNat = (p - L).toNat by omega]
      simp [Ieee.Toward.cut, Nat.mod_one]
    · rw [show (p - (k : Int) - L).toNat = 0 by omega, Nat.shiftLeft_zero]
      have hd : (L - (p - (k : Int))).toNat = k - (p - L).toNat := by omega
      have hd2 : (p - L).toNat ≤ k := by omega
      rw [hd]
      generalize (p - L).toNat = q at *
      have hmin : min (k - q) ((m * 2 ^ k).log2 + 2) = k - q := by
        rw [log2_shift m k h0]; omega
      have he : m * 2 ^ k = m * 2 ^ q * 2 ^ (k - q) := by
        rw [Nat.mul_assoc, ← Nat.pow_add, show q + (k - q) = k by omega]
      have hq : 0 < 2 ^ (k - q) := (Nat.two_pow_pos _)
      unfold Ieee.Toward.cut
      simp only [hmin, Nat.shiftLeft_eq, Nat.one_mul]
      rw [he, Nat.mul_div_cancel _ hq, Nat.mul_mod_left]
      have : (decide (2 ^ (k - q) < 2 * 0) || (2 ^ (k - q) == 2 * 0 && m * 2 ^ q % 2 == 1)) = false := by
        have h3 : ¬ 2 ^ (k - q) < 2 * 0 := by omega
        have h4 : ¬ (2 ^ (k - q) = 2 * 0) := by omega
        simp only [h3, decide_false, Bool.false_or, Bool.and_eq_false_imp, beq_iff_eq]
        intro h5; exact absurd h5 h4
      rw [this]
      rfl
  rw [e1, e2]

theorem write_at (n k : Nat) (hn : n < 2 ^ 53) : Ieee.double.nearest false (n * 2 ^ k) (-(k : Int)) = F n := by
  rw [F_def, ← nearest_shift n k 0 hn (by decide)]
  congr 1
  omega

theorem neg_zero : Ieee.double.read 9223372036854775808 = (Ieee.double.read (F 0)).opposite := by decide +kernel
theorem neg_one : Ieee.double.read 13830554455654793216 = (Ieee.double.read (F 1)).opposite := by decide +kernel

theorem add_F (a b : Nat) (ha : a < 4200) (hb : b < 4200) : floatBits .add .f64 (F a) (F b) = some (F (a + b)) := by
  obtain ⟨m, i, r1, h1, h2, h3, h4⟩ := read_F a ha
  obtain ⟨n, j, r2, h5, h6, h7, h8⟩ := read_F b hb
  show ((Ieee.double.read (F a)).sum (Ieee.double.read (F b))).map Ieee.double.write = _
  rw [r1, r2]
  simp only [Ieee.Datum.sum, Ieee.signed, Bool.false_eq_true, if_false, Option.map_some]
  have e1 : m <<< (i - min i j).toNat = a * 2 ^ (-(min i j)).toNat := by
    rw [h4, Nat.shiftLeft_eq, Nat.mul_assoc, ← Nat.pow_add]
    congr 2
    omega
  have e2 : n <<< (j - min i j).toNat = b * 2 ^ (-(min i j)).toNat := by
    rw [h8, Nat.shiftLeft_eq, Nat.mul_assoc, ← Nat.pow_add]
    congr 2
    omega
  rw [e1, e2]
  have hk : min i j = -(((-(min i j)).toNat : Nat) : Int) := by omega
  generalize (-(min i j)).toNat = k at *
  rw [hk, ← write_at (a + b) k (by omega), Nat.add_mul]
  generalize a * 2 ^ k = x
  generalize b * 2 ^ k = y
  have hs : (if ((x : Nat) : Int) + ((y : Nat) : Int) = 0 then false && false else decide (((x : Nat) : Int) + ((y : Nat) : Int) < 0)) = false := by
    split
    · rfl
    · exact decide_eq_false (by omega)
  rw [hs]
  show some (Ieee.double.nearest false _ _) = _
  congr 2

theorem sum_opp (a b : Nat) (ha : a < 4200) (hb : b ≤ a) : ((Ieee.double.read (F a)).sum (Ieee.double.read (F b)).opposite).map Ieee.double.write = some (F (a - b)) := by
  obtain ⟨m, i, r1, h1, h2, h3, h4⟩ := read_F a ha
  obtain ⟨n, j, r2, h5, h6, h7, h8⟩ := read_F b (by omega)
  rw [r1, r2]
  simp only [Ieee.Datum.sum, Ieee.Datum.opposite, Ieee.signed, Bool.false_eq_true, if_false, Option.map_some, Bool.not_false, if_true]
  have e1 : m <<< (i - min i j).toNat = a * 2 ^ (-(min i j)).toNat := by
    rw [h4, Nat.shiftLeft_eq, Nat.mul_assoc, ← Nat.pow_add]
    congr 2
    omega
  have e2 : n <<< (j - min i j).toNat = b * 2 ^ (-(min i j)).toNat := by
    rw [h8, Nat.shiftLeft_eq, Nat.mul_assoc, ← Nat.pow_add]
    congr 2
    omega
  rw [e1, e2]
  have hk : min i j = -(((-(min i j)).toNat : Nat) : Int) := by omega
  generalize (-(min i j)).toNat = k at *
  rw [hk, ← write_at (a - b) k (by omega), Nat.sub_mul]
  have hle : b * 2 ^ k ≤ a * 2 ^ k := Nat.mul_le_mul_right _ hb
  generalize a * 2 ^ k = x at *
  generalize b * 2 ^ k = y at *
  have hs : (if ((x : Nat) : Int) + -((y : Nat) : Int) = 0 then false && true else decide (((x : Nat) : Int) + -((y : Nat) : Int) < 0)) = false := by
    split
    · rfl
    · exact decide_eq_false (by omega)
  rw [hs]
  show some (Ieee.double.nearest false _ _) = _
  congr 2
  omega

theorem sub_F (a b : Nat) (ha : a < 4200) (hb : b ≤ a) : floatBits .sub .f64 (F a) (F b) = some (F (a - b)) := sum_opp a b ha hb

theorem add_one (n : Nat) (h : n < 4199) : floatBits .add .f64 (F n) 4607182418800017408 = some (F (n + 1)) := by rw [← F_one]; exact add_F n 1 (by omega) (by decide)
theorem add_zero (n : Nat) (h : n < 4200) : floatBits .add .f64 (F n) 0 = some (F n) := add_F n 0 h (by decide)
theorem add_negzero (n : Nat) (h : n < 4200) : floatBits .add .f64 (F n) 9223372036854775808 = some (F n) := by
  show ((Ieee.double.read (F n)).sum (Ieee.double.read 9223372036854775808)).map Ieee.double.write = _
  rw [neg_zero]; exact sum_opp n 0 h (by omega)
theorem add_minus (n : Nat) (h : n < 4199) : floatBits .add .f64 (F (n + 1)) 13830554455654793216 = some (F n) := by
  show ((Ieee.double.read (F (n + 1))).sum (Ieee.double.read 13830554455654793216)).map Ieee.double.write = _
  rw [neg_one]; exact sum_opp (n + 1) 1 (by omega) (by omega)
theorem add_minus_zero : floatBits .add .f64 (F 0) 13830554455654793216 = some 13830554455654793216 := by decide +kernel
theorem sub_one (n : Nat) (h : n < 4199) : floatBits .sub .f64 (F (n + 1)) 4607182418800017408 = some (F n) := by rw [← F_one]; exact sub_F (n + 1) 1 (by omega) (by omega)

theorem to_int (n : Nat) (h : n < 4200) : floatToIntVal .f64 (F n) .i64 = some (n : Int) := by
  obtain ⟨m, p, r1, h1, h2, h3, h4⟩ := read_F n h
  have e : (FloatKind.f64.decode (F n)).toInt .zero = some (n : Int) := by
    show (Ieee.double.read (F n)).toInt .zero = _
    rw [r1]
    simp only [Ieee.Datum.toInt, Ieee.Datum.integral, Ieee.signed, Bool.false_eq_true, if_false]
    rw [show p.toNat = 0 by omega, Nat.shiftLeft_zero, Nat.shiftLeft_zero]
    generalize (-p).toNat = k at *
    congr 2
    subst h4
    by_cases h0 : n = 0
    · subst h0; simp [Ieee.Toward.cut]
    · unfold Ieee.Toward.cut
      have hmin : min k ((n * 2 ^ k).log2 + 2) = k := by rw [log2_shift n k h0]; omega
      simp only [hmin, Nat.shiftLeft_eq, Nat.one_mul]
      rw [Nat.mul_div_cancel _ ((Nat.two_pow_pos _))]
      rfl
  unfold floatToIntVal
  rw [e]
  have h1 : IntKind.min .i64 ≤ (n : Int) := by show (-9223372036854775808 : Int) ≤ _; omega
  have h2 : (n : Int) ≤ IntKind.max .i64 := by show _ ≤ (9223372036854775807 : Int); omega
  simp only [h1, h2, and_self, if_true]

theorem order_F (a b : Nat) (ha : a < 4200) (hb : b < 4200) : FloatKind.f64.format.order (F a) (F b) = some (compare a b) := by
  obtain ⟨m, i, r1, h1, h2, h3, h4⟩ := read_F a ha
  obtain ⟨n, j, r2, h5, h6, h7, h8⟩ := read_F b hb
  show ((Ieee.double.read (F a)).order (Ieee.double.read (F b))) = _
  rw [r1, r2]
  simp only [Ieee.Datum.order, Ieee.signed, Bool.false_eq_true, if_false, Option.some.injEq]
  have e1 : m <<< (i - min i j).toNat = a * 2 ^ (-(min i j)).toNat := by
    rw [h4, Nat.shiftLeft_eq, Nat.mul_assoc, ← Nat.pow_add]
    congr 2
    omega
  have e2 : n <<< (j - min i j).toNat = b * 2 ^ (-(min i j)).toNat := by
    rw [h8, Nat.shiftLeft_eq, Nat.mul_assoc, ← Nat.pow_add]
    congr 2
    omega
  rw [e1, e2]
  generalize (-(min i j)).toNat = k at *
  have hk : 0 < 2 ^ k := (Nat.two_pow_pos _)
  rcases Nat.lt_trichotomy a b with h | h | h
  · have := Nat.mul_lt_mul_of_pos_right h hk
    rw [Nat.compare_eq_lt.2 h, Int.compare_eq_lt.2 (by omega)]
  · subst h
    rw [Nat.compare_eq_eq.2 rfl, Int.compare_eq_eq.2 rfl]
  · have := Nat.mul_lt_mul_of_pos_right h hk
    rw [Nat.compare_eq_gt.2 h, Int.compare_eq_gt.2 (by omega)]
theorem order_minus : FloatKind.f64.format.order 0 13830554455654793216 = some .gt := by decide +kernel
theorem sign_F (n : Nat) (h : n < 4200) : (FloatKind.f64.decode (F n)).neg = false := by
  obtain ⟨m, p, r1, _⟩ := read_F n h
  show (Ieee.double.read (F n)).neg = false
  rw [r1]; rfl
end Go.Proofs.Ytgkkafihipaieaa.Flt

/- A script as a plain function: what is written is read back; what is read was written so; what is cut off. Plain laws. -/
import Derived.Test.YthhibgkgbcdjnaaScrP
namespace Go.Proofs.Ythhibgkgbcdjnaa.ScrP
open Go.Proofs.YthhibgkgbcdjnaaW.PrintWords

def flat (L : List Ev) : List Int := (L.map evBytes).flatten
theorem flat_nil : flat [] = [] := rfl
theorem flat_cons (e : Ev) (L : List Ev) : flat (e :: L) = evBytes e ++ flat L := rfl
theorem flat_append (L M : List Ev) : flat (L ++ M) = flat L ++ flat M := by simp [flat]
theorem flat_one (e : Ev) : flat [e] = evBytes e := by simp [flat]
theorem encB_eq (c : Cf) (L : List Ev) : encB c L = cfBytes c ++ flat L := rfl

/-- one event's step -/
theorem decGo_step (fuel : Nat) (b : List Int) (k : Nat) (out : List Ev) (e : Ev) (n : Nat) (hk : k < b.length) (h : oneP (b.drop k) = (e, n, 0)) (ho : out.length ≠ 8192) :
    decGo (fuel + 1) b k out = decGo fuel b (k + n) (out ++ [e]) := by
  rw [decGo, if_pos hk, h]
  simp only [if_true]
  rw [if_neg ho]
theorem decGo_full (fuel : Nat) (b : List Int) (k : Nat) (out : List Ev) (e : Ev) (n : Nat) (hk : k < b.length) (h : oneP (b.drop k) = (e, n, 0)) (ho : out.length = 8192) :
    decGo (fuel + 1) b k out = (out, k, 6) := by
  rw [decGo, if_pos hk, h]
  simp only [if_true]
  rw [if_pos ho]
theorem decGo_bad (fuel : Nat) (b : List Int) (k : Nat) (out : List Ev) (x : Nat) (hk : k < b.length) (h : (oneP (b.drop k)).2.2 = x) (hx : x ≠ 0) :
    decGo (fuel + 1) b k out = (out, k, x) := by
  rw [decGo, if_pos hk]
  simp only [h]
  rw [if_neg hx]
theorem decGo_end (fuel : Nat) (b : List Int) (k : Nat) (out : List Ev) (hk : ¬ k < b.length) : decGo fuel b k out = (out, k, 0) := by
  cases fuel with
  | zero => rfl
  | succ f => rw [decGo, if_neg hk]

theorem evBytes_pos (e : Ev) : 7 ≤ (evBytes e).length := by rw [evBytes_len]; omega

/-- what is written is read back -/
theorem decGo_enc : ∀ (L : List Ev) (fuel : Nat) (pre : List Int) (out : List Ev), (∀ e ∈ L, evB e = true) → L.length ≤ fuel → out.length + L.length ≤ 8192 →
    decGo fuel (pre ++ flat L) pre.length out = (out ++ L, (pre ++ flat L).length, 0)
  | [], fuel, pre, out, _, _, _ => by
    rw [flat_nil, List.append_nil, List.append_nil]
    exact decGo_end fuel pre pre.length out (by omega)
  | e :: L, 0, pre, out, _, hf, _ => by simp at hf
  | e :: L, fuel + 1, pre, out, h, hf, ho => by
    simp only [List.length_cons] at hf ho
    have h1 := one_enc e (flat L) (h e (by simp))
    have hd : (pre ++ flat (e :: L)).drop pre.length = evBytes e ++ flat L := by rw [List.drop_left, flat_cons]
    have hp := evBytes_pos e
    rw [decGo_step fuel _ pre.length out e (7 + e.d.size) (by rw [flat_cons]; simp only [List.length_append]; omega) (by rw [hd]; exact h1) (by omega)]
    have ih := decGo_enc L fuel (pre ++ evBytes e) (out ++ [e]) (fun x hx => h x (by simp [hx])) (by omega) (by simp; omega)
    rw [List.append_assoc, ← flat_cons, List.length_append, evBytes_len] at ih
    rw [ih, List.append_assoc]
    rfl

/-- too many -/
theorem decGo_many : ∀ (L : List Ev) (fuel : Nat) (pre : List Int) (out : List Ev), (∀ e ∈ L, evB e = true) → L.length ≤ fuel → out.length ≤ 8192 → 8192 < out.length + L.length →
    decGo fuel (pre ++ flat L) pre.length out = (out ++ L.take (8192 - out.length), (pre ++ flat (L.take (8192 - out.length))).length, 6)
  | [], fuel, pre, out, _, _, ho, h2 => by simp at h2; omega
  | e :: L, 0, pre, out, _, hf, _, _ => by simp at hf
  | e :: L, fuel + 1, pre, out, h, hf, ho, h2 => by
    simp only [List.length_cons] at hf h2
    have h1 := one_enc e (flat L) (h e (by simp))
    have hd : (pre ++ flat (e :: L)).drop pre.length = evBytes e ++ flat L := by rw [List.drop_left, flat_cons]
    have hp := evBytes_pos e
    have hlt : pre.length < (pre ++ flat (e :: L)).length := by rw [flat_cons]; simp only [List.length_append]; omega
    by_cases h8 : out.length = 8192
    · rw [decGo_full fuel _ pre.length out e (7 + e.d.size) hlt (by rw [hd]; exact h1) h8, h8]
      simp [flat_nil]
    · rw [decGo_step fuel _ pre.length out e (7 + e.d.size) hlt (by rw [hd]; exact h1) h8]
      have ih := decGo_many L fuel (pre ++ evBytes e) (out ++ [e]) (fun x hx => h x (by simp [hx])) (by omega) (by simp; omega) (by simp; omega)
      rw [List.append_assoc, ← flat_cons, List.length_append, evBytes_len] at ih
      rw [ih]
      have h3 : 8192 - out.length = (8192 - (out ++ [e]).length) + 1 := by simp; omega
      rw [h3, List.take_succ_cons, flat_cons, List.append_assoc, List.append_assoc]
      rfl

theorem one_cut (e : Ev) (rest : List Int) (h : evB e = true) (k : Nat) (hk : k < 7 + e.d.size) : oneP ((evBytes e ++ rest).take k) = (ev0, 0, 5) := by
  have hlen : ((evBytes e ++ rest).take k).length = k := by rw [List.length_take, List.length_append, evBytes_len]; omega
  have hd := (evB_facts h).2.2.2
  unfold oneP
  by_cases h7 : k < 7
  · rw [if_pos (by omega)]
  · rw [if_neg (by omega)]
    have h5 : rdN ((((evBytes e ++ rest).take k).take 7).drop 5) = (e.d.size : Int) := by
      rw [List.take_take, show min 7 k = 7 by omega]
      have e0 : evBytes e ++ rest = (e.k % 256) :: (e.i % 256) :: (e.n / 65536 % 256) :: (e.n / 256 % 256) :: (e.n % 256) :: ((e.d.size : Int) / 256 % 256) :: ((e.d.size : Int) % 256) :: (bytesOf e.d ++ rest) := by
        simp [evBytes, be3, be2]
      rw [e0]
      simp [rdN]
      omega
    rw [h5, Int.toNat_natCast]
    simp only []
    rw [if_pos (by omega)]

/-- what is cut off -/
theorem decGo_cut : ∀ (L : List Ev) (fuel : Nat) (pre : List Int) (out : List Ev) (k : Nat), (∀ e ∈ L, evB e = true) → L.length < fuel → out.length + L.length ≤ 8192 → pre.length ≤ k → k ≤ (pre ++ flat L).length →
    ∃ j x at_, j ≤ L.length ∧ decGo fuel ((pre ++ flat L).take k) pre.length out = (out ++ L.take j, at_, x) ∧ (x = 0 ∨ x = 5) ∧ (x = 0 → at_ = k)
  | [], fuel, pre, out, k, _, _, _, h1, h2 => by
    rw [flat_nil, List.append_nil] at h2 ⊢
    have : k = pre.length := by omega
    subst this
    refine ⟨0, 0, pre.length, Nat.zero_le _, ?_, .inl rfl, fun _ => rfl⟩
    rw [List.take_length, decGo_end fuel pre pre.length out (by omega)]
    simp
  | e :: L, 0, pre, out, k, _, hf, _, _, _ => by omega
  | e :: L, fuel + 1, pre, out, k, h, hf, ho, h1, h2 => by
    simp only [List.length_cons] at hf ho
    have hp := evBytes_pos e
    have hlk : ((pre ++ flat (e :: L)).take k).length = k := by rw [List.length_take]; omega
    by_cases hk0 : k = pre.length
    · subst hk0
      refine ⟨0, 0, pre.length, Nat.zero_le _, ?_, .inl rfl, fun _ => rfl⟩
      rw [decGo_end (fuel + 1) _ pre.length out (by omega)]
      simp
    have hd : ((pre ++ flat (e :: L)).take k).drop pre.length = (evBytes e ++ flat L).take (k - pre.length) := by
      rw [List.drop_take, List.drop_left, flat_cons]
    by_cases hs : k - pre.length < 7 + e.d.size
    · refine ⟨0, 5, pre.length, Nat.zero_le _, ?_, .inr rfl, by omega⟩
      rw [decGo_bad fuel _ pre.length out 5 (by omega) (by rw [hd, one_cut e _ (h e (by simp)) _ hs]) (by decide)]
      simp
    · have ht : (evBytes e ++ flat L).take (k - pre.length) = evBytes e ++ (flat L).take (k - pre.length - (7 + e.d.size)) := by
        rw [List.take_append, List.take_of_length_le (by rw [evBytes_len]; omega), evBytes_len]
      have h3 := one_enc e ((flat L).take (k - pre.length - (7 + e.d.size))) (h e (by simp))
      rw [decGo_step fuel _ pre.length out e (7 + e.d.size) (by omega) (by rw [hd, ht]; exact h3) (by omega)]
      obtain ⟨j, x, at_, hj, hr, hx, hx0⟩ := decGo_cut L fuel (pre ++ evBytes e) (out ++ [e]) k (fun x hx => h x (by simp [hx])) (by omega) (by simp; omega) (by rw [List.length_append, evBytes_len]; omega) (by rw [List.append_assoc, ← flat_cons]; exact h2)
      refine ⟨j + 1, x, at_, by simp; omega, ?_, hx, hx0⟩
      rw [List.append_assoc, ← flat_cons, List.length_append, evBytes_len] at hr
      rw [hr, List.append_assoc]
      rfl

theorem seven (b : List Int) (h : 7 ≤ b.length) : ∃ b0 b1 b2 b3 b4 b5 b6 t, b = b0 :: b1 :: b2 :: b3 :: b4 :: b5 :: b6 :: t := by
  rcases b with _ | ⟨b0, _ | ⟨b1, _ | ⟨b2, _ | ⟨b3, _ | ⟨b4, _ | ⟨b5, _ | ⟨b6, t⟩⟩⟩⟩⟩⟩⟩
  all_goals first | (simp at h; done) | exact ⟨_, _, _, _, _, _, _, _, rfl⟩
/-- the bytes of an event that was read -/
theorem one_back (b : List Int) (hb : isB b) (e : Ev) (n : Nat) (h : oneP b = (e, n, 0)) : evB e = true ∧ 7 ≤ n ∧ n ≤ b.length ∧ b.take n = evBytes e := by
  unfold oneP at h
  by_cases h7 : b.length < 7
  · rw [if_pos h7] at h; simp at h
  rw [if_neg h7] at h
  simp only [] at h
  obtain ⟨m, hm⟩ : ∃ m, (rdN ((b.take 7).drop 5)).toNat = m := ⟨_, rfl⟩
  rw [hm] at h
  by_cases hs : b.length < 7 + m
  · rw [if_pos hs] at h; simp at h
  rw [if_neg hs] at h
  obtain ⟨b0, b1, b2, b3, b4, b5, b6, t, rfl⟩ := seven b (by omega)
  have r0 := hb b0 (by simp)
  have r1 := hb b1 (by simp)
  have r2 := hb b2 (by simp)
  have r3 := hb b3 (by simp)
  have r4 := hb b4 (by simp)
  have r5 := hb b5 (by simp)
  have r6 := hb b6 (by simp)
  have rt : isB t := fun x hx => hb x (by simp [hx])
  simp only [List.length_cons] at hs
  have e1 : (List.take (7 + m) (b0 :: b1 :: b2 :: b3 :: b4 :: b5 :: b6 :: t)).drop 7 = t.take m := by
    rw [Nat.add_comm 7]
    simp
  have hm2 : m = b5 * 256 + b6 := by
    rw [← hm]; simp [rdN]; omega
  rw [e1] at h
  by_cases hE : evB ⟨(b0 :: b1 :: b2 :: b3 :: b4 :: b5 :: b6 :: t).getD 0 0, (b0 :: b1 :: b2 :: b3 :: b4 :: b5 :: b6 :: t).getD 1 0, rdN ((List.take 5 (b0 :: b1 :: b2 :: b3 :: b4 :: b5 :: b6 :: t)).drop 2), strOfNums (t.take m)⟩ = true
  · rw [if_pos hE] at h
    simp only [Prod.mk.injEq] at h
    obtain ⟨rfl, rfl, _⟩ := h
    refine ⟨hE, by omega, by simp; omega, ?_⟩
    have hts : (strOfNums (t.take m)).size = m := by
      rw [← bytesOf_length, ]
      simp [strOfNums, bytesOf]
      omega
    have htb : bytesOf (strOfNums (t.take m)) = t.take m := by
      simp only [strOfNums, bytesOf]
      simp only [List.map_map]
      conv => rhs; rw [← List.map_id (t.take m)]
      apply List.map_congr_left
      intro x hx
      have := rt x (List.mem_of_mem_take hx)
      simp
      omega
    simp only [evBytes, be3, be2, hts, htb]
    rw [Nat.add_comm 7]
    simp [rdN]
    omega
  · rw [if_neg hE] at h; simp at h

/-- what was read -/
theorem decGo_back : ∀ (fuel : Nat) (b : List Int) (k : Nat) (out : List Ev) (pre : List Int), isB b → b.length ≤ k + fuel → k ≤ b.length → (∀ e ∈ out, evB e = true) → b.take k = pre ++ flat out → out.length ≤ 8192 →
    ∃ L at_ x, decGo fuel b k out = (L, at_, x) ∧ (∀ e ∈ L, evB e = true) ∧ k ≤ at_ ∧ at_ ≤ b.length ∧ b.take at_ = pre ++ flat L ∧ L.length ≤ 8192 ∧ (x = 0 → at_ = b.length) ∧ (x ≠ 0 → at_ < b.length) ∧ (x = 6 → L.length = 8192) ∧ (x ≠ 0 → x ≠ 6 → (oneP (b.drop at_)).2.2 = x)
  | 0, b, k, out, pre, hb, hf, hk, ho, ht, h8 => ⟨out, k, 0, rfl, ho, Nat.le_refl _, hk, ht, h8, fun _ => by omega, fun h => absurd rfl h, by omega, fun h => absurd rfl h⟩
  | fuel + 1, b, k, out, pre, hb, hf, hk, ho, ht, h8 => by
    by_cases hlt : k < b.length
    · by_cases hx : (oneP (b.drop k)).2.2 = 0
      · obtain ⟨e, n, hen⟩ : ∃ e n, oneP (b.drop k) = (e, n, 0) := ⟨(oneP (b.drop k)).1, (oneP (b.drop k)).2.1, by rw [← hx]⟩
        obtain ⟨g1, g2, g3, g4⟩ := one_back (b.drop k) (fun x hx => hb x (List.mem_of_mem_drop hx)) e n hen
        by_cases h9 : out.length = 8192
        · rw [decGo_full fuel b k out e n hlt hen h9]
          exact ⟨out, k, 6, rfl, ho, Nat.le_refl _, hk, ht, h8, by omega, fun _ => hlt, fun _ => h9, by omega⟩
        · rw [decGo_step fuel b k out e n hlt hen h9]
          simp only [List.length_drop] at g3
          obtain ⟨L, at_, x, e1, e2, e3, e4, e5, e6⟩ := decGo_back fuel b (k + n) (out ++ [e]) pre hb (by omega) (by omega) (fun y hy => by
            rcases List.mem_append.1 hy with hy | hy
            · exact ho y hy
            · simp at hy; rw [hy]; exact g1) (by
              rw [List.take_add, ht, g4, flat_append, flat_one, List.append_assoc]) (by simp; omega)
          exact ⟨L, at_, x, e1, e2, by omega, e4, e5, e6⟩
      · rw [decGo_bad fuel b k out _ hlt rfl hx]
        refine ⟨out, k, _, rfl, ho, Nat.le_refl _, hk, ht, h8, fun h => absurd h hx, fun _ => hlt, fun h6 => ?_, fun _ _ => rfl⟩
        exfalso
        revert h6
        unfold oneP
        split
        · simp
        · simp only []
          split
          · simp
          · split <;> simp
    · rw [decGo_end _ b k out hlt]
      exact ⟨out, k, 0, rfl, ho, Nat.le_refl _, hk, ht, h8, fun _ => by omega, fun h => absurd rfl h, by omega, fun h => absurd rfl h⟩
theorem one_codes (b : List Int) : (oneP b).2.2 = 0 ∨ (oneP b).2.2 = 5 ∨ (oneP b).2.2 = 8 := by
  unfold oneP
  split
  · simp
  · simp only []
    split
    · simp
    · split <;> simp

theorem cfB_facts {c : Cf} (h : cfB c = true) : (1 ≤ c.a0 ∧ c.a0 ≤ 65536) ∧ (1 ≤ c.a1 ∧ c.a1 ≤ 2042) ∧ (220 ≤ c.a2 ∧ c.a2 ≤ 65536) ∧ (1 ≤ c.a3 ∧ c.a3 ≤ 65536) ∧ (0 ≤ c.a4 ∧ c.a4 ≤ 9) ∧ (1 ≤ c.a5 ∧ c.a5 ≤ 1000) ∧ (0 ≤ c.a6 ∧ c.a6 ≤ 1000) ∧ (1 ≤ c.a7 ∧ c.a7 ≤ 500) := of_decide_eq_true h
theorem cfOf_enc (c : Cf) (rest : List Int) (h : cfB c = true) : cfOf (cfBytes c ++ rest) = c := by
  obtain ⟨h0, h1, h2, h3, h4, h5, h6, h7⟩ := cfB_facts h
  cases c
  simp only [cfOf, cfBytes, cfL, List.map_cons, List.map_nil, List.flatten_cons, List.flatten_nil, be3, List.cons_append, List.nil_append, List.append_nil, List.take_succ_cons, List.drop_succ_cons, List.take_zero, List.drop_zero, rdN, List.foldl_cons, List.foldl_nil, Cf.mk.injEq] at *
  omega
theorem be3_back (l : List Int) (h : l.length = 3) (hb : isB l) : be3 (rdN l) = l := by
  rcases l with _ | ⟨a, _ | ⟨b, _ | ⟨c, _ | ⟨d, t⟩⟩⟩⟩
  all_goals first | (simp at h; done) | skip
  have h0 := hb a (by simp)
  have h1 := hb b (by simp)
  have h2 := hb c (by simp)
  simp only [be3, rdN, List.foldl_cons, List.foldl_nil, List.cons.injEq, and_true]
  omega
theorem take_mid (b : List Int) (m n : Nat) (h : m ≤ n) : b.take m ++ (b.take n).drop m = b.take n := by
  have := List.take_append_drop m (b.take n)
  rw [List.take_take, Nat.min_eq_left h] at this
  exact this
theorem cfBytes_of (b : List Int) (hb : isB b) (h : 24 ≤ b.length) : cfBytes (cfOf b) = b.take 24 := by
  have hp : ∀ m n, n = m + 3 → n ≤ 24 → be3 (rdN ((b.take n).drop m)) = (b.take n).drop m := fun m n e hn => be3_back _ (by simp; omega) (fun x hx => hb x (List.mem_of_mem_take (List.mem_of_mem_drop hx)))
  simp only [cfBytes, cfOf, cfL, List.map_cons, List.map_nil, List.flatten_cons, List.flatten_nil, List.append_nil]
  rw [hp 0 3 rfl (by omega), hp 3 6 rfl (by omega), hp 6 9 rfl (by omega), hp 9 12 rfl (by omega), hp 12 15 rfl (by omega), hp 15 18 rfl (by omega), hp 18 21 rfl (by omega), hp 21 24 rfl (by omega), List.drop_zero]
  simp only [← List.append_assoc]
  rw [take_mid b 3 6 (by omega), take_mid b 6 9 (by omega), take_mid b 9 12 (by omega), take_mid b 12 15 (by omega), take_mid b 15 18 (by omega), take_mid b 18 21 (by omega), take_mid b 21 24 (by omega)]
end Go.Proofs.Ythhibgkgbcdjnaa.ScrP

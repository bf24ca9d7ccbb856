/- kibitzertop: few. -/
import Derived.Test.YtfkamoiamebngaaGreatDoorM22
import Derived.Test.YtfkamoiamebngaaGreatDoorM15
import Derived.BigQuiet
import Derived.Test.YtfkamoiamebngaaGreatDoorM19
import Derived.Test.YtfkamoiamebngaaGreatDoorM03
import Derived.ChangeSame
namespace Go.Proofs.YtfkamoiamebngaaGreatDoor.BroW
open Go.RowKit Go.Proofs.YtfkamoiamebngaaGreatDoorW.PrintWords Go.Proofs.YtfkamoiamebngaaGreatDoorW.PrintMore Go.Proofs.YtfkamoiamebngaaGreatDoor.Fr Go.Proofs.YtfkamoiamebngaaGreatDoor.ScrW Go.Proofs.YtfkamoiamebngaaGreatDoor.ScrP Go.Proofs.YtfkamoiamebngaaGreatDoor.Mod
set_option linter.unusedVariables false
set_option linter.unusedSimpArgs false

end Go.Proofs.YtfkamoiamebngaaGreatDoor.BroW

/- kibitzertop: WholeStays, the plain law: what is refused leaves all as it was. Plain. -/
namespace Go.Proofs.YtfkamoiamebngaaGreatDoor.Mod
open Go.RowKit Go.Proofs.YtfkamoiamebngaaGreatDoorW.PrintWords Go.Proofs.YtfkamoiamebngaaGreatDoor.ScrP Go.Proofs.YtfkamoiamebngaaGreatDoor.LexP Go.Proofs.YtfkamoiamebngaaGreatDoor.BroW
set_option linter.unusedVariables false

theorem step_err (S : St) (e : Ev) (h : (step S e).2.1 ≠ 0) : (step S e).1 = S := by
  unfold step at h ⊢
  split
  · rename_i hev
    rw [if_pos hev] at h
    split
    · rename_i hk
      rw [if_pos hk] at h
      simp only at h ⊢
      unfold connectM at h ⊢
      split
      · rfl
      · rename_i h1
        rw [if_neg h1] at h
        split
        · rfl
        · rename_i h2
          rw [if_neg h2] at h
          exact absurd rfl h
    · rename_i hk
      rw [if_neg hk] at h
      split
      · rename_i hk
        rw [if_pos hk] at h
        simp only at h ⊢
        unfold bytesM at h ⊢
        split
        · rfl
        · rename_i c hc
          simp only [hc] at h
          split
          · rfl
          · rename_i h1
            rw [if_neg h1] at h
            exact absurd rfl h
      · rename_i hk
        rw [if_neg hk] at h
        split
        · rename_i hk
          rw [if_pos hk] at h
          simp only at h ⊢
          unfold writeM at h ⊢
          split
          · rfl
          · rename_i c hc
            simp only [hc] at h
            exact absurd rfl h
        · rename_i hk
          rw [if_neg hk] at h
          split
          · rename_i hk
            rw [if_pos hk] at h
            simp only at h ⊢
            unfold outputM at h ⊢
            split
            · rfl
            · rename_i h1
              rw [if_neg h1] at h
              exact absurd rfl h
          · rename_i hk
            rw [if_neg hk] at h
            split
            · rename_i hk
              rw [if_pos hk] at h
              exact absurd rfl h
            · rename_i hk
              rw [if_neg hk] at h
              split
              · rename_i hk
                rw [if_pos hk] at h
                exact absurd rfl h
              · rename_i hk
                rw [if_neg hk] at h
                split
                · rename_i hk
                  rw [if_pos hk] at h
                  simp only at h ⊢
                  unfold cutM at h ⊢
                  split
                  · rename_i h1
                    rw [if_pos h1] at h
                    exact absurd rfl h
                  · rfl
                · rename_i hk
                  rw [if_neg hk] at h
                  simp only at h ⊢
                  unfold endM at h ⊢
                  split
                  · rfl
                  · rename_i h1
                    rw [if_neg h1] at h
                    split
                    · rfl
                    · rename_i h2
                      rw [if_neg h2] at h
                      exact absurd rfl h
  · rfl
/-- the events that were not refused, and what came of these -/
def okL (Z : List (Ev × (Int × List Int))) : List Ev := (Z.filter fun p => p.2.1 == 0).map Prod.fst
def okR (Z : List (Ev × (Int × List Int))) : List (Int × List Int) := (Z.filter fun p => p.2.1 == 0).map Prod.snd
/-- without what was refused all others come to the same -/
theorem stays (L : List Ev) : ∀ S, (run (okL (L.zip (run L S).2)) S).2 = okR (L.zip (run L S).2) := by
  induction L with
  | nil => intro S; rfl
  | cons e L ih =>
    intro S
    show (run (okL ((e :: L).zip ((step S e).2 :: (run L (step S e).1).2))) S).2 = okR ((e :: L).zip ((step S e).2 :: (run L (step S e).1).2))
    rw [List.zip_cons_cons]
    by_cases h : (step S e).2.1 = 0
    · have e1 : okL ((e, (step S e).2) :: L.zip (run L (step S e).1).2) = e :: okL (L.zip (run L (step S e).1).2) := by simp [okL, h]
      have e2 : okR ((e, (step S e).2) :: L.zip (run L (step S e).1).2) = (step S e).2 :: okR (L.zip (run L (step S e).1).2) := by simp [okR, h]
      rw [e1, e2]
      show (step S e).2 :: (run _ (step S e).1).2 = _
      rw [ih]
    · have e1 : okL ((e, (step S e).2) :: L.zip (run L (step S e).1).2) = okL (L.zip (run L (step S e).1).2) := by simp [okL, h]
      have e2 : okR ((e, (step S e).2) :: L.zip (run L (step S e).1).2) = okR (L.zip (run L (step S e).1).2) := by simp [okR, h]
      rw [e1, e2]
      have hs := step_err S e h
      rw [hs]
      exact ih S
end Go.Proofs.YtfkamoiamebngaaGreatDoor.Mod

/- kibitzertop: WholeStays, the walk. -/
namespace Go.Proofs.YtfkamoiamebngaaGreatDoor.BroW
open Go.RowKit Go.Proofs.YtfkamoiamebngaaGreatDoorW.PrintWords Go.Proofs.YtfkamoiamebngaaGreatDoorW.PrintMore Go.Proofs.YtfkamoiamebngaaGreatDoor.Fr Go.Proofs.YtfkamoiamebngaaGreatDoor.ScrW Go.Proofs.YtfkamoiamebngaaGreatDoor.ScrP Go.Proofs.YtfkamoiamebngaaGreatDoor.Mod
set_option linter.unusedVariables false
set_option linter.unusedSimpArgs false

/-- what came of events, as it lies in memory -/
def ReadsOut (W : World) (A : Option Addr) (R : List (Int × List Int)) : Prop :=
  0 < R.length → ∃ ad, A = some ad ∧ ∀ j, j < R.length → W.cell? (ad.add (j * 2)) = some (.int .i64 (R.getD j (0, [])).1) ∧ W.cell? ⟨(ad.add (j * 2)).block, (ad.add (j * 2)).off + 1, none⟩ = some (.string (strOfNums (R.getD j (0, [])).2))
theorem outs_at0 : ∀ (L : List (Int × List Int)) (j : Nat), j < L.length → (outs L)[j * 2]? = some (.int .i64 (L.getD j (0, [])).1)
  | [], j, h => by simp at h
  | p :: L, 0, _ => by simp [outs, outC]
  | p :: L, j + 1, h => by
    have : outs (p :: L) = outC p ++ outs L := by simp [outs]
    rw [this, List.getElem?_append_right (by simp [outC]; omega), show (j + 1) * 2 - (outC p).length = j * 2 by simp [outC]; omega, outs_at0 L j (by simpa using h)]
    rfl
theorem readsOut {w : World} {base n m c : Nat} {A : Option Addr} {R : List (Int × List Int)} (h : w.ownsRow base 46 2 (.slice A m c) n (outs R)) (hn : n = R.length) : ReadsOut w A R := by
  subst hn
  intro h0
  obtain ⟨g, rfl⟩ := own_some h h0
  refine ⟨_, rfl, fun j hj => ?_⟩
  have hadd : (⟨g, 0, none⟩ : Addr).add (j * 2) = ⟨g, j * 2, none⟩ := by unfold Addr.add; split <;> simp_all
  rw [hadd]
  exact ⟨own_cellAt h (j * 2) _ (outs_at0 R j hj), own_cellAt h (j * 2 + 1) _ (outs_at R j hj)⟩
theorem ReadsOut.fr {w w1 : World} {A : Option Addr} {R : List (Int × List Int)} (h : ReadsOut w A R) (hF : Fr nope w w1) : ReadsOut w1 A R := by
  intro h0
  obtain ⟨ad, hA, hc⟩ := h h0
  exact ⟨ad, hA, fun j hj => ⟨fr_cell hF (hc j hj).1, fr_cell hF (hc j hj).2⟩⟩
theorem evs_snoc (L : List Ev) (e : Ev) : evs (L ++ [e]) = evs L ++ [.int .i64 e.k, .int .i64 e.i, .int .i64 e.n, .string e.d] := by
  simp [evs, evC]

end Go.Proofs.YtfkamoiamebngaaGreatDoor.BroW

/- A message's bytes are one frame, and the frame is the message. Plain. -/
namespace Go.Proofs.YtfkamoiamebngaaGreatDoor.Mod
open Go.RowKit Go.Proofs.YtfkamoiamebngaaGreatDoorW.PrintWords Go.Proofs.YtfkamoiamebngaaGreatDoor.ScrP Go.Proofs.YtfkamoiamebngaaGreatDoor.LexP Go.Proofs.YtfkamoiamebngaaGreatDoor.BroW
set_option linter.unusedVariables false

theorem bytes_str {l : List Int} (h : isB l) : bytesOf (strOfNums l) = l := by
  unfold bytesOf strOfNums
  simp only [List.map_map]
  rw [List.map_congr_left (g := id)]
  · simp
  · intro x hx
    have := h x hx
    simp only [Function.comp_apply, id_eq, UInt8.toNat_ofNat']
    omega
theorem be6_rd (n : Int) (h : 0 ≤ n) (h2 : n ≤ 1099511627776) : rdN (be6 n) = n := by simp [rdN, be6]; omega
theorem be6_len (n : Int) : (be6 n).length = 6 := rfl
theorem sh_bound (k : Int) : 6 * shN k + shT k ≤ 2048 := by
  unfold shN shT
  repeat' split
  all_goals omega
theorem mgB_facts {m : Mg} (h : mgB m = true) : (1 ≤ m.k ∧ m.k ≤ 15) ∧ (m.t.size : Int) ≤ shT m.k ∧ (0 ≤ m.a ∧ m.a ≤ 1099511627776) ∧ (0 ≤ m.b ∧ m.b ≤ 1099511627776) ∧ (0 < shN m.k ∨ m.a = 0) ∧ (1 < shN m.k ∨ m.b = 0) := by
  unfold mgB shO at h
  simp at h
  omega
theorem mBody_len (m : Mg) : ((mBody m).length : Int) = 6 * shN m.k + m.t.size := by
  have := shN_b m.k
  unfold mBody
  rw [List.length_append, List.length_append, bytesOf_length]
  by_cases h0 : 0 < shN m.k <;> by_cases h1 : 1 < shN m.k <;> simp [h0, h1, be6_len] <;> omega
theorem mB_eq {m : Mg} (h : mgB m = true) : mB m = be2 ((mBody m).length + 1) ++ (m.k :: mBody m) ++ be2 (sumOf (m.k :: mBody m)) := by
  have h1 := (mgB_facts h).2.1
  have h2 := mBody_len m
  have h3 := sh_bound m.k
  unfold mB frB
  rw [if_pos h, if_pos (by omega)]
theorem mB_size {m : Mg} (h : mgB m = true) : ((mB m).length : Int) = 5 + 6 * shN m.k + m.t.size := by
  have h2 := mBody_len m
  rw [mB_eq h]
  simp only [List.length_append, List.length_cons, be2_len]
  omega
theorem mB_le (m : Mg) : ((mB m).length : Int) ≤ 5 + 6 * shN m.k + m.t.size := by
  have h2 := mBody_len m
  have h3 := shN_b m.k
  unfold mB frB
  split
  · split
    · simp only [List.length_append, List.length_cons, be2_len]
      omega
    · simp only [List.length_nil]; omega
  · simp only [List.length_nil]; omega
theorem isB_be6 (n : Int) : isB (be6 n) := by intro x hx; simp [be6] at hx; omega
theorem isB_mBe2 (n : Int) : isB (be2 n) := by intro x hx; simp [be2] at hx; omega
theorem isB_app {a b : List Int} (ha : isB a) (hb : isB b) : isB (a ++ b) := fun x hx => by
  rcases List.mem_append.1 hx with h | h
  · exact ha x h
  · exact hb x h
theorem isB_mBody (m : Mg) : isB (mBody m) := by
  unfold mBody
  refine isB_app (isB_app ?_ ?_) (bytesOf_isB' _)
  · split
    · exact isB_be6 _
    · intro x hx; cases hx
  · split
    · exact isB_be6 _
    · intro x hx; cases hx
theorem isB_mB {m : Mg} (h : mgB m = true) : isB (mB m) := by
  have hk := (mgB_facts h).1
  rw [mB_eq h]
  refine isB_app (isB_app (isB_mBe2 _) ?_) (isB_mBe2 _)
  intro x hx
  rcases List.mem_cons.1 hx with e | e
  · omega
  · exact isB_mBody m x e
theorem getB_mB {m : Mg} (h : mgB m = true) (rest : List Int) : getB (mB m ++ rest) = ((m.k, mBody m), (mB m).length, 0) := by
  have h1 := (mgB_facts h).2.1
  have h2 := mBody_len m
  have h3 := sh_bound m.k
  have h5 := mB_size h
  have hs := sumOf_b (m.k :: mBody m)
  have hl : (mB m).length = (mBody m).length + 5 := by omega
  have e0 : mB m ++ rest = (((mBody m).length + 1 : Nat) : Int) / 256 % 256 :: (((mBody m).length + 1 : Nat) : Int) % 256 :: ((m.k :: mBody m) ++ (sumOf (m.k :: mBody m) / 256 % 256 :: sumOf (m.k :: mBody m) % 256 :: rest)) := by
    rw [mB_eq h]
    simp [be2]
  obtain ⟨s, hs0⟩ : ∃ s, s = sumOf (m.k :: mBody m) := ⟨_, rfl⟩
  rw [← hs0] at e0 hs
  obtain ⟨n, hn⟩ : ∃ n, n = (mBody m).length := ⟨_, rfl⟩
  rw [← hn] at e0 h2 hl
  have hn2 : n ≤ 2048 := by omega
  have hlen : (mB m ++ rest).length = n + 5 + rest.length := by rw [List.length_append, hl]
  have g0 : (mB m ++ rest).getD 0 0 = ((n + 1 : Nat) : Int) / 256 % 256 := by rw [e0]; rfl
  have g1 : (mB m ++ rest).getD 1 0 = ((n + 1 : Nat) : Int) % 256 := by rw [e0]; rfl
  have gn : ((mB m ++ rest).getD 0 0 * 256 + (mB m ++ rest).getD 1 0).toNat = n + 1 := by rw [g0, g1]; omega
  have tk : (mB m ++ rest).take (n + 1 + 2) = ((n + 1 : Nat) : Int) / 256 % 256 :: ((n + 1 : Nat) : Int) % 256 :: m.k :: mBody m := by
    rw [e0, show n + 1 + 2 = (n + 1) + 2 from rfl]
    simp only [List.take_succ_cons]
    rw [List.take_append_of_le_length (by simp [← hn]), List.take_of_length_le (by simp [← hn])]
  have dn : ∀ j, (mB m ++ rest).getD (n + 1 + 2 + j) 0 = (s / 256 % 256 :: s % 256 :: rest).getD j 0 := fun j => by
    rw [e0, List.getD_eq_getElem?_getD, List.getD_eq_getElem?_getD]
    congr 1
    rw [show n + 1 + 2 + j = (n + 1 + j) + 2 by omega]
    simp only [List.getElem?_cons_succ]
    rw [List.getElem?_append_right (by simp [← hn])]
    congr 1
    simp [← hn]
  have d0 := dn 0
  have d1 := dn 1
  unfold getB
  rw [if_neg (by omega), gn]
  simp only
  rw [if_neg (by omega), if_neg (by omega), tk, show n + 1 + 3 = n + 1 + 2 + 1 from rfl, d1, show (mB m ++ rest).getD (n + 1 + 2) 0 = s / 256 % 256 from d0]
  have e2 : sumOf ([((n + 1 : Nat) : Int) / 256 % 256, ((n + 1 : Nat) : Int) % 256, m.k].append (mBody m) |>.drop 2) = s := by rw [hs0]; rfl
  have e3 : (s / 256 % 256 :: s % 256 :: rest).getD 1 0 = s % 256 := rfl
  have g2 : (mB m ++ rest).getD 2 0 = m.k := by rw [e0]; rfl
  rw [e3, if_pos (by rw [show (List.drop 2 ((((n + 1 : Nat) : Int) / 256 % 256) :: (((n + 1 : Nat) : Int) % 256) :: m.k :: mBody m)) = m.k :: mBody m from rfl, ← hs0]; omega), g2, hl]
  rfl
theorem mOf_mB {m : Mg} (h : mgB m = true) : mOf (m.k, mBody m) = (m, true) := by
  have hf := mgB_facts h
  have h2 := mBody_len m
  have hsn := shN_b m.k
  have ho : shO m.k = true := by unfold shO; simp; omega
  have hb := str_bytes m.t
  obtain ⟨k, a, b, t⟩ := m
  simp only at *
  unfold mOf
  simp only
  rw [if_neg (by rw [ho]; simp; omega)]
  have hk : shN k = 0 ∨ shN k = 1 ∨ shN k = 2 := by omega
  have ra := be6_rd a hf.2.2.1.1 hf.2.2.1.2
  have rb := be6_rd b hf.2.2.2.1.1 hf.2.2.2.1.2
  have key : (⟨k, if 0 < shN k then rdN ((mBody ⟨k, a, b, t⟩).take 6) else 0, if 1 < shN k then rdN (((mBody ⟨k, a, b, t⟩).take 12).drop 6) else 0, strOfNums ((mBody ⟨k, a, b, t⟩).drop (6 * shN k).toNat)⟩ : Mg) = ⟨k, a, b, t⟩ := by
    unfold mBody
    simp only
    rcases hk with e | e | e
    · rw [e]
      have ha : a = 0 := by omega
      have hb0 : b = 0 := by omega
      subst ha hb0
      simp [hb]
    · rw [e]
      have hb0 : b = 0 := by omega
      subst hb0
      have t6 : (be6 a ++ bytesOf t).take 6 = be6 a := List.take_left' (be6_len a)
      have d6 : (be6 a ++ bytesOf t).drop 6 = bytesOf t := List.drop_left' (be6_len a)
      simp [t6, d6, ra, hb]
    · rw [e]
      have t6 : (be6 a ++ (be6 b ++ bytesOf t)).take 6 = be6 a := List.take_left' (be6_len a)
      have t12 : ((be6 a ++ (be6 b ++ bytesOf t)).take 12).drop 6 = be6 b := by
        rw [← List.append_assoc, List.take_left' (by simp [be6_len]), List.drop_left' (be6_len a)]
      have d12 : (be6 a ++ (be6 b ++ bytesOf t)).drop 12 = bytesOf t := by
        rw [← List.append_assoc, List.drop_left' (by simp [be6_len])]
      simp [t6, t12, d12, ra, rb, hb]
  rw [key, if_pos h]
theorem feed_mB {m : Mg} (h : mgB m = true) : feedPush [] 0 (mB m) = ([(m.k, mBody m)], [], 0) := by
  have h5 := mB_size h
  have hsn := shN_b m.k
  unfold feedPush
  rw [if_pos rfl, List.nil_append]
  obtain ⟨n, hn⟩ : ∃ n, (mB m).length = n + 1 := ⟨(mB m).length - 1, by omega⟩
  have g := getB_mB h []
  rw [List.append_nil] at g
  rw [hn]
  unfold feedGo
  simp only [g]
  rw [if_pos trivial, List.drop_length]
  rfl
end Go.Proofs.YtfkamoiamebngaaGreatDoor.Mod

/- Calm brokers: everything fits, no output. Plain. -/
namespace Go.Proofs.YtfkamoiamebngaaGreatDoor.Mod
open Go.RowKit Go.Proofs.YtfkamoiamebngaaGreatDoorW.PrintWords Go.Proofs.YtfkamoiamebngaaGreatDoor.ScrP Go.Proofs.YtfkamoiamebngaaGreatDoor.LexP Go.Proofs.YtfkamoiamebngaaGreatDoor.BroW
set_option linter.unusedVariables false

theorem St.cnExt {S T : St} (h : T = { S with cn := T.cn }) (hc : ∀ i, T.cn i = S.cn i) : T = S := by
  have : T.cn = S.cn := funext hc
  rw [h, this]
/-- who is open is sent a message -/
def putO (m : Mg) (c : Cn) : Cn := if c.st = 1 then { c with out := c.out ++ mB m } else c
def tellF (S : St) (m : Mg) : St := { S with cn := fun i => (S.cn i).map (putO m) }
/-- it fits into every open connection's queue -/
def Fits (S : St) (m : Mg) : Prop := ∀ i c, S.cn i = some c → c.st = 1 → ((mB m).length + c.out.length : Int) ≤ S.cf.a2
theorem sendW_fit {lv : St → Int → St} {S : St} {i : Int} {c : Cn} {m : Mg} (hc : S.cn i = some c) (h2 : c.st ≠ 2) (hf : ((mB m).length + c.out.length : Int) ≤ S.cf.a2) :
    sendW lv S i m = S.setc i (some { c with out := c.out ++ mB m }) := by
  unfold sendW
  rw [hc]
  simp only
  rw [if_neg h2, if_pos hf]
theorem send_fit {S : St} {i : Int} {c : Cn} {m : Mg} (hc : S.cn i = some c) (h2 : c.st ≠ 2) (hf : ((mB m).length + c.out.length : Int) ≤ S.cf.a2) :
    send S i m = S.setc i (some { c with out := c.out ++ mB m }) := sendW_fit hc h2 hf
theorem tell_fit {S : St} {m : Mg} (hw : ∀ i c, S.cn i = some c → 1 ≤ i ∧ i ≤ 16) (hf : Fits S m) : tell S m = tellF S m := by
  have key : ∀ (l d : List Int), (d ++ l).Nodup → l.foldl (tellOne leave m) { S with cn := fun i => if i ∈ d then (S.cn i).map (putO m) else S.cn i } = { S with cn := fun i => if i ∈ d ++ l then (S.cn i).map (putO m) else S.cn i } := by
    intro l
    induction l with
    | nil => intro d _; simp
    | cons a l ih =>
      intro d hd
      have ha : a ∉ d := by
        have := (List.nodup_append.1 hd).2.2
        exact fun h => (this a h a (by simp)) rfl
      have h1 : tellOne leave m { S with cn := fun i => if i ∈ d then (S.cn i).map (putO m) else S.cn i } a = { S with cn := fun i => if i ∈ d ++ [a] then (S.cn i).map (putO m) else S.cn i } := by
        have hcn : ({ S with cn := fun i => if i ∈ d then (S.cn i).map (putO m) else S.cn i } : St).cn a = S.cn a := if_neg ha
        unfold tellOne
        cases hc : S.cn a with
        | none =>
          have ho : isOpen { S with cn := fun i => if i ∈ d then (S.cn i).map (putO m) else S.cn i } a = false := by unfold isOpen; rw [hcn, hc]
          rw [if_neg (by rw [ho]; decide)]
          congr 1
          funext i
          by_cases e : i = a
          · subst e; simp [hc]
          · simp [e]
        | some c =>
          by_cases hs : c.st = 1
          · have ho : isOpen { S with cn := fun i => if i ∈ d then (S.cn i).map (putO m) else S.cn i } a = true := by unfold isOpen; rw [hcn, hc]; simp [hs]
            rw [if_pos ho, sendW_fit (c := c) (hcn.trans hc) (by rw [hs]; decide) (hf a c hc hs)]
            unfold St.setc
            simp only
            congr 1
            funext i
            by_cases e : i = a
            · subst e
              have hp : putO m c = { c with out := c.out ++ mB m } := if_pos hs
              simp [hc, hp]
            · simp [e]
          · have ho : isOpen { S with cn := fun i => if i ∈ d then (S.cn i).map (putO m) else S.cn i } a = false := by unfold isOpen; rw [hcn, hc]; simp [hs]
            rw [if_neg (by rw [ho]; decide)]
            congr 1
            funext i
            by_cases e : i = a
            · subst e
              have hp : putO m c = c := if_neg hs
              simp [hc, hp]
            · simp [e]
      show l.foldl (tellOne leave m) (tellOne leave m _ a) = _
      rw [h1, ih (d ++ [a]) (by simpa using hd)]
      simp
  have h0 := key ids16 [] (by decide)
  simp only [List.not_mem_nil, if_false, List.nil_append] at h0
  show ids16.foldl (tellOne leave m) S = _
  refine h0.trans ?_
  unfold tellF
  congr 1
  funext i
  by_cases e : i ∈ ids16
  · rw [if_pos e]
  · rw [if_neg e]
    cases hc : S.cn i with
    | none => rfl
    | some c =>
      have := hw i c hc
      exact absurd (by unfold ids16; simp; omega) e
theorem turned_same {S : St} (h : S.tb.holder = S.told) : turned S = S := turnF_stop 17 h
def floorM (h : Int) : Mg := ⟨9, h, 0, strL []⟩
theorem turned_tell {S : St} (h : S.tb.holder ≠ S.told) (hw : ∀ i c, S.cn i = some c → 1 ≤ i ∧ i ≤ 16) (hf : Fits S (floorM S.tb.holder)) : turned S = tellF { S with told := S.tb.holder } (floorM S.tb.holder) := by
  show turnF (17 + 1) S = _
  rw [turnF_go 17 h]
  have e : turnS S = tellF { S with told := S.tb.holder } (floorM S.tb.holder) := tell_fit (S := { S with told := S.tb.holder }) hw hf
  rw [e]
  exact turnF_stop 16 rfl
theorem next_nil (k n room most str : Int) : ((⟨0, k⟩ : Vw).next [] n room most str).2.2 = false := by
  simp [Vw.next, rbaseM]
/-- nobody has anything to be shown -/
def Shown (S : St) : Prop := ∀ i c, S.cn i = some c → c.st = 1 → ∃ k, c.vw = some ⟨0, k⟩
theorem pump_calm {S : St} (hl : S.log = []) (hv : Shown S) : pump S = S := by
  have h1 : ∀ i, pumpOne S i = S := fun i => by
    unfold pumpOne
    split
    · rename_i ho
      obtain ⟨c, hc, hs⟩ := isOpen_some ho
      obtain ⟨k, hk⟩ := hv i c hc hs
      show pumpC (S.log.length + 2 + 1) S i = S
      unfold pumpC
      rw [hc]
      simp only
      rw [hk]
      simp only
      rw [if_pos hs, hl]
      have hn := next_nil k S.cf.a0 (S.cf.a2 - c.out.length - 200) S.cf.a1 S.strikes
      rw [if_neg (by rw [hn]; decide)]
    · rfl
  have key : ∀ l : List Int, l.foldl pumpOne S = S := by
    intro l
    induction l with
    | nil => rfl
    | cons a l ih => show l.foldl pumpOne (pumpOne S a) = S; rw [h1 a, ih]
  exact key ids16
theorem sweep_calm {S : St} (h : ∀ i c, S.cn i = some c → c.st ≠ 2) : sweep S = S := by
  refine St.cnExt rfl (fun i => ?_)
  show (match S.cn i with
    | some c => if c.st = 2 ∧ c.out = [] then none else some c
    | none => none) = S.cn i
  cases hc : S.cn i with
  | none => rfl
  | some c => exact if_neg (fun k => h i c hc k.1)
theorem settle_calm {S : St} (ht : S.tb.holder = S.told) (hl : S.log = []) (hv : Shown S) (h : ∀ i c, S.cn i = some c → c.st ≠ 2) : settle S = S := by
  unfold settle
  rw [turned_same ht, pump_calm hl hv, turned_same ht, sweep_calm h]

/-! ### who is there, and calm -/
structure Op (B : Nat) (d : Cn) : Prop where
  st : d.st = 1
  fb : d.fb = []
  fe : d.fe = 0
  lx : d.lx.st = 0
  out : d.out.length ≤ B
  vw : ∃ k, d.vw = some ⟨0, k⟩
theorem Op.mono {B B' : Nat} {d : Cn} (h : Op B d) (hb : B ≤ B') : Op B' d := ⟨h.st, h.fb, h.fe, h.lx, Nat.le_trans h.out hb, h.vw⟩
/-- these are there with these roles, what waits for each is no more than so much; nothing was written -/
structure Inv (c : Cf) (rl : Int → Option Int) (B : Nat) (S : St) : Prop where
  cf : S.cf = c
  log : S.log = []
  inE : S.inE = false
  ended : S.ended = false
  told : S.tb.holder = S.told
  roles : S.tb.roles = rl
  cn : ∀ i, (rl i).isSome = true → ∃ d, S.cn i = some d ∧ Op B d
  no : ∀ i, (rl i).isSome = false → S.cn i = none
  ids : ∀ i, (rl i).isSome = true → 1 ≤ i ∧ i ≤ 16
section
variable {c : Cf} {rl : Int → Option Int} {B : Nat} {S : St}
theorem Inv.some (h : Inv c rl B S) {i : Int} {d : Cn} (hd : S.cn i = some d) : (rl i).isSome = true ∧ Op B d := by
  cases hr : (rl i).isSome with
  | false => rw [h.no i hr] at hd; cases hd
  | true =>
    obtain ⟨d', h1, h2⟩ := h.cn i hr
    rw [hd] at h1
    cases h1
    exact ⟨rfl, h2⟩
theorem Inv.mono {B' : Nat} (h : Inv c rl B S) (hb : B ≤ B') : Inv c rl B' S :=
  ⟨h.cf, h.log, h.inE, h.ended, h.told, h.roles, fun i hi => by obtain ⟨d, h1, h2⟩ := h.cn i hi; exact ⟨d, h1, h2.mono hb⟩, h.no, h.ids⟩
theorem Inv.w (h : Inv c rl B S) : ∀ i d, S.cn i = Option.some d → 1 ≤ i ∧ i ≤ 16 := fun i d hd => h.ids i (h.some hd).1
theorem Inv.shown (h : Inv c rl B S) : Shown S := fun i d hd _ => (h.some hd).2.vw
theorem Inv.open (h : Inv c rl B S) : ∀ i d, S.cn i = Option.some d → d.st ≠ 2 := fun i d hd => by rw [(h.some hd).2.st]; decide
theorem Inv.settle (h : Inv c rl B S) : Mod.settle S = S := settle_calm h.told h.log h.shown h.open
theorem Inv.turned (h : Inv c rl B S) : Mod.turned S = S := turned_same h.told
/-- one connection turned -/
theorem Inv.setc {B' : Nat} (h : Inv c rl B S) {i : Int} (hi : (rl i).isSome = true) {d : Cn} (hd : Op B' d) (hb : B ≤ B') : Inv c rl B' (S.setc i (Option.some d)) := by
  refine ⟨h.cf, h.log, h.inE, h.ended, h.told, h.roles, fun j hj => ?_, fun j hj => ?_, h.ids⟩
  · by_cases e : j = i
    · exact ⟨d, by simp [St.setc, e], hd⟩
    · obtain ⟨d', h1, h2⟩ := h.cn j hj
      exact ⟨d', by simp [St.setc, e, h1], h2.mono hb⟩
  · have : j ≠ i := fun e => by rw [e, hi] at hj; cases hj
    simp [St.setc, this, h.no j hj]
theorem Inv.inp (h : Inv c rl B S) (l : List Int) : Inv c rl B { S with inp := l } := ⟨h.cf, h.log, h.inE, h.ended, h.told, h.roles, h.cn, h.no, h.ids⟩
theorem Inv.fits (h : Inv c rl B S) {m : Mg} (hm : ((mB m).length + B : Int) ≤ c.a2) : Fits S m := fun i d hd _ => by
  have := (h.some hd).2.out
  rw [h.cf]
  omega
theorem Op.put {m : Mg} {d : Cn} (h : Op B d) : Op (B + (mB m).length) (putO m d) := by
  have e : putO m d = { d with out := d.out ++ mB m } := if_pos h.st
  rw [e]
  exact ⟨h.st, h.fb, h.fe, h.lx, by show (d.out ++ mB m).length ≤ _; rw [List.length_append]; have := h.out; omega, h.vw⟩
/-- the floor may turn: then everybody is told -/
theorem Inv.turn (h : Inv c rl B S) {t : Tb} (hr : t.roles = rl) (hb : (11 + B : Int) ≤ c.a2) :
    Inv c rl (B + 11) (Mod.turned { S with tb := t }) ∧ (Mod.turned { S with tb := t }).inp = S.inp := by
  by_cases e : t.holder = S.told
  · rw [turned_same (S := { S with tb := t }) e]
    exact ⟨⟨h.cf, h.log, h.inE, h.ended, e, hr, fun i hi => by obtain ⟨d, h1, h2⟩ := h.cn i hi; exact ⟨d, h1, h2.mono (by omega)⟩, h.no, h.ids⟩, rfl⟩
  · have hm : ((mB (floorM t.holder)).length : Int) ≤ 11 := by
      have h1 := mB_le (floorM t.holder)
      have h2 : shN (floorM t.holder).k = 1 := rfl
      have h3 : (floorM t.holder).t.size = 0 := rfl
      rw [h2, h3] at h1
      omega
    rw [turned_tell (S := { S with tb := t }) e h.w (fun i d hd hs => by have := h.fits (m := floorM t.holder) (by omega) i d hd hs; exact this)]
    refine ⟨⟨h.cf, h.log, h.inE, h.ended, rfl, hr, fun i hi => ?_, fun i hi => ?_, h.ids⟩, rfl⟩
    · obtain ⟨d, h1, h2⟩ := h.cn i hi
      refine ⟨putO (floorM t.holder) d, ?_, ?_⟩
      · show (S.cn i).map _ = _
        rw [h1]; rfl
      · have h3 := h2.put (m := floorM t.holder)
        exact h3.mono (by omega)
    · show (S.cn i).map _ = _
      rw [h.no i hi]; rfl
end
end Go.Proofs.YtfkamoiamebngaaGreatDoor.Mod

/- Calm brokers: what each event leaves. Plain. -/
namespace Go.Proofs.YtfkamoiamebngaaGreatDoor.Mod
open Go.RowKit Go.Proofs.YtfkamoiamebngaaGreatDoorW.PrintWords Go.Proofs.YtfkamoiamebngaaGreatDoor.ScrP Go.Proofs.YtfkamoiamebngaaGreatDoor.LexP Go.Proofs.YtfkamoiamebngaaGreatDoor.BroW
set_option linter.unusedVariables false

theorem note_le (l : List UInt8) : ((mB (note l)).length : Int) ≤ 5 + l.length := by
  have h1 := mB_le (note l)
  have h2 : shN (note l).k = 0 := rfl
  have h3 : (note l).t.size = l.length := rfl
  rw [h2, h3] at h1
  omega
theorem dig_len (n : Int) : (dig n).length ≤ 2 := by unfold dig; split <;> simp
theorem wordR_len (r : Int) : (wordR r).length ≤ 8 := by unfold wordR; split <;> (try split) <;> simp
/-- one frame of an open connection that is calm -/
theorem bytes_one {S : St} {i : Int} {d : Cn} {m : Mg} (hd : S.cn i = some d) (h2 : d.st ≠ 2) (hb : d.fb = []) (he : d.fe = 0) (hg : mgB m = true)
    {S1 : St} (h1 : turned (messageM (S.setc i (some { d with idle := 0, fb := [], fe := 0 })) i (m.k, mBody m)) = S1) : bytesM S i (mB m) = (settle S1, 0) := by
  have hne : mB m ≠ [] := fun h => by have := mB_size hg; have := shN_b m.k; rw [h] at *; simp at *; omega
  unfold bytesM
  rw [hd]
  simp only
  rw [if_neg h2, hb, he, feed_mB hg]
  simp only
  rw [if_neg hne]
  have h3 : framesM [(m.k, mBody m)] (S.setc i (some { d with idle := 0, fb := [], fe := 0 })) i = S1 := by
    show (if (S.setc i (some { d with idle := 0, fb := [], fe := 0 })).stOf i = 2 then S.setc i (some { d with idle := 0, fb := [], fe := 0 }) else turned (messageM (S.setc i (some { d with idle := 0, fb := [], fe := 0 })) i (m.k, mBody m))) = S1
    have hs : (S.setc i (some { d with idle := 0, fb := [], fe := 0 })).stOf i = d.st := by simp [St.stOf, St.setc]
    rw [hs, if_neg h2, h1]
  rw [h3]
  simp
theorem startM_nil (n back : Int) (l : Bool) : startM [] n back l = 0 := by
  have h1 := startM_le [] n back l
  simpa using h1
theorem setc_setc (S : St) (i : Int) (a b : Option Cn) : (S.setc i a).setc i b = S.setc i b := by
  refine St.cnExt rfl (fun j => ?_)
  show (if j = i then b else if j = i then a else S.cn j) = (if j = i then b else S.cn j)
  by_cases e : j = i
  · rw [if_pos e, if_pos e]
  · rw [if_neg e, if_neg e, if_neg e]
theorem setc_at (S : St) (i : Int) (a : Option Cn) : (S.setc i a).cn i = a := if_pos rfl
theorem setc_ne (S : St) {i j : Int} (a : Option Cn) (h : j ≠ i) : (S.setc i a).cn j = S.cn j := if_neg h
def addR (rl : Int → Option Int) (i r : Int) : Int → Option Int := fun j => if j = i then some r else rl j
def helloG (wr : Bool) : Mg := ⟨1, if wr then 5 else 4, 0, ⟨#[117]⟩⟩
/-- one comes: both events -/
theorem calm_comes {c : Cf} {rl : Int → Option Int} {B : Nat} {S : St} (h : Inv c rl B S) {i r : Int} (hi : rl i = none) (h1 : 1 ≤ i ∧ i ≤ 16) (wr : Bool) (hB : (B + 100 : Int) ≤ c.a2)
    (hr : roleFor S wr = r) (hr0 : 0 ≤ r ∧ r ≤ 2) : connectM S i = (S.setc i (some cnNew), 0) ∧ (bytesM (S.setc i (some cnNew)) i (mB (helloG wr))).2 = 0 ∧ Inv c (addR rl i r) (B + 40) (bytesM (S.setc i (some cnNew)) i (mB (helloG wr))).1 ∧
    (bytesM (S.setc i (some cnNew)) i (mB (helloG wr))).1.tb = S.tb.join i r ∧ (bytesM (S.setc i (some cnNew)) i (mB (helloG wr))).1.inp = S.inp := by
  have hnone : S.cn i = none := h.no i (by rw [hi]; rfl)
  refine ⟨?_, ?_⟩
  · unfold connectM
    rw [if_neg (by omega), if_neg (by rw [hnone]; decide)]
  have hg : mgB (helloG wr) = true := by cases wr <;> decide
  obtain ⟨nt, hnt⟩ : ∃ nt, nt = note ([106, 111, 105, 110, 101, 100, 32] ++ dig i ++ [32] ++ [117]) := ⟨_, rfl⟩
  have hntl : ((mB nt).length : Int) ≤ 16 := by
    have h3 := note_le ([106, 111, 105, 110, 101, 100, 32] ++ dig i ++ [32] ++ [117])
    have h4 := dig_len i
    rw [← hnt] at h3
    simp only [List.length_append, List.length_cons, List.length_nil] at h3
    omega
  have ha : (helloG wr).a / 4 = 1 ∧ decide ((helloG wr).a % 2 = 1) = wr := by cases wr <;> decide
  -- behind the note
  obtain ⟨S3, hS3⟩ : ∃ S3, S3 = tellF (S.setc i (some cnNew)) nt := ⟨_, rfl⟩
  have hcn3 : ∀ j, S3.cn j = if j = i then some cnNew else (S.cn j).map (putO nt) := fun j => by
    rw [hS3]
    show ((S.setc i (some cnNew)).cn j).map (putO nt) = _
    by_cases e : j = i
    · rw [e, setc_at, if_pos rfl]; rfl
    · rw [setc_ne _ _ e, if_neg e]
  have htell : tell (S.setc i (some cnNew)) nt = S3 := by
    rw [hS3]
    refine tell_fit (fun j d hd => ?_) (fun j d hd hs => ?_)
    · by_cases e : j = i
      · rw [e]; exact h1
      · rw [setc_ne _ _ e] at hd; exact h.w j d hd
    · by_cases e : j = i
      · rw [e, setc_at] at hd
        cases hd
        exact absurd hs (by decide)
      · rw [setc_ne _ _ e] at hd
        have := (h.some hd).2.out
        show _ ≤ S.cf.a2
        rw [h.cf]
        omega
  -- the new one
  obtain ⟨d1, hd1⟩ : ∃ d1 : Cn, d1 = { cnNew with st := 1, name := ⟨#[117]⟩, vw := some ⟨0, 0⟩ } := ⟨_, rfl⟩
  obtain ⟨wm, hwm⟩ : ∃ m : Mg, m = ⟨5, i, 0, strL (wordR r)⟩ := ⟨_, rfl⟩
  obtain ⟨fm, hfm⟩ : ∃ m : Mg, m = ⟨9, S.told, 0, strL []⟩ := ⟨_, rfl⟩
  have hwl : ((mB wm).length : Int) ≤ 25 := by
    have h3 := mB_le wm
    have h4 : shN wm.k = 2 := by rw [hwm]; rfl
    have h5 : wm.t.size = (wordR r).length := by rw [hwm]; rfl
    have h6 := wordR_len r
    rw [h4, h5] at h3
    omega
  have hfl : ((mB fm).length : Int) ≤ 11 := by
    have h3 := mB_le fm
    have h4 : shN fm.k = 1 := by rw [hfm]; rfl
    have h5 : fm.t.size = 0 := by rw [hfm]; rfl
    rw [h4, h5] at h3
    omega
  obtain ⟨S5, hS5⟩ : ∃ S5 : St, S5 = { (S3.setc i (some { d1 with out := mB wm ++ mB fm })) with tb := S.tb.join i r } := ⟨_, rfl⟩
  have f1 : S3.log = [] := by rw [hS3]; exact h.log
  have f2 : S3.cf = c := by rw [hS3]; exact h.cf
  have f3 : S3.tb = S.tb := by rw [hS3]; rfl
  have f4 : S3.told = S.told := by rw [hS3]; rfl
  have f5 : S3.ended = false := by rw [hS3]; exact h.ended
  have f6 : S3.inE = false := by rw [hS3]; exact h.inE
  have f7 : S3.inp = S.inp := by rw [hS3]; rfl
  have hhello : helloM (S.setc i (some cnNew)) i (helloG wr) = S5 := by
    unfold helloM
    rw [if_pos (show (helloG wr).k = 1 from rfl), if_pos ha.1, if_pos (show namedL (helloG wr).t.data.toList = true from rfl)]
    simp only
    rw [show (helloG wr).t.data.toList = [117] from rfl, ← hnt, htell, hcn3, if_pos rfl]
    simp only
    rw [f1, startM_nil]
    rw [show ({ cnNew with st := 1, name := (helloG wr).t, vw := some ⟨0, 0⟩ } : Cn) = d1 from hd1.symm]
    have e1 : roleFor (S3.setc i (some d1)) (decide ((helloG wr).a % 2 = 1)) = r := by
      rw [ha.2, ← hr]
      unfold roleFor
      rw [show (S3.setc i (some d1)).tb = S.tb from f3]
    rw [e1, show (S3.setc i (some d1)).tb = S.tb from f3]
    have e2 : send { (S3.setc i (some d1)) with tb := S.tb.join i r } i ⟨5, i, ((0 : Nat) : Int), strL (wordR r)⟩ = { (S3.setc i (some { d1 with out := mB wm })) with tb := S.tb.join i r } := by
      have := send_fit (S := { (S3.setc i (some d1)) with tb := S.tb.join i r }) (i := i) (c := d1) (m := wm) (setc_at S3 i _) (by rw [hd1]; decide) (by show _ ≤ S3.cf.a2; rw [f2, hd1]; show ((mB wm).length + (0 : Nat) : Int) ≤ _; omega)
      rw [show (⟨5, i, ((0 : Nat) : Int), strL (wordR r)⟩ : Mg) = wm from hwm.symm, this]
      refine St.cnExt rfl (fun j => ?_)
      show (if j = i then _ else if j = i then _ else S3.cn j) = (if j = i then _ else S3.cn j)
      by_cases e : j = i
      · rw [if_pos e, if_pos e, hd1]; rfl
      · rw [if_neg e, if_neg e, if_neg e]
    rw [e2]
    have e3 : send { (S3.setc i (some { d1 with out := mB wm })) with tb := S.tb.join i r } i ⟨9, ({ (S3.setc i (some { d1 with out := mB wm })) with tb := S.tb.join i r } : St).told, 0, strL []⟩ = S5 := by
      have hq : (({ (S3.setc i (some { d1 with out := mB wm })) with tb := S.tb.join i r } : St)).told = S.told := f4
      rw [hq, ← hfm]
      have := send_fit (S := { (S3.setc i (some { d1 with out := mB wm })) with tb := S.tb.join i r }) (i := i) (c := { d1 with out := mB wm }) (m := fm) (setc_at S3 i _) (by rw [hd1]; show (1 : Int) ≠ 2; decide) (by show ((mB fm).length + (mB wm).length : Int) ≤ S3.cf.a2; rw [f2]; omega)
      rw [this, hS5]
      refine St.cnExt rfl (fun j => ?_)
      show (if j = i then _ else if j = i then _ else S3.cn j) = (if j = i then _ else S3.cn j)
      by_cases e : j = i
      · rw [if_pos e, if_pos e, hd1]
      · rw [if_neg e, if_neg e, if_neg e]
    rw [e3]
    rw [if_neg (by rw [hS5]; show ¬ S3.ended = true; rw [f5]; decide)]
  have hinv : Inv c (addR rl i r) (B + 40) S5 := by
    have hjr : S.tb.join i r = S.tb.setR i (some r) := by
      unfold Tb.join
      rw [if_neg]
      rw [h.roles, hi]
      simp
      omega
    refine ⟨by rw [hS5]; exact f2, by rw [hS5]; exact f1, by rw [hS5]; exact f6, by rw [hS5]; exact f5, ?_, ?_, fun j hj => ?_, fun j hj => ?_, fun j hj => ?_⟩
    · rw [hS5]
      show (S.tb.join i r).holder = S3.told
      rw [f4, hjr]
      exact h.told
    · rw [hS5]
      show (S.tb.join i r).roles = _
      rw [hjr]
      show (fun j => if j = i then some r else S.tb.roles j) = _
      rw [h.roles]
      rfl
    · rw [hS5]
      show ∃ d, (if j = i then _ else S3.cn j) = some d ∧ _
      by_cases e : j = i
      · rw [if_pos e]
        refine ⟨_, rfl, ?_⟩
        rw [hd1]
        refine ⟨rfl, rfl, rfl, rfl, ?_, ⟨0, rfl⟩⟩
        show (mB wm ++ mB fm).length ≤ _
        rw [List.length_append]
        omega
      · rw [if_neg e, hcn3, if_neg e]
        unfold addR at hj
        rw [if_neg e] at hj
        obtain ⟨d, k1, k2⟩ := h.cn j hj
        refine ⟨putO nt d, by rw [k1]; rfl, (k2.put (m := nt)).mono (by omega)⟩
    · rw [hS5]
      show (if j = i then _ else S3.cn j) = none
      unfold addR at hj
      by_cases e : j = i
      · rw [if_pos e] at hj; cases hj
      · rw [if_neg e] at hj
        rw [if_neg e, hcn3, if_neg e, h.no j hj]; rfl
    · unfold addR at hj
      by_cases e : j = i
      · rw [e]; exact h1
      · rw [if_neg e] at hj; exact h.ids j hj
  have hmsg : messageM (S.setc i (some cnNew)) i ((helloG wr).k, mBody (helloG wr)) = S5 := by
    unfold messageM
    rw [mOf_mB hg]
    simp only
    rw [if_neg (by decide), if_pos (by simp [St.stOf, St.setc, cnNew])]
    exact hhello
  have hb := bytes_one (S := S.setc i (some cnNew)) (i := i) (d := cnNew) (m := helloG wr) (setc_at _ _ _) (by decide) rfl rfl hg (S1 := S5) (by
    rw [setc_setc]
    show turned (messageM (S.setc i (some cnNew)) i ((helloG wr).k, mBody (helloG wr))) = S5
    rw [hmsg]
    exact hinv.turned)
  rw [hb]
  have hse := hinv.settle
  simp only
  rw [hse]
  exact ⟨trivial, hinv, by rw [hS5], by rw [hS5]; exact f7⟩
end Go.Proofs.YtfkamoiamebngaaGreatDoor.Mod

/- Calm brokers: keystrokes, commands, writing, draining, ticks. Plain. -/
namespace Go.Proofs.YtfkamoiamebngaaGreatDoor.Mod
open Go.RowKit Go.Proofs.YtfkamoiamebngaaGreatDoorW.PrintWords Go.Proofs.YtfkamoiamebngaaGreatDoor.ScrP Go.Proofs.YtfkamoiamebngaaGreatDoor.LexP Go.Proofs.YtfkamoiamebngaaGreatDoor.BroW
set_option linter.unusedVariables false

/-! ### the lexer -/
theorem lex_plain (l : List Int) : ∀ s : LexS, s.st = 0 → (∀ x ∈ l, x ≠ 29) → lexAll s l = (s, l, []) := by
  induction l with
  | nil => intro s _ _; rfl
  | cons x l ih =>
    intro s h0 hl
    have h1 : lexStep s x = (s, [x], []) := by
      unfold lexStep
      rw [if_neg (by rw [h0]; decide), if_neg (by rw [h0]; decide), if_neg (hl x (by simp))]
    simp only [lexAll, h1, ih s h0 (fun y hy => hl y (by simp [hy]))]
    simp
theorem lex_line (l : List Int) : ∀ T : List Int, T.length + l.length ≤ 80 → (∀ x ∈ l, x ≠ 10) → lexAll ⟨2, T, false⟩ (l ++ [10]) = (⟨0, T ++ l, false⟩, [], [strOfNums (T ++ l)]) := by
  induction l with
  | nil =>
    intro T _ _
    simp [lexAll, lexStep]
  | cons x l ih =>
    intro T hT hl
    simp only [List.length_cons] at hT
    have h1 : lexStep ⟨2, T, false⟩ x = (⟨2, T ++ [x], false⟩, [], []) := by
      have hn : (T.length == 80) = false := by simp; omega
      simp [lexStep, hl x (by simp), hn]
    rw [List.cons_append]
    simp only [lexAll, h1]
    rw [ih (T ++ [x]) (by simp; omega) (fun y hy => hl y (by simp [hy]))]
    simp
theorem lex_cmd (l : List Int) (s : LexS) (h0 : s.st = 0) (h : l.length ≤ 80) (hl : ∀ x ∈ l, x ≠ 10) : lexAll s ([29, 58] ++ l ++ [10]) = (⟨0, l, false⟩, [], [strOfNums l]) := by
  have h1 : lexStep s 29 = (⟨1, s.text, s.long⟩, [], []) := by simp [lexStep, h0]
  have h2 : lexStep ⟨1, s.text, s.long⟩ 58 = (⟨2, [], false⟩, [], []) := by simp [lexStep]
  have h3 := lex_line l [] (by simpa using h) hl
  rw [List.nil_append] at h3
  show lexAll s (29 :: 58 :: (l ++ [10])) = _
  simp only [lexAll, h1, h2, h3]
  simp

/-! ### keystrokes -/
section
variable {c : Cf} {rl : Int → Option Int} {B : Nat} {S : St}
def rejM (a why : Int) : Mg := ⟨8, a, why, strL []⟩
theorem why_b (S : St) (i : Int) (n : Nat) (hE : S.inE = false) {r : Int} (hr : S.tb.roles i = some r) : inqWhy S i n = 0 ∨ (3 ≤ inqWhy S i n ∧ inqWhy S i n ≤ 5) := by
  unfold inqWhy
  rw [if_neg (by rw [hE]; decide), hr]
  simp only
  split
  · omega
  · split
    · split
      · omega
      · omega
    · omega
theorem why_obs (S : St) (i : Int) (n : Nat) (hE : S.inE = false) (hr : S.tb.roles i = some 0) : inqWhy S i n = 3 := by
  unfold inqWhy
  rw [if_neg (by rw [hE]; decide), hr]
  simp
/-- keystrokes: they are given, or rejected -/
theorem calm_keys (h : Inv c rl B S) {i : Int} {d : Cn} (hd : S.cn i = some d) {a : Int} {t : ByteArray} (hg : mgB ⟨2, a, 0, t⟩ = true) (hl : ∀ x ∈ bytesOf t, x ≠ 29) (ht : t.size ≠ 0) (hB : (B + 17 : Int) ≤ c.a2) :
    (bytesM S i (mB ⟨2, a, 0, t⟩)).2 = 0 ∧ Inv c rl (B + 17) (bytesM S i (mB ⟨2, a, 0, t⟩)).1 ∧ (bytesM S i (mB ⟨2, a, 0, t⟩)).1.tb = S.tb ∧
    (∃ d', (bytesM S i (mB ⟨2, a, 0, t⟩)).1.cn i = some d' ∧ d'.out = d.out ++ (if inqWhy S i t.size = 0 then [] else mB (rejM a (inqWhy S i t.size)))) ∧
    (bytesM S i (mB ⟨2, a, 0, t⟩)).1.inp = S.inp ++ (if inqWhy S i t.size = 0 then bytesOf t else []) := by
  obtain ⟨hr, hop⟩ := h.some hd
  have hlen : (bytesOf t).length = t.size := bytesOf_length t
  have hne : bytesOf t ≠ [] := fun e => by rw [e] at hlen; exact ht hlen.symm
  obtain ⟨d0, hd0⟩ : ∃ d0 : Cn, d0 = { d with idle := 0, fb := [], fe := 0 } := ⟨_, rfl⟩
  have op0 : Op B d0 := by rw [hd0]; exact ⟨hop.st, rfl, rfl, hop.lx, hop.out, hop.vw⟩
  have i0 := h.setc hr op0 (Nat.le_refl _)
  have hlx : lexAll d0.lx (bytesOf t) = (d0.lx, bytesOf t, []) := lex_plain _ _ op0.lx hl
  obtain ⟨S0, hS0⟩ : ∃ S0, S0 = S.setc i (some d0) := ⟨_, rfl⟩
  have hcn0 : S0.cn i = some d0 := by rw [hS0]; exact setc_at _ _ _
  have hS1 : S0.setc i (some { d0 with lx := d0.lx }) = S0 := by rw [hS0, setc_setc]
  obtain ⟨w, hw⟩ : ∃ w, w = inqWhy S i t.size := ⟨_, rfl⟩
  have hw0 : inqWhy S0 i (bytesOf t).length = w := by rw [hlen, hS0, hw]; rfl
  rw [← hw]
  have hmsg : messageM S0 i ((⟨2, a, 0, t⟩ : Mg).k, mBody ⟨2, a, 0, t⟩) = offerM S0 i (bytesOf t) a := by
    unfold messageM
    rw [mOf_mB hg]
    simp only
    rw [if_neg (by decide), if_neg (by rw [show S0.stOf i = d0.st by simp [St.stOf, hcn0], op0.st]; decide)]
    simp only [if_true]
    unfold keysM
    rw [hcn0]
    simp only
    rw [hlx]
    simp only
    rw [hS1]
    rfl
  rw [← hS0] at i0
  by_cases w0 : w = 0
  · rw [if_pos w0, if_pos w0]
    have hoff : offerM S0 i (bytesOf t) a = { S0 with inp := S.inp ++ bytesOf t } := by
      unfold offerM
      rw [if_neg hne, if_pos (by rw [hw0, w0]), hS0]
      rfl
    have i2 := i0.inp (S.inp ++ bytesOf t)
    have hb := bytes_one (S := S) (i := i) (d := d) (m := ⟨2, a, 0, t⟩) hd (by rw [hop.st]; decide) hop.fb hop.fe hg (S1 := { S0 with inp := S.inp ++ bytesOf t }) (by rw [← hd0, ← hS0, hmsg, hoff]; exact i2.turned)
    rw [hb, i2.settle]
    refine ⟨rfl, i2.mono (by omega), by rw [hS0]; rfl, ⟨d0, hcn0, ?_⟩, rfl⟩
    rw [hd0]; simp
  · rw [if_neg w0, if_neg w0]
    have hml : ((mB (rejM a w)).length : Int) ≤ 17 := by
      have h3 := mB_le (rejM a w)
      have h4 : shN (rejM a w).k = 2 := rfl
      have h5 : (rejM a w).t.size = 0 := rfl
      rw [h4, h5] at h3
      omega
    have hoff : offerM S0 i (bytesOf t) a = S0.setc i (some { d0 with out := d0.out ++ mB (rejM a w) }) := by
      unfold offerM
      rw [if_neg hne, if_neg (by rw [hw0]; exact w0), hw0]
      exact send_fit hcn0 (by rw [op0.st]; decide) (by rw [i0.cf]; have := op0.out; show ((mB (rejM a w)).length + _ : Int) ≤ _; omega)
    have i2 : Inv c rl (B + 17) (S0.setc i (some { d0 with out := d0.out ++ mB (rejM a w) })) := i0.setc hr ⟨op0.st, op0.fb, op0.fe, op0.lx, by show (d0.out ++ mB (rejM a w)).length ≤ _; rw [List.length_append]; have := op0.out; omega, op0.vw⟩ (by omega)
    have hb := bytes_one (S := S) (i := i) (d := d) (m := ⟨2, a, 0, t⟩) hd (by rw [hop.st]; decide) hop.fb hop.fe hg (S1 := S0.setc i (some { d0 with out := d0.out ++ mB (rejM a w) })) (by rw [← hd0, ← hS0, hmsg, hoff]; exact i2.turned)
    rw [hb, i2.settle]
    refine ⟨rfl, i2, by rw [hS0]; rfl, ⟨_, setc_at _ _ _, ?_⟩, ?_⟩
    · rw [hd0]
    · show S0.inp = _
      rw [hS0]
      simp [St.setc]

/-! ### commands -/
def denM (s : ByteArray) : Mg := ⟨11, 0, 0, s⟩
/-- a command's bytes are these, then comes what the line does -/
theorem calm_line (h : Inv c rl B S) {i : Int} {d : Cn} (hd : S.cn i = some d) {s t : ByteArray} (ht : bytesOf t = [29, 58] ++ bytesOf s ++ [10]) (hs : s.size ≤ 80) (h10 : ∀ x ∈ bytesOf s, x ≠ 10) {S1 S2 : St}
    (h1 : S1 = S.setc i (some { d with idle := 0, fb := [], fe := 0, lx := ⟨0, bytesOf s, false⟩ })) (h2 : lineM1 S1 i s = S2) (h3 : turned S2 = S2) : bytesM S i (mB ⟨2, 1, 0, t⟩) = (settle S2, 0) := by
  obtain ⟨hr, hop⟩ := h.some hd
  have hsl : (bytesOf s).length = s.size := bytesOf_length s
  have htl : (bytesOf t).length = t.size := bytesOf_length t
  have hts : t.size = s.size + 3 := by rw [← htl, ht]; simp [hsl]
  have hg : mgB ⟨2, 1, 0, t⟩ = true := by
    unfold mgB
    simp [shO, shN, shT]
    omega
  obtain ⟨d0, hd0⟩ : ∃ d0 : Cn, d0 = { d with idle := 0, fb := [], fe := 0 } := ⟨_, rfl⟩
  have op0 : Op B d0 := by rw [hd0]; exact ⟨hop.st, rfl, rfl, hop.lx, hop.out, hop.vw⟩
  have hlx : lexAll d0.lx (bytesOf t) = (⟨0, bytesOf s, false⟩, [], [s]) := by
    rw [ht, lex_cmd _ _ op0.lx (by omega) h10, str_bytes]
  have hcn0 : (S.setc i (some d0)).cn i = some d0 := setc_at _ _ _
  have hmsg : messageM (S.setc i (some d0)) i ((⟨2, 1, 0, t⟩ : Mg).k, mBody ⟨2, 1, 0, t⟩) = S2 := by
    unfold messageM
    rw [mOf_mB hg]
    simp only
    rw [if_neg (by decide), if_neg (by rw [show (S.setc i (some d0)).stOf i = d0.st by simp [St.stOf, hcn0], op0.st]; decide)]
    simp only [if_true]
    unfold keysM
    rw [hcn0]
    simp only
    rw [hlx]
    simp only
    rw [setc_setc, show ({ d0 with lx := ⟨0, bytesOf s, false⟩ } : Cn) = { d with idle := 0, fb := [], fe := 0, lx := ⟨0, bytesOf s, false⟩ } by rw [hd0], ← h1]
    have ho : offerM S1 i [] 1 = S1 := if_pos rfl
    rw [ho]
    show (if S1.stOf i = 1 then linesM [] (lineM1 S1 i s) i else S1) = S2
    rw [if_pos (by rw [h1]; simp [St.stOf, St.setc, hop.st]), h2]
    rfl
  refine bytes_one (S := S) (i := i) (d := d) (m := ⟨2, 1, 0, t⟩) hd (by rw [hop.st]; decide) hop.fb hop.fe hg ?_
  rw [← hd0, hmsg, h3]
/-- a command that is denied -/
theorem calm_denied (h : Inv c rl B S) {i : Int} {d : Cn} (hd : S.cn i = some d) {s t : ByteArray} (ht : bytesOf t = [29, 58] ++ bytesOf s ++ [10]) (hs : s.size ≤ 80) (h10 : ∀ x ∈ bytesOf s, x ≠ 10) (hB : (B + 5 + s.size : Int) ≤ c.a2)
    (hno : ∀ S1 : St, S1.tb = S.tb → (∃ d', S1.cn i = some d' ∧ d'.st = 1) → lineM1 S1 i s = turned (send S1 i (denM s))) :
    (bytesM S i (mB ⟨2, 1, 0, t⟩)).2 = 0 ∧ Inv c rl (B + 5 + s.size) (bytesM S i (mB ⟨2, 1, 0, t⟩)).1 ∧ (bytesM S i (mB ⟨2, 1, 0, t⟩)).1.tb = S.tb ∧ (bytesM S i (mB ⟨2, 1, 0, t⟩)).1.inp = S.inp ∧
    (∃ d', (bytesM S i (mB ⟨2, 1, 0, t⟩)).1.cn i = some d' ∧ d'.out = d.out ++ mB (denM s)) ∧ (∀ j, j ≠ i → (bytesM S i (mB ⟨2, 1, 0, t⟩)).1.cn j = S.cn j) := by
  obtain ⟨hr, hop⟩ := h.some hd
  obtain ⟨d1, hd1⟩ : ∃ d1 : Cn, d1 = { d with idle := 0, fb := [], fe := 0, lx := ⟨0, bytesOf s, false⟩ } := ⟨_, rfl⟩
  have op1 : Op B d1 := by rw [hd1]; exact ⟨hop.st, rfl, rfl, rfl, hop.out, hop.vw⟩
  have hml : ((mB (denM s)).length : Int) ≤ 5 + s.size := by
    have h3 := mB_le (denM s)
    have h4 : shN (denM s).k = 0 := rfl
    have h5 : (denM s).t.size = s.size := rfl
    rw [h4, h5] at h3
    omega
  have i1 := h.setc hr op1 (Nat.le_refl _)
  have hcn1 : (S.setc i (some d1)).cn i = some d1 := setc_at _ _ _
  have hsend : send (S.setc i (some d1)) i (denM s) = S.setc i (some { d1 with out := d1.out ++ mB (denM s) }) := by
    rw [send_fit hcn1 (by rw [op1.st]; decide) (by rw [i1.cf]; have := op1.out; omega), setc_setc]
  have i2 : Inv c rl (B + 5 + s.size) (S.setc i (some { d1 with out := d1.out ++ mB (denM s) })) := h.setc hr ⟨op1.st, op1.fb, op1.fe, op1.lx, by show (d1.out ++ mB (denM s)).length ≤ _; rw [List.length_append]; have := op1.out; omega, op1.vw⟩ (by omega)
  have hl := calm_line h hd ht hs h10 (S1 := S.setc i (some d1)) (S2 := S.setc i (some { d1 with out := d1.out ++ mB (denM s) })) (by rw [hd1]) (by rw [hno (S.setc i (some d1)) rfl ⟨d1, hcn1, op1.st⟩, hsend]; exact i2.turned) i2.turned
  rw [hl, i2.settle]
  refine ⟨rfl, i2, rfl, rfl, ⟨_, setc_at _ _ _, ?_⟩, fun j hj => setc_ne _ _ hj⟩
  rw [hd1]
/-- a command that turns the floor, or is denied -/
theorem calm_floor (h : Inv c rl B S) {i : Int} {d : Cn} (hd : S.cn i = some d) {s t : ByteArray} (ht : bytesOf t = [29, 58] ++ bytesOf s ++ [10]) (hs : s.size ≤ 6) (h10 : ∀ x ∈ bytesOf s, x ≠ 10) (hB : (B + 30 : Int) ≤ c.a2)
    (f : Tb → Tb × Int) (hf : ∀ T : Tb, T.roles = rl → (f T).1.roles = rl ∧ ((f T).2 ≠ 0 → (f T).1 = T))
    (hgo : ∀ S1 : St, lineM1 S1 i s = turned (if (setTe S1 (f S1.tb)).2 = true then (setTe S1 (f S1.tb)).1 else send (setTe S1 (f S1.tb)).1 i (denM s))) :
    (bytesM S i (mB ⟨2, 1, 0, t⟩)).2 = 0 ∧ Inv c rl (B + 30) (bytesM S i (mB ⟨2, 1, 0, t⟩)).1 ∧ (bytesM S i (mB ⟨2, 1, 0, t⟩)).1.inp = S.inp := by
  obtain ⟨hr, hop⟩ := h.some hd
  obtain ⟨k1, k2⟩ := hf S.tb h.roles
  by_cases e0 : (f S.tb).2 = 0
  · obtain ⟨d1, hd1⟩ : ∃ d1 : Cn, d1 = { d with idle := 0, fb := [], fe := 0, lx := ⟨0, bytesOf s, false⟩ } := ⟨_, rfl⟩
    have op1 : Op B d1 := by rw [hd1]; exact ⟨hop.st, rfl, rfl, rfl, hop.out, hop.vw⟩
    have i1 := h.setc hr op1 (Nat.le_refl _)
    have i2 := i1.turn (t := (f S.tb).1) k1 (by omega)
    have hline : lineM1 (S.setc i (some d1)) i s = turned { (S.setc i (some d1)) with tb := (f S.tb).1 } := by
      rw [hgo]
      have : (setTe (S.setc i (some d1)) (f (S.setc i (some d1)).tb)).2 = true := by
        show ((f S.tb).2 == 0) = true
        rw [e0]; rfl
      rw [if_pos this]
      rfl
    have hl := calm_line h hd ht (by omega) h10 (S1 := S.setc i (some d1)) (S2 := turned { (S.setc i (some d1)) with tb := (f S.tb).1 }) (by rw [hd1]) hline i2.1.turned
    rw [hl, i2.1.settle]
    exact ⟨rfl, i2.1.mono (by omega), i2.2⟩
  · have hd2 := calm_denied h hd ht (by omega) h10 (by omega) (fun S1 ht1 _ => by
      rw [hgo]
      have : (setTe S1 (f S1.tb)).2 ≠ true := by
        rw [ht1]
        show ¬ ((f S.tb).2 == 0) = true
        simpa using e0
      rw [if_neg this]
      have e : (setTe S1 (f S1.tb)).1 = S1 := by
        rw [ht1]
        show { S1 with tb := (f S.tb).1 } = S1
        rw [k2 e0, ← ht1]
      rw [e])
    exact ⟨hd2.1, hd2.2.1.mono (by omega), hd2.2.2.2.1⟩

/-! ### writing, draining, ticks -/
theorem calm_write (h : Inv c rl B S) {i : Int} {d : Cn} (hd : S.cn i = some d) (hB : B ≤ 65536) :
    writeM S i 65536 = (S.setc i (some { d with out := [] }), d.out, 0) ∧ Inv c rl B (S.setc i (some { d with out := [] })) := by
  obtain ⟨hr, hop⟩ := h.some hd
  have hl := hop.out
  have hi : Inv c rl B (S.setc i (some { d with out := [] })) := h.setc hr ⟨hop.st, hop.fb, hop.fe, hop.lx, Nat.zero_le _, hop.vw⟩ (Nat.le_refl _)
  refine ⟨?_, hi⟩
  unfold writeM
  rw [hd]
  simp only
  rw [show (65536 : Int).toNat = 65536 from rfl, List.drop_eq_nil_of_le (by omega), List.take_of_length_le (by omega), hi.settle]
theorem tick_commute (hc : S.cf.a6 = 0) (l : List Int) (t : Tb) : ∀ S : St, S.cf.a6 = 0 → l.foldl tickOne { S with tb := t } = { l.foldl tickOne S with tb := t } ∧ (l.foldl tickOne S).cf = S.cf := by
  induction l with
  | nil => intro S _; exact ⟨rfl, rfl⟩
  | cons a l ih =>
    intro S h6
    have h1 : tickOne { S with tb := t } a = { tickOne S a with tb := t } ∧ (tickOne S a).cf = S.cf := by
      unfold tickOne
      simp only
      cases hd : S.cn a with
      | none => exact ⟨rfl, rfl⟩
      | some d =>
        simp only
        rw [if_neg (by omega), if_neg (by omega)]
        exact ⟨rfl, rfl⟩
    show l.foldl tickOne (tickOne { S with tb := t } a) = { l.foldl tickOne (tickOne S a) with tb := t } ∧ _
    rw [h1.1]
    have h2 := ih (tickOne S a) (by rw [h1.2]; exact h6)
    exact ⟨h2.1, h2.2.trans h1.2⟩
theorem calm_tick1 (h : Inv c rl B S) (h6 : c.a6 = 0) (i : Int) : Inv c rl B (tickOne S i) ∧ (tickOne S i).inp = S.inp ∧ (tickOne S i).tb = S.tb := by
  unfold tickOne
  cases hd : S.cn i with
  | none => exact ⟨h, rfl, rfl⟩
  | some d =>
    obtain ⟨hr, hop⟩ := h.some hd
    simp only
    rw [if_neg (by rw [h.cf]; omega)]
    exact ⟨h.setc hr ⟨hop.st, hop.fb, hop.fe, hop.lx, hop.out, hop.vw⟩ (Nat.le_refl _), rfl, rfl⟩
theorem calm_ticks (h6 : c.a6 = 0) (l : List Int) : ∀ S : St, Inv c rl B S → Inv c rl B (l.foldl tickOne S) ∧ (l.foldl tickOne S).inp = S.inp ∧ (l.foldl tickOne S).tb = S.tb := by
  induction l with
  | nil => intro S h; exact ⟨h, rfl, rfl⟩
  | cons a l ih =>
    intro S h
    have h1 := calm_tick1 h h6 a
    have h2 := ih _ h1.1
    exact ⟨h2.1, h2.2.1.trans h1.2.1, h2.2.2.trans h1.2.2⟩
theorem tick_roles (t : Tb) : t.tick.roles = t.roles := by
  unfold Tb.tick
  split
  · rfl
  · split
    · rfl
    · split
      · rfl
      · rw [pass_roles]
theorem calm_tick (h : Inv c rl B S) (h6 : c.a6 = 0) (hB : (B + 11 : Int) ≤ c.a2) : Inv c rl (B + 11) (tickM S) ∧ (tickM S).inp = S.inp := by
  have h6' : S.cf.a6 = 0 := by rw [h.cf]; exact h6
  have h1 := calm_ticks h6 ids16 S h
  have h2 := (tick_commute h6' ids16 S.tb.tick S h6').1
  have h3 := h1.1.turn (t := S.tb.tick) (by rw [tick_roles]; exact h.roles) (by omega)
  have h4 : settle { ids16.foldl tickOne S with tb := S.tb.tick } = turned { ids16.foldl tickOne S with tb := S.tb.tick } := by
    unfold settle
    rw [pump_calm h3.1.log h3.1.shown, h3.1.turned, sweep_calm h3.1.open]
  unfold tickM
  rw [h2, h4]
  exact ⟨h3.1, h3.2.trans h1.2.1⟩
theorem calm_drain (h : Inv c rl B S) (n : Int) : Inv c rl B (drainM S n).1 := h.inp _
end
end Go.Proofs.YtfkamoiamebngaaGreatDoor.Mod

/- kibitzertop: events on calm brokers; WholeDenied, the plain law. -/
namespace Go.Proofs.YtfkamoiamebngaaGreatDoor.BroW
open Go.RowKit Go.Proofs.YtfkamoiamebngaaGreatDoorW.PrintWords Go.Proofs.YtfkamoiamebngaaGreatDoorW.PrintMore Go.Proofs.YtfkamoiamebngaaGreatDoor.Fr Go.Proofs.YtfkamoiamebngaaGreatDoor.ScrW Go.Proofs.YtfkamoiamebngaaGreatDoor.ScrP Go.Proofs.YtfkamoiamebngaaGreatDoor.Mod
set_option linter.unusedVariables false
set_option linter.unusedSimpArgs false

/-! ### events -/
theorem sayE_ok {i : Int} {m : Mg} (h : mgB m = true) (hi : 0 ≤ i ∧ i ≤ 255) : evB (sayE i m) = true := by
  have hl := mB_len m
  have hz : (strOfNums (mB m)).size = (mB m).length := by
    have := bytesOf_length (strOfNums (mB m))
    rw [bytes_str (isB_mB h)] at this
    omega
  unfold evB sayE
  simp [hasI, hasN, hasD, hz]
  omega
theorem step_say {S : St} {i : Int} {m : Mg} (h : mgB m = true) (hi : 0 ≤ i ∧ i ≤ 255) : Mod.step S (sayE i m) = ((bytesM S i (mB m)).1, (bytesM S i (mB m)).2, []) := by
  unfold Mod.step
  rw [if_pos (sayE_ok h hi), if_neg (show ¬ (sayE i m).k = 0 from (by decide : ¬ (1 : Int) = 0)), if_pos (show (sayE i m).k = 1 from rfl)]
  show ((bytesM S i (bytesOf (strOfNums (mB m)))).1, (bytesM S i (bytesOf (strOfNums (mB m)))).2, _) = _
  rw [bytes_str (isB_mB h)]
theorem step_conn {S : St} {i : Int} (hi : 0 ≤ i ∧ i ≤ 255) : Mod.step S (connE i) = ((connectM S i).1, (connectM S i).2, []) := by
  have h : evB (connE i) = true := by
    have hz : (⟨#[]⟩ : ByteArray).size = 0 := rfl
    unfold evB connE
    simp [hasI, hasN, hasD, hz]
    omega
  unfold Mod.step
  rw [if_pos h, if_pos (show (connE i).k = 0 from rfl)]
  rfl
theorem step_all {S : St} {i : Int} (hi : 0 ≤ i ∧ i ≤ 255) : Mod.step S (allE i) = ((writeM S i 65536).1, (writeM S i 65536).2.2, (writeM S i 65536).2.1) := by
  have h : evB (allE i) = true := by
    have hz : (⟨#[]⟩ : ByteArray).size = 0 := rfl
    unfold evB allE
    simp [hasI, hasN, hasD, hz]
    omega
  unfold Mod.step
  rw [if_pos h, if_neg (show ¬ (allE i).k = 0 from (by decide : ¬ (2 : Int) = 0)), if_neg (show ¬ (allE i).k = 1 from (by decide : ¬ (2 : Int) = 1)), if_pos (show (allE i).k = 2 from rfl)]
  rfl
theorem allE_ok {i : Int} (hi : 0 ≤ i ∧ i ≤ 255) : evB (allE i) = true := by
  have hz : (⟨#[]⟩ : ByteArray).size = 0 := rfl
  unfold evB allE
  simp [hasI, hasN, hasD, hz]
  omega
theorem run_app (A B : List Ev) : ∀ S : St, run (A ++ B) S = ((run B (run A S).1).1, (run A S).2 ++ (run B (run A S).1).2) := by
  induction A with
  | nil => intro S; rfl
  | cons e A ih => intro S; simp [run, ih]
theorem msgs_one {m : Mg} (h : mgB m = true) : msgsM (mB m) = ([m], true) := by
  have g := getB_mB h []
  rw [List.append_nil] at g
  have hs := mB_size h
  have hsn := shN_b m.k
  obtain ⟨n, hn⟩ : ∃ n, (mB m).length = n + 1 := ⟨(mB m).length - 1, by omega⟩
  have hne : mB m ≠ [] := fun e => by rw [e] at hn; simp at hn
  unfold msgsM
  unfold msgsGo
  rw [if_neg hne, g]
  simp only [mOf_mB h]
  rw [if_pos (by simp), List.drop_length, hn]
  rfl
theorem cmd_bytes (s : ByteArray) : bytesOf (cmdT s) = [29, 58] ++ bytesOf s ++ [10] := by
  have happ : ∀ a b : ByteArray, bytesOf (a ++ b) = bytesOf a ++ bytesOf b := fun a b => by
    unfold bytesOf
    rw [ByteArray.data_append, Array.toList_append, List.map_append]
  unfold cmdT
  rw [happ, happ]
  rfl
theorem cmdM_ok {s : ByteArray} (h : s.size ≤ 80) : mgB (cmdM s) = true := by
  have hz : (cmdT s).size = s.size + 3 := by
    have h1 := bytesOf_length (cmdT s)
    rw [cmd_bytes] at h1
    simp [bytesOf_length] at h1
    omega
  unfold mgB cmdM
  simp [shO, shN, shT]
  omega
theorem cmdE_ok {i : Int} {s : ByteArray} (h : s.size ≤ 80) (hi : 0 ≤ i ∧ i ≤ 255) : evB (cmdE i s) = true := sayE_ok (cmdM_ok h) hi
theorem helloG_ok (wr : Bool) : mgB (helloG wr) = true := by cases wr <;> decide
/-- one comes to a calm broker -/
theorem ev_comes {c : Cf} {rl : Int → Option Int} {B : Nat} {S : St} (h : Inv c rl B S) {i r : Int} (hi : rl i = none) (h1 : 1 ≤ i ∧ i ≤ 16) (wr : Bool) (hB : (B + 100 : Int) ≤ c.a2)
    (hr : roleFor S wr = r) (hr0 : 0 ≤ r ∧ r ≤ 2) : ∃ S', run (comesL i wr 0) S = (S', [(0, []), (0, [])]) ∧ Inv c (addR rl i r) (B + 40) S' ∧ S'.tb = S.tb.join i r ∧ S'.inp = S.inp := by
  obtain ⟨k1, k2, k3, k4, k5⟩ := calm_comes h hi h1 wr hB hr hr0
  refine ⟨_, ?_, k3, k4, k5⟩
  have e1 : Mod.step S (connE i) = (S.setc i (some cnNew), 0, []) := by rw [step_conn (by omega), k1]
  show ((Mod.step (Mod.step S (connE i)).1 (sayE i (helloG wr))).1, [(Mod.step S (connE i)).2, (Mod.step (Mod.step S (connE i)).1 (sayE i (helloG wr))).2]) = _
  rw [e1]
  simp only
  rw [step_say (helloG_ok wr) (by omega), k2]
/-- all that waits is written -/
theorem ev_all {c : Cf} {rl : Int → Option Int} {B : Nat} {S : St} (h : Inv c rl B S) {i : Int} {d : Cn} (hd : S.cn i = some d) (hi : 0 ≤ i ∧ i ≤ 255) (hB : B ≤ 65536) :
    Mod.step S (allE i) = (S.setc i (some { d with out := [] }), 0, d.out) ∧ Inv c rl B (S.setc i (some { d with out := [] })) := by
  obtain ⟨k1, k2⟩ := calm_write h hd hB
  exact ⟨by rw [step_all hi, k1], k2⟩
theorem roleFor_of {S : St} {rl : Int → Option Int} (h : S.tb.roles = rl) : roleFor S true = if (ids16.filter fun i => (rl i).isSome).any (fun i => (rl i).getD 0 == 2) = true then 1 else 2 := by
  unfold roleFor Tb.users Tb.role
  rw [h]
  simp
theorem inv_new {c : Cf} (hc : cfB c = true) : Inv c (fun _ => none) 0 (stNew c) :=
  ⟨rfl, rfl, rfl, rfl, rfl, rfl, fun i hi => (by cases hi), fun _ _ => rfl, fun i hi => (by cases hi)⟩
def rl1 : Int → Option Int := addR (fun _ => none) 1 2
def rl2 : Int → Option Int := addR rl1 2 1

/-! ### WholeDenied -/
theorem sz_le {L : List Ev} (h : ∀ e ∈ L, evB e = true) : sz L ≤ 4000 * L.length := by
  induction L with
  | nil => simp [sz]
  | cons e L ih =>
    have h1 := (evB_facts (h e (by simp))).2.2.2
    have h2 := ih (fun x hx => h x (by simp [hx]))
    unfold sz at h2 ⊢
    simp only [List.map_cons, List.sum_cons, List.length_cons]
    omega
theorem strOf_size {l : List Int} : (strOfNums l).size = l.length := by
  have : (strOfNums l).size = (strOfNums l).data.size := rfl
  rw [this]
  simp [strOfNums]
end Go.Proofs.YtfkamoiamebngaaGreatDoor.BroW

/- What the law on input takes besides. -/
namespace Go.Proofs.YtfkamoiamebngaaGreatDoor.Openers
open Go.Joins Go.ChangeShapes Go.WideShapes Go.RowKit Go.Deep Go.Proofs.YtfkamoiamebngaaGreatDoorW.PrintWords
set_option linter.unusedVariables false
section
variable {H : Type} {enc : TypeId × Value → H} {P : Program} {W : World} {t e : TypeId} {A : Option Addr} {len cap : Nat} {d : DataW H} {ps : List MemPlace}
/-- A slice of whole numbers. -/
theorem open_nums {k : IntKind} (ht : P.underlying t = some (.slice e)) (he : P.underlying e = some (.int k)) (hc : P.cellsOf e = 1) {B : Nat} (hB : P.bytesOf e = B)
    (hl : Light P t d) (h : ∃ fuel, DataW.trod enc P W 0 (fun _ => true) true fuel t [.slice A len cap] = some (d, ps)) :
    ∃ xs : List Int, len = xs.length ∧ len ≤ cap ∧ ReadsInt W k A xs.length xs ∧ (∀ x ∈ xs, (Lit.int k x).wf = true) ∧ xs.length * B ≤ 140737488351232 := by
  obtain ⟨fuel, hf⟩ := h
  rcases open_ints ht he hc hf with ⟨hcs, _⟩ | ⟨x, l, c, zs, hcs, _, hlc, hm, hz, hx, hcell, hwz⟩
  · simp at hcs
    obtain ⟨rfl, rfl, rfl⟩ := hcs
    exact ⟨[], rfl, Nat.le_refl _, ⟨rfl, by simp, (fun h => by simp at h)⟩, (fun _ h => by cases h), by simp⟩
  · simp at hcs
    obtain ⟨rfl, rfl, rfl⟩ := hcs
    obtain ⟨hx, _⟩ := Prod.mk.inj hx
    subst hx
    have z := (light_slice hl ht).1
    rw [hB] at z
    simp only [if_true] at hz
    have h1 : (lits (H := H) k (zs.take len)).length + (lits (H := H) k (zs.drop len)).length = zs.length := by simp [lits]; omega
    rw [h1] at z
    have hll : (zs.take len).length = len := by simp; omega
    refine ⟨zs.take len, hll.symm, hlc, ⟨rfl, by unfold maxLen at hm; omega, fun h0 => ⟨x, rfl, fun j hj => ?_⟩⟩, fun n hn => hwz n (List.mem_of_mem_take hn), ?_⟩
    · rw [hll] at hj
      rw [hcell j (by omega)]
      congr 2
      simp [List.getD, hj]
    · rw [hll]
      exact Nat.le_trans (Nat.mul_le_mul_right _ (by omega)) z

/-- A slice of texts. -/
theorem open_texts (ht : P.underlying t = some (.slice e)) (he : P.underlying e = some .string) (hc : P.cellsOf e = 1)
    (hl : Light P t d) (h : ∃ fuel, DataW.trod enc P W 0 (fun _ => true) true fuel t [.slice A len cap] = some (d, ps)) :
    ∃ xs : List ByteArray, len = xs.length ∧ len ≤ cap ∧ ReadsOf Value.string ByteArray.empty W A xs.length xs ∧ (∀ x ∈ xs, x.size ≤ 140737488351232) ∧ xs.length ≤ 9223372036854775807 := by
  obtain ⟨fuel, hf⟩ := h
  rcases open_strings ht he hc hf with ⟨hcs, _⟩ | ⟨x, l, c, zs, hcs, _, hlc, hm, hz, hx, hcell, hwz⟩
  · simp at hcs
    obtain ⟨rfl, rfl, rfl⟩ := hcs
    exact ⟨[], rfl, Nat.le_refl _, ⟨rfl, by simp, (fun h => by simp at h)⟩, (fun _ h => by cases h), by simp⟩
  · simp at hcs
    obtain ⟨rfl, rfl, rfl⟩ := hcs
    obtain ⟨hx, _⟩ := Prod.mk.inj hx
    subst hx
    have z := (light_slice hl ht).2
    simp only [if_true] at hz
    have hll : (zs.take len).length = len := by simp; omega
    have hle : len ≤ 9223372036854775807 := by unfold maxLen at hm; omega
    refine ⟨zs.take len, hll.symm, hlc, ⟨rfl, by omega, fun h0 => ⟨x, rfl, fun j hj => ?_⟩⟩, fun n hn => ?_, by omega⟩
    · rw [hll] at hj
      rw [hcell j (by omega)]
      congr 2
      simp [List.getD, hj]
    · have := light_string (P := P) (t := e) (z (.lit (.string n.data.toList)) (by
        simp only [strs, List.mem_map]
        exact ⟨n, hn, rfl⟩))
      rw [Array.length_toList] at this
      exact this

end
end Go.Proofs.YtfkamoiamebngaaGreatDoor.Openers

/- kibitzertop: WholeInput, the plain law. -/
namespace Go.Proofs.YtfkamoiamebngaaGreatDoor.BroW
open Go.RowKit Go.Proofs.YtfkamoiamebngaaGreatDoorW.PrintWords Go.Proofs.YtfkamoiamebngaaGreatDoorW.PrintMore Go.Proofs.YtfkamoiamebngaaGreatDoor.Fr Go.Proofs.YtfkamoiamebngaaGreatDoor.ScrW Go.Proofs.YtfkamoiamebngaaGreatDoor.ScrP Go.Proofs.YtfkamoiamebngaaGreatDoor.Mod
set_option linter.unusedVariables false
set_option linter.unusedSimpArgs false

/-- a turn: who asks, drops, types; or a drain, or a tick -/
inductive Tn where
  | floor (id : Int)
  | drop (id : Int)
  | drain (n : Int)
  | tick
  | keys (id : Int) (i : Nat) (s : ByteArray)
def dropS : ByteArray := ⟨#[100, 114, 111, 112]⟩
def floorT : ByteArray := ⟨#[102, 108, 111, 111, 114]⟩
def drainE (n : Int) : Ev := ⟨4, 0, n, ⟨#[]⟩⟩
def tickT : Ev := ⟨5, 0, 0, ⟨#[]⟩⟩
def keyM (i : Nat) (s : ByteArray) : Mg := ⟨2, i, 0, s⟩
def evT : Tn → List Ev
  | .floor id => [cmdE id floorT]
  | .drop id => [cmdE id dropS]
  | .drain n => [drainE n]
  | .tick => [tickT]
  | .keys id i s => [allE id, sayE id (keyM i s), allE id]
def kT : Tn → List Int
  | .keys id _ _ => [id, 0, 0]
  | _ => [0]
def okT : Tn → Prop
  | .floor id => 1 ≤ id ∧ id ≤ 3
  | .drop id => 1 ≤ id ∧ id ≤ 3
  | .drain n => 0 ≤ n ∧ n ≤ 31
  | .tick => True
  | .keys id i s => (1 ≤ id ∧ id ≤ 3) ∧ i ≤ 40 ∧ s.size ≤ 60 ∧ s.size ≠ 0 ∧ ∀ x ∈ bytesOf s, x ≠ 29
/-- what the turn asks to be given -/
def wT (S : St) : Tn → List (List Int)
  | .keys id _ s => [if inqWhy S id s.size = 0 then bytesOf s else [], [], []]
  | _ => [[]]
/-- what the program is given by these events -/
def gOf (E : List Ev) (R : List (Int × List Int)) : List (List Int) := (E.zip R).map fun p => if p.1.k = 4 then p.2.2 else []
/-- at each place where a turn of typing begins -/
def Chk (E : List Ev) (K : List Int) (R : List (Int × List Int)) (W : List (List Int)) : Prop :=
  K.length = E.length ∧ R.length = E.length ∧ W.length = E.length ∧ ∀ i, i < E.length → (K.getD i 0 = 0 → W.getD i [] = []) ∧ (K.getD i 0 ≠ 0 → i + 2 < E.length ∧ (E.getD i ev0).k ≠ 4 ∧
    ∃ (m : Mg) (id : Int), K.getD i 0 = id ∧ (1 ≤ id ∧ id ≤ 3) ∧ mgB m = true ∧ m.t.size ≤ 60 ∧ (E.getD (i + 1) ev0).d = strOfNums (mB m) ∧
      (((R.getD (i + 2) (0, [])).2 = [] ∧ W.getD i [] = bytesOf m.t ∧ id ≠ 3) ∨ ∃ why, 3 ≤ why ∧ why ≤ 5 ∧ (id = 3 → why = 3) ∧ (R.getD (i + 2) (0, [])).2 = mB (rejM m.a why) ∧ W.getD i [] = []))
theorem getD_left {α : Type} {A B : List α} {i : Nat} {d : α} (h : i < A.length) : (A ++ B).getD i d = A.getD i d := by
  simp [List.getD_eq_getElem?_getD, List.getElem?_append_left h]
theorem getD_right {α : Type} {A B : List α} {i : Nat} {d : α} (h : A.length ≤ i) : (A ++ B).getD i d = B.getD (i - A.length) d := by
  simp [List.getD_eq_getElem?_getD, List.getElem?_append_right h]
theorem Chk.app {E1 E2 : List Ev} {K1 K2 : List Int} {R1 R2 : List (Int × List Int)} {W1 W2 : List (List Int)} (h1 : Chk E1 K1 R1 W1) (h2 : Chk E2 K2 R2 W2) : Chk (E1 ++ E2) (K1 ++ K2) (R1 ++ R2) (W1 ++ W2) := by
  obtain ⟨a1, a2, a3, a4⟩ := h1
  obtain ⟨b1, b2, b3, b4⟩ := h2
  refine ⟨by simp [a1, b1], by simp [a2, b2], by simp [a3, b3], fun i hi => ?_⟩
  rw [List.length_append] at hi
  by_cases hlt : i < E1.length
  · obtain ⟨c1, c2⟩ := a4 i hlt
    rw [getD_left (A := K1) (by omega), getD_left (A := W1) (by omega), getD_left (A := E1) hlt]
    refine ⟨c1, fun hk => ?_⟩
    obtain ⟨d1, d2, m, id, d3, d4, d5, d6, d7, d8⟩ := c2 hk
    refine ⟨by rw [List.length_append]; omega, d2, m, id, d3, d4, d5, d6, ?_, ?_⟩
    · rw [getD_left (A := E1) (by omega)]; exact d7
    · rw [getD_left (A := R1) (by omega)]; exact d8
  · obtain ⟨c1, c2⟩ := b4 (i - E1.length) (by omega)
    rw [getD_right (A := K1) (by omega), getD_right (A := W1) (by omega), getD_right (A := E1) (by omega), a1, a3]
    refine ⟨c1, fun hk => ?_⟩
    obtain ⟨d1, d2, m, id, d3, d4, d5, d6, d7, d8⟩ := c2 hk
    have n1 : i + 1 - E1.length = i - E1.length + 1 := Nat.sub_add_comm (Nat.le_of_not_lt hlt)
    have n2 : i + 2 - E1.length = i - E1.length + 2 := Nat.sub_add_comm (Nat.le_of_not_lt hlt)
    have n3 : E1.length ≤ i + 1 := Nat.le_succ_of_le (Nat.le_of_not_lt hlt)
    have n4 : R1.length ≤ i + 2 := by rw [a2]; exact Nat.le_succ_of_le n3
    refine ⟨by rw [List.length_append]; omega, d2, m, id, d3, d4, d5, d6, ?_, ?_⟩
    · rw [getD_right (A := E1) n3, n1]; exact d7
    · rw [getD_right (A := R1) n4, a2, n2]; exact d8
theorem gOf_app {E1 E2 : List Ev} {R1 R2 : List (Int × List Int)} (h : R1.length = E1.length) : gOf (E1 ++ E2) (R1 ++ R2) = gOf E1 R1 ++ gOf E2 R2 := by
  unfold gOf
  rw [List.zip_append h.symm, List.map_append]
theorem chk_one {e : Ev} {r : Int × List Int} : Chk [e] [0] [r] [[]] :=
  ⟨rfl, rfl, rfl, fun i hi => by
    have : i = 0 := by simpa using hi
    subst this
    exact ⟨fun _ => rfl, fun h => absurd rfl h⟩⟩

/-! ### one turn -/
def rl3 : Int → Option Int := addR rl2 3 0
theorem rl3_id {i : Int} (h : 1 ≤ i ∧ i ≤ 3) : (rl3 i).isSome = true := by
  have : i = 1 ∨ i = 2 ∨ i = 3 := by omega
  rcases this with rfl | rfl | rfl <;> rfl
theorem ask_ok (t : Tb) (id : Int) : (t.ask id).1.roles = t.roles ∧ ((t.ask id).2 ≠ 0 → (t.ask id).1 = t) := by
  unfold Tb.ask
  split
  · split
    · exact ⟨rfl, fun _ => rfl⟩
    · split
      · exact ⟨rfl, fun h => absurd rfl h⟩
      · exact ⟨rfl, fun h => absurd rfl h⟩
  · exact ⟨rfl, fun _ => rfl⟩
theorem drop_ok' (t : Tb) (id : Int) : (t.drop id).1.roles = t.roles ∧ ((t.drop id).2 ≠ 0 → (t.drop id).1 = t) := by
  unfold Tb.drop
  split
  · split
    · exact ⟨lose_roles t id, fun h => absurd rfl h⟩
    · exact ⟨rfl, fun _ => rfl⟩
  · exact ⟨rfl, fun _ => rfl⟩
theorem parse_floor : parseO floorT = some (1, 0) := by decide +kernel
theorem parse_drop : parseO dropS = some (2, 0) := by decide +kernel
theorem step_drain {S : St} {n : Int} (hn : 0 ≤ n ∧ n ≤ 65536) : Mod.step S (drainE n) = ((drainM S n).1, 0, (drainM S n).2) ∧ evB (drainE n) = true := by
  have hz : (⟨#[]⟩ : ByteArray).size = 0 := rfl
  have h : evB (drainE n) = true := by
    unfold evB drainE
    simp [hasI, hasN, hasD, hz]
    omega
  refine ⟨?_, h⟩
  unfold Mod.step
  rw [if_pos h, if_neg (show ¬ (drainE n).k = 0 from (by decide : ¬ (4 : Int) = 0)), if_neg (show ¬ (drainE n).k = 1 from (by decide : ¬ (4 : Int) = 1)), if_neg (show ¬ (drainE n).k = 2 from (by decide : ¬ (4 : Int) = 2)), if_neg (show ¬ (drainE n).k = 3 from (by decide : ¬ (4 : Int) = 3)), if_pos (show (drainE n).k = 4 from rfl)]
  rfl
theorem step_tickT (S : St) : Mod.step S tickT = (tickM S, 0, []) := by
  unfold Mod.step
  rw [if_pos (by decide)]
  rfl
theorem keyM_ok {i : Nat} {s : ByteArray} (hi : i ≤ 40) (hs : s.size ≤ 60) : mgB (keyM i s) = true := by
  unfold mgB keyM
  simp [shO, shN, shT]
  omega
theorem rejM_ok {a why : Int} (ha : 0 ≤ a ∧ a ≤ 1099511627776) (hw : 3 ≤ why ∧ why ≤ 5) : mgB (rejM a why) = true := by
  have hz : (strL []).size = 0 := rfl
  unfold mgB rejM
  simp [shO, shN, shT, hz]
  omega
variable {c : Cf} {B : Nat} {S : St}
/-- what one turn leaves -/
structure TurnQ (c : Cf) (B : Nat) (S : St) (t : Tn) (S' : St) (R : List (Int × List Int)) : Prop where
  run : run (evT t) S = (S', R)
  inv : Inv c rl3 (B + 30) S'
  bal : S.inp ++ (wT S t).flatten = (gOf (evT t) R).flatten ++ S'.inp
  chk : Chk (evT t) (kT t) R (wT S t)
  ev : ∀ e ∈ evT t, evB e = true ∧ e.d.size ≤ 700 ∧ e.k ≠ 3
theorem say_size {i : Int} {m : Mg} (h : m.t.size ≤ 100) : (sayE i m).d.size ≤ 700 := by
  show (strOfNums (mB m)).size ≤ _
  rw [strOf_size]
  have h1 := mB_le m
  have h2 := shN_b m.k
  omega
theorem turn_ok (h : Inv c rl3 B S) (h6 : c.a6 = 0) (hB : (B + 60 : Int) ≤ c.a2) (hB2 : B ≤ 60000) (t : Tn) (ht : okT t) : ∃ S' R, TurnQ c B S t S' R := by
  cases t with
  | floor id =>
    obtain ⟨d, hd, _⟩ := h.cn id (rl3_id ht)
    obtain ⟨k1, k2, k3⟩ := calm_floor h hd (cmd_bytes floorT) (by decide) (by decide) (by omega) (fun t => t.ask id) (fun T hT => ⟨(ask_ok T id).1.trans hT, (ask_ok T id).2⟩) (fun S1 => by
      unfold lineM1
      rw [parse_floor]
      rfl)
    have hs : Mod.step S (cmdE id floorT) = ((bytesM S id (mB ⟨2, 1, 0, cmdT floorT⟩)).1, 0, []) := by
      have := step_say (S := S) (i := id) (m := cmdM floorT) (cmdM_ok (by decide)) (by unfold okT at ht; omega)
      unfold cmdE
      rw [this]
      unfold cmdM
      rw [k1]
    refine ⟨_, [(0, [])], ⟨?_, k2, ?_, chk_one, fun e he => ?_⟩⟩
    · show ((Mod.step S (cmdE id floorT)).1, [(Mod.step S (cmdE id floorT)).2]) = _
      rw [hs]
    · rw [k3]
      show S.inp ++ [] = [] ++ S.inp
      simp
    · rw [List.mem_singleton.1 he]
      exact ⟨cmdE_ok (by decide) (by unfold okT at ht; omega), say_size (by decide), (by decide : (1 : Int) ≠ 3)⟩
  | drop id =>
    obtain ⟨d, hd, _⟩ := h.cn id (rl3_id ht)
    obtain ⟨k1, k2, k3⟩ := calm_floor h hd (cmd_bytes dropS) (by decide) (by decide) (by omega) (fun t => t.drop id) (fun T hT => ⟨(drop_ok' T id).1.trans hT, (drop_ok' T id).2⟩) (fun S1 => by
      unfold lineM1
      rw [parse_drop]
      rfl)
    have hs : Mod.step S (cmdE id dropS) = ((bytesM S id (mB ⟨2, 1, 0, cmdT dropS⟩)).1, 0, []) := by
      have := step_say (S := S) (i := id) (m := cmdM dropS) (cmdM_ok (by decide)) (by unfold okT at ht; omega)
      unfold cmdE
      rw [this]
      unfold cmdM
      rw [k1]
    refine ⟨_, [(0, [])], ⟨?_, k2, ?_, chk_one, fun e he => ?_⟩⟩
    · show ((Mod.step S (cmdE id dropS)).1, [(Mod.step S (cmdE id dropS)).2]) = _
      rw [hs]
    · rw [k3]
      show S.inp ++ [] = [] ++ S.inp
      simp
    · rw [List.mem_singleton.1 he]
      exact ⟨cmdE_ok (by decide) (by unfold okT at ht; omega), say_size (by decide), (by decide : (1 : Int) ≠ 3)⟩
  | drain n =>
    have hn : 0 ≤ n ∧ n ≤ 65536 := by unfold okT at ht; omega
    have hs := (step_drain (S := S) hn).1
    refine ⟨(drainM S n).1, [(0, (drainM S n).2)], ⟨?_, (calm_drain h n).mono (by omega), ?_, chk_one, fun e he => ?_⟩⟩
    · show ((Mod.step S (drainE n)).1, [(Mod.step S (drainE n)).2]) = _
      rw [hs]
    · show S.inp ++ [] = ([S.inp.take n.toNat]).flatten ++ S.inp.drop n.toNat
      simp
    · rw [List.mem_singleton.1 he]
      exact ⟨(step_drain (S := S) hn).2, Nat.zero_le _, (by decide : (4 : Int) ≠ 3)⟩
  | tick =>
    have k := calm_tick h h6 (by omega)
    refine ⟨tickM S, [(0, [])], ⟨?_, k.1.mono (by omega), ?_, chk_one, fun e he => ?_⟩⟩
    · show ((Mod.step S tickT).1, [(Mod.step S tickT).2]) = _
      rw [step_tickT]
    · rw [k.2]
      show S.inp ++ [] = [] ++ S.inp
      simp
    · rw [List.mem_singleton.1 he]
      exact ⟨by decide, by decide, by decide⟩
  | keys id i s =>
    obtain ⟨hid, hi, hs60, hs0, h29⟩ := ht
    have hid' : 0 ≤ id ∧ id ≤ 255 := by omega
    obtain ⟨d, hd, _⟩ := h.cn id (rl3_id hid)
    obtain ⟨a1, a2⟩ := ev_all h hd hid' (by omega)
    obtain ⟨S1, hS1⟩ : ∃ S1, S1 = S.setc id (some { d with out := [] }) := ⟨_, rfl⟩
    rw [← hS1] at a1 a2
    have c1 : S1.cn id = some { d with out := [] } := by rw [hS1]; exact setc_at _ _ _
    have hm := keyM_ok (i := i) (s := s) hi hs60
    obtain ⟨b1, b2, b3, ⟨d2, c2, o2⟩, b5⟩ := calm_keys a2 c1 (a := i) (t := s) hm h29 hs0 (by omega)
    obtain ⟨S2, hS2⟩ : ∃ S2, S2 = (bytesM S1 id (mB ⟨2, i, 0, s⟩)).1 := ⟨_, rfl⟩
    have hst : Mod.step S1 (sayE id (keyM i s)) = (S2, 0, []) := by
      rw [step_say hm hid']
      unfold keyM
      rw [b1, hS2]
    rw [← hS2] at b2 b3 c2 b5
    obtain ⟨e1, e2⟩ := ev_all b2 c2 hid' (by omega)
    have hwhy : inqWhy S1 id s.size = inqWhy S id s.size := by rw [hS1]; rfl
    have hinp : S1.inp = S.inp := by rw [hS1]; rfl
    obtain ⟨w, hw⟩ : ∃ w, w = inqWhy S id s.size := ⟨_, rfl⟩
    rw [hwhy, ← hw] at o2 b5
    rw [hinp] at b5
    obtain ⟨r, hr⟩ : ∃ r, S.tb.roles id = some r := by
      rw [h.roles]
      exact Option.isSome_iff_exists.1 (rl3_id hid)
    have hwb := why_b S id s.size h.inE hr
    have hobs : id = 3 → w = 3 := fun e => by rw [hw]; exact why_obs S id s.size h.inE (by rw [h.roles, e]; rfl)
    rw [← hw] at hwb
    refine ⟨S2.setc id (some { d2 with out := [] }), [(0, d.out), (0, []), (0, d2.out)], ⟨?_, e2.mono (by omega), ?_, ?_, fun e he => ?_⟩⟩
    · show ((Mod.step (Mod.step (Mod.step S (allE id)).1 (sayE id (keyM i s))).1 (allE id)).1, [(Mod.step S (allE id)).2, (Mod.step (Mod.step S (allE id)).1 (sayE id (keyM i s))).2, (Mod.step (Mod.step (Mod.step S (allE id)).1 (sayE id (keyM i s))).1 (allE id)).2]) = _
      rw [a1]
      simp only
      rw [hst]
      simp only
      rw [e1]
    · show S.inp ++ [if inqWhy S id s.size = 0 then bytesOf s else [], [], []].flatten = ([[], [], []] : List (List Int)).flatten ++ (S2.setc id _).inp
      rw [← hw]
      show _ = [] ++ S2.inp
      rw [b5]
      simp
    · refine ⟨rfl, rfl, rfl, fun j hj => ?_⟩
      have h3 : j = 0 ∨ j = 1 ∨ j = 2 := by
        have : j < 3 := hj
        omega
      rcases h3 with rfl | rfl | rfl
      · refine ⟨fun hk => absurd hk (by show id ≠ 0; omega), fun _ => ⟨(by decide : 0 + 2 < 3), by show (2 : Int) ≠ 4; decide, keyM i s, id, rfl, hid, hm, hs60, rfl, ?_⟩⟩
        show (d2.out = [] ∧ (if inqWhy S id s.size = 0 then bytesOf s else []) = bytesOf s ∧ id ≠ 3) ∨ ∃ why, 3 ≤ why ∧ why ≤ 5 ∧ (id = 3 → why = 3) ∧ d2.out = mB (rejM i why) ∧ (if inqWhy S id s.size = 0 then bytesOf s else []) = []
        rw [← hw, o2]
        by_cases w0 : w = 0
        · left
          rw [if_pos w0, if_pos w0]
          exact ⟨rfl, rfl, fun e => by have := hobs e; omega⟩
        · right
          rw [if_neg w0, if_neg w0]
          exact ⟨w, by omega, by omega, hobs, rfl, rfl⟩
      · exact ⟨fun _ => rfl, fun hk => absurd rfl hk⟩
      · exact ⟨fun _ => rfl, fun hk => absurd rfl hk⟩
    · simp only [evT, List.mem_cons, List.not_mem_nil, or_false] at he
      rcases he with rfl | rfl | rfl
      · exact ⟨allE_ok hid', Nat.zero_le _, by show (2 : Int) ≠ 3; decide⟩
      · exact ⟨sayE_ok hm hid', say_size (by show s.size ≤ 100; omega), by show (1 : Int) ≠ 3; decide⟩
      · exact ⟨allE_ok hid', Nat.zero_le _, by show (2 : Int) ≠ 3; decide⟩

/-! ### all turns -/
def evTs (T : List Tn) : List Ev := (T.map evT).flatten
def kTs (T : List Tn) : List Int := (T.map kT).flatten
theorem turns_ok (h6 : c.a6 = 0) (T : List Tn) : ∀ (B : Nat) (S : St), Inv c rl3 B S → ((B + 30 * T.length + 60 : Nat) : Int) ≤ c.a2 → B + 30 * T.length ≤ 60000 → (∀ t ∈ T, okT t) →
    ∃ S' R W, run (evTs T) S = (S', R) ∧ Inv c rl3 (B + 30 * T.length) S' ∧ S.inp ++ W.flatten = (gOf (evTs T) R).flatten ++ S'.inp ∧ Chk (evTs T) (kTs T) R W ∧ ∀ e ∈ evTs T, evB e = true ∧ e.d.size ≤ 700 ∧ e.k ≠ 3 := by
  induction T with
  | nil =>
    intro B S h _ _ _
    refine ⟨S, [], [], rfl, h, by simp [evTs, gOf], ⟨rfl, rfl, rfl, fun i hi => by simp [evTs] at hi⟩, fun e he => by simp [evTs] at he⟩
  | cons t T ih =>
    intro B S h hB hB2 hT
    simp only [List.length_cons] at hB hB2
    obtain ⟨S1, R1, q1, q2, q3, q4, q5⟩ := turn_ok h h6 (by omega) (by omega) t (hT t (by simp))
    obtain ⟨S2, R2, W2, p1, p2, p3, p4, p5⟩ := ih (B + 30) S1 q2 (by omega) (by omega) (fun x hx => hT x (by simp [hx]))
    have e1 : evTs (t :: T) = evT t ++ evTs T := by simp [evTs]
    have e2 : kTs (t :: T) = kT t ++ kTs T := by simp [kTs]
    refine ⟨S2, R1 ++ R2, wT S t ++ W2, ?_, p2.mono (by simp only [List.length_cons]; omega), ?_, ?_, fun e he => ?_⟩
    · rw [e1, run_app, q1]
      simp only
      rw [p1]
    · rw [e1, gOf_app q4.2.1, List.flatten_append, List.flatten_append, List.append_assoc, ← p3, ← List.append_assoc, q3, List.append_assoc]
    · rw [e1, e2]; exact q4.app p4
    · rw [e1] at he
      rcases List.mem_append.1 he with he | he
      · exact q5 e he
      · exact p5 e he
def preE : List Ev := (comesL 1 true 0 ++ comesL 2 true 0) ++ comesL 3 false 0
def inE (T : List Tn) : List Ev := (preE ++ evTs T) ++ [drainE 65536]
def inK (T : List Tn) : List Int := ([0, 0, 0, 0, 0, 0] ++ kTs T) ++ [0]
def cfI (c : Cf) : Cf := ⟨c.a0, c.a1, 4000, c.a3, c.a4, c.a5, 0, c.a7⟩
theorem cfI_ok {c : Cf} (h : cfB c = true) : cfB (cfI c) = true := by
  unfold cfB at h ⊢
  unfold cfI
  simp at h ⊢
  omega
theorem chk_pre (R : List (Int × List Int)) (hR : R.length = 6) : Chk preE [0, 0, 0, 0, 0, 0] R [[], [], [], [], [], []] := by
  refine ⟨rfl, hR, rfl, fun i hi => ?_⟩
  have h6 : i < 6 := hi
  have hk : ([0, 0, 0, 0, 0, 0] : List Int).getD i 0 = 0 := by
    match i, h6 with
    | 0, _ | 1, _ | 2, _ | 3, _ | 4, _ | 5, _ => rfl
  refine ⟨fun _ => ?_, fun h => absurd hk h⟩
  match i, h6 with
  | 0, _ | 1, _ | 2, _ | 3, _ | 4, _ | 5, _ => rfl
/-- the whole play -/
theorem input_ok {c : Cf} (hc : cfB c = true) (T : List Tn) (hl : T.length ≤ 40) (hT : ∀ t ∈ T, okT t) :
    ∃ W, Chk (inE T) (inK T) (run (inE T) (stNew (cfI c))).2 W ∧ W.flatten = (gOf (inE T) (run (inE T) (stNew (cfI c))).2).flatten ∧ (∀ e ∈ inE T, evB e = true ∧ e.d.size ≤ 700 ∧ e.k ≠ 3) := by
  have hcI := cfI_ok hc
  have i0 := inv_new hcI
  obtain ⟨S1, r1, i1, t1, p1⟩ := ev_comes i0 (i := 1) (r := 2) rfl (by decide) true (by show (0 + 100 : Int) ≤ 4000; decide) (by rw [roleFor_of i0.roles]; decide) (by decide)
  obtain ⟨S2, r2, i2, t2, p2⟩ := ev_comes i1 (i := 2) (r := 1) rfl (by decide) true (by show (((0 + 40 : Nat) : Int) + 100) ≤ 4000; decide) (by rw [roleFor_of i1.roles]; decide) (by decide)
  obtain ⟨S3, r3, i3, t3, p3⟩ := ev_comes i2 (i := 3) (r := 0) rfl (by decide) false (by show (((0 + 40 + 40 : Nat) : Int) + 100) ≤ 4000; decide) (by rfl) (by decide)
  have hpre : run preE (stNew (cfI c)) = (S3, [(0, []), (0, []), (0, []), (0, []), (0, []), (0, [])]) := by
    unfold preE
    rw [run_app, run_app, r1]
    simp only
    rw [r2]
    simp only
    rw [r3]
    rfl
  have hinp : S3.inp = [] := by rw [p3, p2, p1]; rfl
  obtain ⟨S4, R, W, q1, q2, q3, q4, q5⟩ := turns_ok (c := cfI c) rfl T 120 S3 i3 (by show ((120 + 30 * T.length + 60 : Nat) : Int) ≤ 4000; omega) (by omega) hT
  have hev : ∀ e ∈ inE T, evB e = true ∧ e.d.size ≤ 700 ∧ e.k ≠ 3 := by
    intro e he
    unfold inE at he
    rcases List.mem_append.1 he with he | he
    · rcases List.mem_append.1 he with he | he
      · have h1 : ∀ e ∈ preE, evB e = true ∧ e.d.size ≤ 700 ∧ e.k ≠ 3 := by decide +kernel
        exact h1 e he
      · exact q5 e he
    · rw [List.mem_singleton.1 he]
      exact ⟨(step_drain (S := S4) (by decide)).2, by decide, by decide⟩
  have h8 : outSum (preE ++ evTs T) = 0 := by
    have h1 : ∀ L : List Ev, (∀ e ∈ L, e.k ≠ 3) → outSum L = 0 := by
      intro L
      induction L with
      | nil => intro _; rfl
      | cons e L ih =>
        intro h
        have h2 := ih (fun x hx => h x (by simp [hx]))
        unfold outSum at h2 ⊢
        simp only [List.map_cons, List.sum_cons, h2]
        unfold outLen
        rw [if_neg (h e (by simp))]
    exact h1 _ (fun e he => (hev e (by unfold inE; exact List.mem_append_left _ he)).2.2)
  have hrun : run (preE ++ evTs T) (stNew (cfI c)) = (S4, [(0, []), (0, []), (0, []), (0, []), (0, []), (0, [])] ++ R) := by
    rw [run_app, hpre]
    simp only
    rw [q1]
  have hwf := run_ok (preE ++ evTs T) (stNew (cfI c)) (new_wf hcI) (by rw [h8]; show 0 + 0 ≤ 8100; omega)
  rw [hrun] at hwf
  have hlen : S4.inp.length ≤ 65536 := by
    have h1 := hwf.1.inp
    have h2 := cf_b hwf.1
    simp only at h1 h2
    omega
  have hd := (step_drain (S := S4) (n := 65536) (by decide)).1
  have hfin : run (inE T) (stNew (cfI c)) = ((drainM S4 65536).1, ([(0, []), (0, []), (0, []), (0, []), (0, []), (0, [])] ++ R) ++ [(0, S4.inp)]) := by
    unfold inE
    rw [run_app, hrun]
    simp only [run]
    rw [hd]
    have : (drainM S4 65536).2 = S4.inp := by
      show S4.inp.take (65536 : Int).toNat = _
      rw [show (65536 : Int).toNat = 65536 from rfl, List.take_of_length_le hlen]
    rw [this]
  refine ⟨([[], [], [], [], [], []] ++ W) ++ [[]], ?_, ?_, hev⟩
  · rw [hfin]
    exact ((chk_pre _ rfl).app q4).app chk_one
  · rw [hfin]
    unfold inE
    rw [gOf_app (by rw [List.length_append, List.length_append, q4.2.1]; rfl), gOf_app (by rfl)]
    have g1 : gOf preE [(0, []), (0, []), (0, []), (0, []), (0, []), (0, [])] = [[], [], [], [], [], []] := by rfl
    have g2 : gOf [drainE 65536] [(0, S4.inp)] = [S4.inp] := by rfl
    rw [g1, g2]
    rw [hinp] at q3
    simp only [List.flatten_append]
    rw [List.nil_append] at q3
    simp [q3]
end Go.Proofs.YtfkamoiamebngaaGreatDoor.BroW

/- kibitzertop: frameOf. -/
namespace Go.Proofs.YtfkamoiamebngaaGreatDoor.BroW
open Go.RowKit Go.Proofs.YtfkamoiamebngaaGreatDoorW.PrintWords Go.Proofs.YtfkamoiamebngaaGreatDoorW.PrintMore Go.Proofs.YtfkamoiamebngaaGreatDoor.Fr Go.Proofs.YtfkamoiamebngaaGreatDoor.ScrW Go.Proofs.YtfkamoiamebngaaGreatDoor.ScrP Go.Proofs.YtfkamoiamebngaaGreatDoor.Mod
set_option linter.unusedVariables false
set_option linter.unusedSimpArgs false

set_option maxRecDepth 100000 in
set_option maxHeartbeats 4000000 in
theorem frameOf_calls (m : Mg) (hg : mgB m = true) (w : World) :
    Calls Tryz.prog 17 #[.string (strOfNums (mB m))] w fun e w' => ∃ Ab cb, e = .returned (.agg #[.int .u8 m.k, .slice Ab (mBody m).length cb]) ∧ w'.ownsRow w.heap.size 5 1 (.slice Ab (mBody m).length cb) (mBody m).length (nums .u8 (mBody m)) ∧ Fr nope w w' := by
  obtain ⟨s, hs⟩ : ∃ s, s = strOfNums (mB m) := ⟨_, rfl⟩
  have hbs : bytesOf s = mB m := by rw [hs]; exact bytes_str (isB_mB hg)
  have hsz : s.size = (mB m).length := by rw [← hbs, bytesOf_length]
  have hml := mB_len m
  have kcv : ∀ W, (convert 9 29 (.string s)).run Tryz.prog W = .ok (.slice (some ⟨W.heap.size, 0, none⟩) s.size (grownCap W s.size 0 5)) (Lib.bytesWorld W 5 s) := fun W => Lib.run_convert_string_bytes W 9 29 5 s Tryz.underlying9 Tryz.underlying29 Tryz.underlying5
  have HGET : Aside0 (∀ W : World, Calls Tryz.prog 32 #[.slice (some ⟨W.heap.size, 0, none⟩) s.size (grownCap W s.size 0 5)] (Lib.bytesWorld W 5 s) (FGet (Lib.bytesWorld W 5 s) ((m.k, mBody m), (mB m).length, 0))) := ⟨fun W => by
    have hr := bytes_reads W 5 s (by omega)
    have h := fget_calls (bytesOf s) (some ⟨W.heap.size, 0, none⟩) (grownCap W s.size 0 5) (Lib.bytesWorld W 5 s) (by rw [bytesOf_len]; exact grownCap_ge _ _ _ _) (by have h := grownCap_le_maxLen W s.size 0 5 (by unfold maxLen; omega); unfold maxLen at h; omega) hr (bytesOf_isB' s)
    rw [bytesOf_len, hbs, show getB (mB m) = ((m.k, mBody m), (mB m).length, 0) by have g := getB_mB hg []; rwa [List.append_nil] at g] at h
    exact h⟩
  have HF0 : Aside0 (Fr nope w (w.alloc (.cells #[.int .u8 0, .slice none 0 0] 50))) := ⟨(Fr.refl nope w).alloc _⟩
  have HB0 : Aside0 ((w.alloc (.cells #[.int .u8 0, .slice none 0 0] 50)).heap[w.heap.size]? = some (.cells #[.int .u8 0, .slice none 0 0] 50 (0, 0))) := ⟨blk_new _ _⟩
  have HG2 : Aside0 (Calls Tryz.prog 32 #[.slice (some ⟨w.heap.size + 1, 0, none⟩) s.size (grownCap (w.alloc (.cells #[.int .u8 0, .slice none 0 0] 50)) s.size 0 5)] (Lib.bytesWorld (w.alloc (.cells #[.int .u8 0, .slice none 0 0] 50)) 5 s) (FGet (Lib.bytesWorld (w.alloc (.cells #[.int .u8 0, .slice none 0 0] 50)) 5 s) ((m.k, mBody m), (mB m).length, 0))) := ⟨by
    have h := HGET.out (w.alloc (.cells #[.int .u8 0, .slice none 0 0] 50))
    rw [World.size_alloc] at h
    exact h⟩
  rw [← hs]
  clear hs hbs hml hsz
  go_enter Tryz.func17, Tryz.ntmps17
  go_wp2_with (first | (go_at_call 32; (with_reducible refine HG2.out.mono ?_); rintro e1 w1 ⟨v, rfl, ho1, hf1⟩; obtain ⟨Ab, cb, rfl⟩ := own_slice ho1; have HO1 := Aside0.mk ho1; have HF1 := Aside0.mk ((fr_bytes (Fr.refl nope (w.alloc (.cells #[.int .u8 0, .slice none 0 0] 50))) 5 s).trans hf1 (fun _ _ h => h)); have hB := HF1.out.blk HB0.out (fun h => h); have p0 := (blk_cell hB 0).trans rfl; have p1 := (blk_cell hB 1).trans rfl; have q0 := blk_frozen hB 0; have q1 := blk_frozen hB 1; have hbl := blk_lt hB; have HB := Aside0.mk hB; clear ho1 hf1 hB))
  have hA := blk_alloc (blk_set (blk_set HB.out 0 (.int .u8 m.k)) 1 (.slice Ab (mBody m).length cb)) (.cells #[.int .u8 m.k, .slice Ab (mBody m).length cb] 50)
  have z0 := (blk_cell hA 0).trans rfl
  have z1 := (blk_cell hA 1).trans rfl
  have hfr : Fr nope w (((w1.setCell ⟨w.heap.size, 0, none⟩ (.int .u8 m.k)).setCell ⟨w.heap.size, 1, none⟩ (.slice Ab (mBody m).length cb)).alloc (.cells #[.int .u8 m.k, .slice Ab (mBody m).length cb] 50)) := ((((HF0.out.trans HF1.out (fun _ _ h => h))).set (fun h => absurd h (by omega)) 0 _).set (fun h => absurd h (by omega)) 1 _).alloc _
  have hsz : w.heap.size + 1 ≤ (Lib.bytesWorld (w.alloc (.cells #[.int .u8 0, .slice none 0 0] 50)) 5 s).heap.size := by have h := (fr_bytes (Fr.refl nope (w.alloc (.cells #[.int .u8 0, .slice none 0 0] 50))) 5 s).size; rw [World.size_alloc] at h; exact h
  have hne : ∀ j : Nat, some w.heap.size ≠ (Value.slice Ab (mBody m).length cb).ownBlock := fun j hj => by have := (own_old HO1.out (i := w.heap.size) hj.symm).1; omega
  have hown := own_base_le ((own_setCell (own_setCell HO1.out (p := ⟨w.heap.size, 0, none⟩) (hne 0) (.int .u8 m.k)) (p := ⟨w.heap.size, 1, none⟩) (hne 1) (.slice Ab (mBody m).length cb)).alloc (.cells #[.int .u8 m.k, .slice Ab (mBody m).length cb] 50)) (show w.heap.size ≤ _ by omega)
  obtain ⟨W4, hW4⟩ : ∃ W4, W4 = ((w1.setCell ⟨w.heap.size, 0, none⟩ (.int .u8 m.k)).setCell ⟨w.heap.size, 1, none⟩ (.slice Ab (mBody m).length cb)).alloc (.cells #[.int .u8 m.k, .slice Ab (mBody m).length cb] 50) := ⟨_, rfl⟩
  rw [← hW4] at z0 z1 hfr hown ⊢
  refine bodyPost_ret (by simp [results, Tryz.results17, go_sem, z0, z1]; try rfl) rfl ?_
  exact ⟨Ab, cb, rfl, hown, hfr⟩
end Go.Proofs.YtfkamoiamebngaaGreatDoor.BroW

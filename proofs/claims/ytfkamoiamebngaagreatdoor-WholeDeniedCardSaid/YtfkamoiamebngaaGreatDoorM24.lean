/- A message's bytes are one frame, and the frame is the message. Plain. -/
import Derived.Test.YtfkamoiamebngaaGreatDoorM19
import Derived.Test.YtfkamoiamebngaaGreatDoorM22
namespace Go.Proofs.YtfkamoiamebngaaGreatDoor.Mod
open Go.RowKit Go.Proofs.YtfkamoiamebngaaGreatDoorW.PrintWords Go.Proofs.YtfkamoiamebngaaGreatDoor.ScrP Go.Proofs.YtfkamoiamebngaaGreatDoor.LexP Go.Proofs.YtfkamoiamebngaaGreatDoor.BroW
set_option linter.unusedVariables false

theorem bytes_str {l : List Int} (h : isB l) : bytesOf (strOfNums l) = l := by
  unfold bytesOf strOfNums
  simp only [List.map_map]
  rw [List.map_congr_left (g := id)]
  · simp
  · intro x hx
    have := h x hx
    simp only [Function.comp_apply, id_eq, UInt8.toNat_ofNat']
    omega
theorem be6_rd (n : Int) (h : 0 ≤ n) (h2 : n ≤ 1099511627776) : rdN (be6 n) = n := by simp [rdN, be6]; omega
theorem be6_len (n : Int) : (be6 n).length = 6 := rfl
theorem sh_bound (k : Int) : 6 * shN k + shT k ≤ 2048 := by
  unfold shN shT
  repeat' split
  all_goals omega
theorem mgB_facts {m : Mg} (h : mgB m = true) : (1 ≤ m.k ∧ m.k ≤ 15) ∧ (m.t.size : Int) ≤ shT m.k ∧ (0 ≤ m.a ∧ m.a ≤ 1099511627776) ∧ (0 ≤ m.b ∧ m.b ≤ 1099511627776) ∧ (0 < shN m.k ∨ m.a = 0) ∧ (1 < shN m.k ∨ m.b = 0) := by
  unfold mgB shO at h
  simp at h
  omega
theorem mBody_len (m : Mg) : ((mBody m).length : Int) = 6 * shN m.k + m.t.size := by
  have := shN_b m.k
  unfold mBody
  rw [List.length_append, List.length_append, bytesOf_length]
  by_cases h0 : 0 < shN m.k <;> by_cases h1 : 1 < shN m.k <;> simp [h0, h1, be6_len] <;> omega
theorem mB_eq {m : Mg} (h : mgB m = true) : mB m = be2 ((mBody m).length + 1) ++ (m.k :: mBody m) ++ be2 (sumOf (m.k :: mBody m)) := by
  have h1 := (mgB_facts h).2.1
  have h2 := mBody_len m
  have h3 := sh_bound m.k
  unfold mB frB
  rw [if_pos h, if_pos (by omega)]
theorem mB_size {m : Mg} (h : mgB m = true) : ((mB m).length : Int) = 5 + 6 * shN m.k + m.t.size := by
  have h2 := mBody_len m
  rw [mB_eq h]
  simp only [List.length_append, List.length_cons, be2_len]
  omega
theorem mB_le (m : Mg) : ((mB m).length : Int) ≤ 5 + 6 * shN m.k + m.t.size := by
  have h2 := mBody_len m
  have h3 := shN_b m.k
  unfold mB frB
  split
  · split
    · simp only [List.length_append, List.length_cons, be2_len]
      omega
    · simp only [List.length_nil]; omega
  · simp only [List.length_nil]; omega
theorem isB_be6 (n : Int) : isB (be6 n) := by intro x hx; simp [be6] at hx; omega
theorem isB_mBe2 (n : Int) : isB (be2 n) := by intro x hx; simp [be2] at hx; omega
theorem isB_app {a b : List Int} (ha : isB a) (hb : isB b) : isB (a ++ b) := fun x hx => by
  rcases List.mem_append.1 hx with h | h
  · exact ha x h
  · exact hb x h
theorem isB_mBody (m : Mg) : isB (mBody m) := by
  unfold mBody
  refine isB_app (isB_app ?_ ?_) (bytesOf_isB' _)
  · split
    · exact isB_be6 _
    · intro x hx; cases hx
  · split
    · exact isB_be6 _
    · intro x hx; cases hx
theorem isB_mB {m : Mg} (h : mgB m = true) : isB (mB m) := by
  have hk := (mgB_facts h).1
  rw [mB_eq h]
  refine isB_app (isB_app (isB_mBe2 _) ?_) (isB_mBe2 _)
  intro x hx
  rcases List.mem_cons.1 hx with e | e
  · omega
  · exact isB_mBody m x e
theorem getB_mB {m : Mg} (h : mgB m = true) (rest : List Int) : getB (mB m ++ rest) = ((m.k, mBody m), (mB m).length, 0) := by
  have h1 := (mgB_facts h).2.1
  have h2 := mBody_len m
  have h3 := sh_bound m.k
  have h5 := mB_size h
  have hs := sumOf_b (m.k :: mBody m)
  have hl : (mB m).length = (mBody m).length + 5 := by omega
  have e0 : mB m ++ rest = (((mBody m).length + 1 : Nat) : Int) / 256 % 256 :: (((mBody m).length + 1 : Nat) : Int) % 256 :: ((m.k :: mBody m) ++ (sumOf (m.k :: mBody m) / 256 % 256 :: sumOf (m.k :: mBody m) % 256 :: rest)) := by
    rw [mB_eq h]
    simp [be2]
  obtain ⟨s, hs0⟩ : ∃ s, s = sumOf (m.k :: mBody m) := ⟨_, rfl⟩
  rw [← hs0] at e0 hs
  obtain ⟨n, hn⟩ : ∃ n, n = (mBody m).length := ⟨_, rfl⟩
  rw [← hn] at e0 h2 hl
  have hn2 : n ≤ 2048 := by omega
  have hlen : (mB m ++ rest).length = n + 5 + rest.length := by rw [List.length_append, hl]
  have g0 : (mB m ++ rest).getD 0 0 = ((n + 1 : Nat) : Int) / 256 % 256 := by rw [e0]; rfl
  have g1 : (mB m ++ rest).getD 1 0 = ((n + 1 : Nat) : Int) % 256 := by rw [e0]; rfl
  have gn : ((mB m ++ rest).getD 0 0 * 256 + (mB m ++ rest).getD 1 0).toNat = n + 1 := by rw [g0, g1]; omega
  have tk : (mB m ++ rest).take (n + 1 + 2) = ((n + 1 : Nat) : Int) / 256 % 256 :: ((n + 1 : Nat) : Int) % 256 :: m.k :: mBody m := by
    rw [e0, show n + 1 + 2 = (n + 1) + 2 from rfl]
    simp only [List.take_succ_cons]
    rw [List.take_append_of_le_length (by simp [← hn]), List.take_of_length_le (by simp [← hn])]
  have dn : ∀ j, (mB m ++ rest).getD (n + 1 + 2 + j) 0 = (s / 256 % 256 :: s % 256 :: rest).getD j 0 := fun j => by
    rw [e0, List.getD_eq_getElem?_getD, List.getD_eq_getElem?_getD]
    congr 1
    rw [show n + 1 + 2 + j = (n + 1 + j) + 2 by omega]
    simp only [List.getElem?_cons_succ]
    rw [List.getElem?_append_right (by simp [← hn])]
    congr 1
    simp [← hn]
  have d0 := dn 0
  have d1 := dn 1
  unfold getB
  rw [if_neg (by omega), gn]
  simp only
  rw [if_neg (by omega), if_neg (by omega), tk, show n + 1 + 3 = n + 1 + 2 + 1 from rfl, d1, show (mB m ++ rest).getD (n + 1 + 2) 0 = s / 256 % 256 from d0]
  have e2 : sumOf ([((n + 1 : Nat) : Int) / 256 % 256, ((n + 1 : Nat) : Int) % 256, m.k].append (mBody m) |>.drop 2) = s := by rw [hs0]; rfl
  have e3 : (s / 256 % 256 :: s % 256 :: rest).getD 1 0 = s % 256 := rfl
  have g2 : (mB m ++ rest).getD 2 0 = m.k := by rw [e0]; rfl
  rw [e3, if_pos (by rw [show (List.drop 2 ((((n + 1 : Nat) : Int) / 256 % 256) :: (((n + 1 : Nat) : Int) % 256) :: m.k :: mBody m)) = m.k :: mBody m from rfl, ← hs0]; omega), g2, hl]
  rfl
theorem mOf_mB {m : Mg} (h : mgB m = true) : mOf (m.k, mBody m) = (m, true) := by
  have hf := mgB_facts h
  have h2 := mBody_len m
  have hsn := shN_b m.k
  have ho : shO m.k = true := by unfold shO; simp; omega
  have hb := str_bytes m.t
  obtain ⟨k, a, b, t⟩ := m
  simp only at *
  unfold mOf
  simp only
  rw [if_neg (by rw [ho]; simp; omega)]
  have hk : shN k = 0 ∨ shN k = 1 ∨ shN k = 2 := by omega
  have ra := be6_rd a hf.2.2.1.1 hf.2.2.1.2
  have rb := be6_rd b hf.2.2.2.1.1 hf.2.2.2.1.2
  have key : (⟨k, if 0 < shN k then rdN ((mBody ⟨k, a, b, t⟩).take 6) else 0, if 1 < shN k then rdN (((mBody ⟨k, a, b, t⟩).take 12).drop 6) else 0, strOfNums ((mBody ⟨k, a, b, t⟩).drop (6 * shN k).toNat)⟩ : Mg) = ⟨k, a, b, t⟩ := by
    unfold mBody
    simp only
    rcases hk with e | e | e
    · rw [e]
      have ha : a = 0 := by omega
      have hb0 : b = 0 := by omega
      subst ha hb0
      simp [hb]
    · rw [e]
      have hb0 : b = 0 := by omega
      subst hb0
      have t6 : (be6 a ++ bytesOf t).take 6 = be6 a := List.take_left' (be6_len a)
      have d6 : (be6 a ++ bytesOf t).drop 6 = bytesOf t := List.drop_left' (be6_len a)
      simp [t6, d6, ra, hb]
    · rw [e]
      have t6 : (be6 a ++ (be6 b ++ bytesOf t)).take 6 = be6 a := List.take_left' (be6_len a)
      have t12 : ((be6 a ++ (be6 b ++ bytesOf t)).take 12).drop 6 = be6 b := by
        rw [← List.append_assoc, List.take_left' (by simp [be6_len]), List.drop_left' (be6_len a)]
      have d12 : (be6 a ++ (be6 b ++ bytesOf t)).drop 12 = bytesOf t := by
        rw [← List.append_assoc, List.drop_left' (by simp [be6_len])]
      simp [t6, t12, d12, ra, rb, hb]
  rw [key, if_pos h]
theorem feed_mB {m : Mg} (h : mgB m = true) : feedPush [] 0 (mB m) = ([(m.k, mBody m)], [], 0) := by
  have h5 := mB_size h
  have hsn := shN_b m.k
  unfold feedPush
  rw [if_pos rfl, List.nil_append]
  obtain ⟨n, hn⟩ : ∃ n, (mB m).length = n + 1 := ⟨(mB m).length - 1, by omega⟩
  have g := getB_mB h []
  rw [List.append_nil] at g
  rw [hn]
  unfold feedGo
  simp only [g]
  rw [if_pos trivial, List.drop_length]
  rfl
end Go.Proofs.YtfkamoiamebngaaGreatDoor.Mod

/- Calm brokers: everything fits, no output. Plain. -/
namespace Go.Proofs.YtfkamoiamebngaaGreatDoor.Mod
open Go.RowKit Go.Proofs.YtfkamoiamebngaaGreatDoorW.PrintWords Go.Proofs.YtfkamoiamebngaaGreatDoor.ScrP Go.Proofs.YtfkamoiamebngaaGreatDoor.LexP Go.Proofs.YtfkamoiamebngaaGreatDoor.BroW
set_option linter.unusedVariables false

theorem St.cnExt {S T : St} (h : T = { S with cn := T.cn }) (hc : ∀ i, T.cn i = S.cn i) : T = S := by
  have : T.cn = S.cn := funext hc
  rw [h, this]
/-- who is open is sent a message -/
def putO (m : Mg) (c : Cn) : Cn := if c.st = 1 then { c with out := c.out ++ mB m } else c
def tellF (S : St) (m : Mg) : St := { S with cn := fun i => (S.cn i).map (putO m) }
/-- it fits into every open connection's queue -/
def Fits (S : St) (m : Mg) : Prop := ∀ i c, S.cn i = some c → c.st = 1 → ((mB m).length + c.out.length : Int) ≤ S.cf.a2
theorem sendW_fit {lv : St → Int → St} {S : St} {i : Int} {c : Cn} {m : Mg} (hc : S.cn i = some c) (h2 : c.st ≠ 2) (hf : ((mB m).length + c.out.length : Int) ≤ S.cf.a2) :
    sendW lv S i m = S.setc i (some { c with out := c.out ++ mB m }) := by
  unfold sendW
  rw [hc]
  simp only
  rw [if_neg h2, if_pos hf]
theorem send_fit {S : St} {i : Int} {c : Cn} {m : Mg} (hc : S.cn i = some c) (h2 : c.st ≠ 2) (hf : ((mB m).length + c.out.length : Int) ≤ S.cf.a2) :
    send S i m = S.setc i (some { c with out := c.out ++ mB m }) := sendW_fit hc h2 hf
theorem tell_fit {S : St} {m : Mg} (hw : ∀ i c, S.cn i = some c → 1 ≤ i ∧ i ≤ 16) (hf : Fits S m) : tell S m = tellF S m := by
  have key : ∀ (l d : List Int), (d ++ l).Nodup → l.foldl (tellOne leave m) { S with cn := fun i => if i ∈ d then (S.cn i).map (putO m) else S.cn i } = { S with cn := fun i => if i ∈ d ++ l then (S.cn i).map (putO m) else S.cn i } := by
    intro l
    induction l with
    | nil => intro d _; simp
    | cons a l ih =>
      intro d hd
      have ha : a ∉ d := by
        have := (List.nodup_append.1 hd).2.2
        exact fun h => (this a h a (by simp)) rfl
      have h1 : tellOne leave m { S with cn := fun i => if i ∈ d then (S.cn i).map (putO m) else S.cn i } a = { S with cn := fun i => if i ∈ d ++ [a] then (S.cn i).map (putO m) else S.cn i } := by
        have hcn : ({ S with cn := fun i => if i ∈ d then (S.cn i).map (putO m) else S.cn i } : St).cn a = S.cn a := if_neg ha
        unfold tellOne
        cases hc : S.cn a with
        | none =>
          have ho : isOpen { S with cn := fun i => if i ∈ d then (S.cn i).map (putO m) else S.cn i } a = false := by unfold isOpen; rw [hcn, hc]
          rw [if_neg (by rw [ho]; decide)]
          congr 1
          funext i
          by_cases e : i = a
          · subst e; simp [hc]
          · simp [e]
        | some c =>
          by_cases hs : c.st = 1
          · have ho : isOpen { S with cn := fun i => if i ∈ d then (S.cn i).map (putO m) else S.cn i } a = true := by unfold isOpen; rw [hcn, hc]; simp [hs]
            rw [if_pos ho, sendW_fit (c := c) (hcn.trans hc) (by rw [hs]; decide) (hf a c hc hs)]
            unfold St.setc
            simp only
            congr 1
            funext i
            by_cases e : i = a
            · subst e
              have hp : putO m c = { c with out := c.out ++ mB m } := if_pos hs
              simp [hc, hp]
            · simp [e]
          · have ho : isOpen { S with cn := fun i => if i ∈ d then (S.cn i).map (putO m) else S.cn i } a = false := by unfold isOpen; rw [hcn, hc]; simp [hs]
            rw [if_neg (by rw [ho]; decide)]
            congr 1
            funext i
            by_cases e : i = a
            · subst e
              have hp : putO m c = c := if_neg hs
              simp [hc, hp]
            · simp [e]
      show l.foldl (tellOne leave m) (tellOne leave m _ a) = _
      rw [h1, ih (d ++ [a]) (by simpa using hd)]
      simp
  have h0 := key ids16 [] (by decide)
  simp only [List.not_mem_nil, if_false, List.nil_append] at h0
  show ids16.foldl (tellOne leave m) S = _
  refine h0.trans ?_
  unfold tellF
  congr 1
  funext i
  by_cases e : i ∈ ids16
  · rw [if_pos e]
  · rw [if_neg e]
    cases hc : S.cn i with
    | none => rfl
    | some c =>
      have := hw i c hc
      exact absurd (by unfold ids16; simp; omega) e
theorem turned_same {S : St} (h : S.tb.holder = S.told) : turned S = S := turnF_stop 17 h
def floorM (h : Int) : Mg := ⟨9, h, 0, strL []⟩
theorem turned_tell {S : St} (h : S.tb.holder ≠ S.told) (hw : ∀ i c, S.cn i = some c → 1 ≤ i ∧ i ≤ 16) (hf : Fits S (floorM S.tb.holder)) : turned S = tellF { S with told := S.tb.holder } (floorM S.tb.holder) := by
  show turnF (17 + 1) S = _
  rw [turnF_go 17 h]
  have e : turnS S = tellF { S with told := S.tb.holder } (floorM S.tb.holder) := tell_fit (S := { S with told := S.tb.holder }) hw hf
  rw [e]
  exact turnF_stop 16 rfl
theorem next_nil (k n room most str : Int) : ((⟨0, k⟩ : Vw).next [] n room most str).2.2 = false := by
  simp [Vw.next, rbaseM]
/-- nobody has anything to be shown -/
def Shown (S : St) : Prop := ∀ i c, S.cn i = some c → c.st = 1 → ∃ k, c.vw = some ⟨0, k⟩
theorem pump_calm {S : St} (hl : S.log = []) (hv : Shown S) : pump S = S := by
  have h1 : ∀ i, pumpOne S i = S := fun i => by
    unfold pumpOne
    split
    · rename_i ho
      obtain ⟨c, hc, hs⟩ := isOpen_some ho
      obtain ⟨k, hk⟩ := hv i c hc hs
      show pumpC (S.log.length + 2 + 1) S i = S
      unfold pumpC
      rw [hc]
      simp only
      rw [hk]
      simp only
      rw [if_pos hs, hl]
      have hn := next_nil k S.cf.a0 (S.cf.a2 - c.out.length - 200) S.cf.a1 S.strikes
      rw [if_neg (by rw [hn]; decide)]
    · rfl
  have key : ∀ l : List Int, l.foldl pumpOne S = S := by
    intro l
    induction l with
    | nil => rfl
    | cons a l ih => show l.foldl pumpOne (pumpOne S a) = S; rw [h1 a, ih]
  exact key ids16
theorem sweep_calm {S : St} (h : ∀ i c, S.cn i = some c → c.st ≠ 2) : sweep S = S := by
  refine St.cnExt rfl (fun i => ?_)
  show (match S.cn i with
    | some c => if c.st = 2 ∧ c.out = [] then none else some c
    | none => none) = S.cn i
  cases hc : S.cn i with
  | none => rfl
  | some c => exact if_neg (fun k => h i c hc k.1)
theorem settle_calm {S : St} (ht : S.tb.holder = S.told) (hl : S.log = []) (hv : Shown S) (h : ∀ i c, S.cn i = some c → c.st ≠ 2) : settle S = S := by
  unfold settle
  rw [turned_same ht, pump_calm hl hv, turned_same ht, sweep_calm h]

/-! ### who is there, and calm -/
structure Op (B : Nat) (d : Cn) : Prop where
  st : d.st = 1
  fb : d.fb = []
  fe : d.fe = 0
  lx : d.lx.st = 0
  out : d.out.length ≤ B
  vw : ∃ k, d.vw = some ⟨0, k⟩
theorem Op.mono {B B' : Nat} {d : Cn} (h : Op B d) (hb : B ≤ B') : Op B' d := ⟨h.st, h.fb, h.fe, h.lx, Nat.le_trans h.out hb, h.vw⟩
/-- these are there with these roles, what waits for each is no more than so much; nothing was written -/
structure Inv (c : Cf) (rl : Int → Option Int) (B : Nat) (S : St) : Prop where
  cf : S.cf = c
  log : S.log = []
  inE : S.inE = false
  ended : S.ended = false
  told : S.tb.holder = S.told
  roles : S.tb.roles = rl
  cn : ∀ i, (rl i).isSome = true → ∃ d, S.cn i = some d ∧ Op B d
  no : ∀ i, (rl i).isSome = false → S.cn i = none
  ids : ∀ i, (rl i).isSome = true → 1 ≤ i ∧ i ≤ 16
section
variable {c : Cf} {rl : Int → Option Int} {B : Nat} {S : St}
theorem Inv.some (h : Inv c rl B S) {i : Int} {d : Cn} (hd : S.cn i = some d) : (rl i).isSome = true ∧ Op B d := by
  cases hr : (rl i).isSome with
  | false => rw [h.no i hr] at hd; cases hd
  | true =>
    obtain ⟨d', h1, h2⟩ := h.cn i hr
    rw [hd] at h1
    cases h1
    exact ⟨rfl, h2⟩
theorem Inv.mono {B' : Nat} (h : Inv c rl B S) (hb : B ≤ B') : Inv c rl B' S :=
  ⟨h.cf, h.log, h.inE, h.ended, h.told, h.roles, fun i hi => by obtain ⟨d, h1, h2⟩ := h.cn i hi; exact ⟨d, h1, h2.mono hb⟩, h.no, h.ids⟩
theorem Inv.w (h : Inv c rl B S) : ∀ i d, S.cn i = Option.some d → 1 ≤ i ∧ i ≤ 16 := fun i d hd => h.ids i (h.some hd).1
theorem Inv.shown (h : Inv c rl B S) : Shown S := fun i d hd _ => (h.some hd).2.vw
theorem Inv.open (h : Inv c rl B S) : ∀ i d, S.cn i = Option.some d → d.st ≠ 2 := fun i d hd => by rw [(h.some hd).2.st]; decide
theorem Inv.settle (h : Inv c rl B S) : Mod.settle S = S := settle_calm h.told h.log h.shown h.open
theorem Inv.turned (h : Inv c rl B S) : Mod.turned S = S := turned_same h.told
/-- one connection turned -/
theorem Inv.setc {B' : Nat} (h : Inv c rl B S) {i : Int} (hi : (rl i).isSome = true) {d : Cn} (hd : Op B' d) (hb : B ≤ B') : Inv c rl B' (S.setc i (Option.some d)) := by
  refine ⟨h.cf, h.log, h.inE, h.ended, h.told, h.roles, fun j hj => ?_, fun j hj => ?_, h.ids⟩
  · by_cases e : j = i
    · exact ⟨d, by simp [St.setc, e], hd⟩
    · obtain ⟨d', h1, h2⟩ := h.cn j hj
      exact ⟨d', by simp [St.setc, e, h1], h2.mono hb⟩
  · have : j ≠ i := fun e => by rw [e, hi] at hj; cases hj
    simp [St.setc, this, h.no j hj]
theorem Inv.inp (h : Inv c rl B S) (l : List Int) : Inv c rl B { S with inp := l } := ⟨h.cf, h.log, h.inE, h.ended, h.told, h.roles, h.cn, h.no, h.ids⟩
theorem Inv.fits (h : Inv c rl B S) {m : Mg} (hm : ((mB m).length + B : Int) ≤ c.a2) : Fits S m := fun i d hd _ => by
  have := (h.some hd).2.out
  rw [h.cf]
  omega
theorem Op.put {m : Mg} {d : Cn} (h : Op B d) : Op (B + (mB m).length) (putO m d) := by
  have e : putO m d = { d with out := d.out ++ mB m } := if_pos h.st
  rw [e]
  exact ⟨h.st, h.fb, h.fe, h.lx, by show (d.out ++ mB m).length ≤ _; rw [List.length_append]; have := h.out; omega, h.vw⟩
/-- the floor may turn: then everybody is told -/
theorem Inv.turn (h : Inv c rl B S) {t : Tb} (hr : t.roles = rl) (hb : (11 + B : Int) ≤ c.a2) :
    Inv c rl (B + 11) (Mod.turned { S with tb := t }) ∧ (Mod.turned { S with tb := t }).inp = S.inp := by
  by_cases e : t.holder = S.told
  · rw [turned_same (S := { S with tb := t }) e]
    exact ⟨⟨h.cf, h.log, h.inE, h.ended, e, hr, fun i hi => by obtain ⟨d, h1, h2⟩ := h.cn i hi; exact ⟨d, h1, h2.mono (by omega)⟩, h.no, h.ids⟩, rfl⟩
  · have hm : ((mB (floorM t.holder)).length : Int) ≤ 11 := by
      have h1 := mB_le (floorM t.holder)
      have h2 : shN (floorM t.holder).k = 1 := rfl
      have h3 : (floorM t.holder).t.size = 0 := rfl
      rw [h2, h3] at h1
      omega
    rw [turned_tell (S := { S with tb := t }) e h.w (fun i d hd hs => by have := h.fits (m := floorM t.holder) (by omega) i d hd hs; exact this)]
    refine ⟨⟨h.cf, h.log, h.inE, h.ended, rfl, hr, fun i hi => ?_, fun i hi => ?_, h.ids⟩, rfl⟩
    · obtain ⟨d, h1, h2⟩ := h.cn i hi
      refine ⟨putO (floorM t.holder) d, ?_, ?_⟩
      · show (S.cn i).map _ = _
        rw [h1]; rfl
      · have h3 := h2.put (m := floorM t.holder)
        exact h3.mono (by omega)
    · show (S.cn i).map _ = _
      rw [h.no i hi]; rfl
end
end Go.Proofs.YtfkamoiamebngaaGreatDoor.Mod

/- Calm brokers: what each event leaves. Plain. -/
namespace Go.Proofs.YtfkamoiamebngaaGreatDoor.Mod
open Go.RowKit Go.Proofs.YtfkamoiamebngaaGreatDoorW.PrintWords Go.Proofs.YtfkamoiamebngaaGreatDoor.ScrP Go.Proofs.YtfkamoiamebngaaGreatDoor.LexP Go.Proofs.YtfkamoiamebngaaGreatDoor.BroW
set_option linter.unusedVariables false

theorem note_le (l : List UInt8) : ((mB (note l)).length : Int) ≤ 5 + l.length := by
  have h1 := mB_le (note l)
  have h2 : shN (note l).k = 0 := rfl
  have h3 : (note l).t.size = l.length := rfl
  rw [h2, h3] at h1
  omega
theorem dig_len (n : Int) : (dig n).length ≤ 2 := by unfold dig; split <;> simp
theorem wordR_len (r : Int) : (wordR r).length ≤ 8 := by unfold wordR; split <;> (try split) <;> simp
/-- one frame of an open connection that is calm -/
theorem bytes_one {S : St} {i : Int} {d : Cn} {m : Mg} (hd : S.cn i = some d) (h2 : d.st ≠ 2) (hb : d.fb = []) (he : d.fe = 0) (hg : mgB m = true)
    {S1 : St} (h1 : turned (messageM (S.setc i (some { d with idle := 0, fb := [], fe := 0 })) i (m.k, mBody m)) = S1) : bytesM S i (mB m) = (settle S1, 0) := by
  have hne : mB m ≠ [] := fun h => by have := mB_size hg; have := shN_b m.k; rw [h] at *; simp at *; omega
  unfold bytesM
  rw [hd]
  simp only
  rw [if_neg h2, hb, he, feed_mB hg]
  simp only
  rw [if_neg hne]
  have h3 : framesM [(m.k, mBody m)] (S.setc i (some { d with idle := 0, fb := [], fe := 0 })) i = S1 := by
    show (if (S.setc i (some { d with idle := 0, fb := [], fe := 0 })).stOf i = 2 then S.setc i (some { d with idle := 0, fb := [], fe := 0 }) else turned (messageM (S.setc i (some { d with idle := 0, fb := [], fe := 0 })) i (m.k, mBody m))) = S1
    have hs : (S.setc i (some { d with idle := 0, fb := [], fe := 0 })).stOf i = d.st := by simp [St.stOf, St.setc]
    rw [hs, if_neg h2, h1]
  rw [h3]
  simp
theorem startM_nil (n back : Int) (l : Bool) : startM [] n back l = 0 := by
  have h1 := startM_le [] n back l
  simpa using h1
theorem setc_setc (S : St) (i : Int) (a b : Option Cn) : (S.setc i a).setc i b = S.setc i b := by
  refine St.cnExt rfl (fun j => ?_)
  show (if j = i then b else if j = i then a else S.cn j) = (if j = i then b else S.cn j)
  by_cases e : j = i
  · rw [if_pos e, if_pos e]
  · rw [if_neg e, if_neg e, if_neg e]
theorem setc_at (S : St) (i : Int) (a : Option Cn) : (S.setc i a).cn i = a := if_pos rfl
theorem setc_ne (S : St) {i j : Int} (a : Option Cn) (h : j ≠ i) : (S.setc i a).cn j = S.cn j := if_neg h
def addR (rl : Int → Option Int) (i r : Int) : Int → Option Int := fun j => if j = i then some r else rl j
def helloG (wr : Bool) : Mg := ⟨1, if wr then 5 else 4, 0, ⟨#[117]⟩⟩
/-- one comes: both events -/
theorem calm_comes {c : Cf} {rl : Int → Option Int} {B : Nat} {S : St} (h : Inv c rl B S) {i r : Int} (hi : rl i = none) (h1 : 1 ≤ i ∧ i ≤ 16) (wr : Bool) (hB : (B + 100 : Int) ≤ c.a2)
    (hr : roleFor S wr = r) (hr0 : 0 ≤ r ∧ r ≤ 2) : connectM S i = (S.setc i (some cnNew), 0) ∧ (bytesM (S.setc i (some cnNew)) i (mB (helloG wr))).2 = 0 ∧ Inv c (addR rl i r) (B + 40) (bytesM (S.setc i (some cnNew)) i (mB (helloG wr))).1 ∧
    (bytesM (S.setc i (some cnNew)) i (mB (helloG wr))).1.tb = S.tb.join i r ∧ (bytesM (S.setc i (some cnNew)) i (mB (helloG wr))).1.inp = S.inp := by
  have hnone : S.cn i = none := h.no i (by rw [hi]; rfl)
  refine ⟨?_, ?_⟩
  · unfold connectM
    rw [if_neg (by omega), if_neg (by rw [hnone]; decide)]
  have hg : mgB (helloG wr) = true := by cases wr <;> decide
  obtain ⟨nt, hnt⟩ : ∃ nt, nt = note ([106, 111, 105, 110, 101, 100, 32] ++ dig i ++ [32] ++ [117]) := ⟨_, rfl⟩
  have hntl : ((mB nt).length : Int) ≤ 16 := by
    have h3 := note_le ([106, 111, 105, 110, 101, 100, 32] ++ dig i ++ [32] ++ [117])
    have h4 := dig_len i
    rw [← hnt] at h3
    simp only [List.length_append, List.length_cons, List.length_nil] at h3
    omega
  have ha : (helloG wr).a / 4 = 1 ∧ decide ((helloG wr).a % 2 = 1) = wr := by cases wr <;> decide
  -- behind the note
  obtain ⟨S3, hS3⟩ : ∃ S3, S3 = tellF (S.setc i (some cnNew)) nt := ⟨_, rfl⟩
  have hcn3 : ∀ j, S3.cn j = if j = i then some cnNew else (S.cn j).map (putO nt) := fun j => by
    rw [hS3]
    show ((S.setc i (some cnNew)).cn j).map (putO nt) = _
    by_cases e : j = i
    · rw [e, setc_at, if_pos rfl]; rfl
    · rw [setc_ne _ _ e, if_neg e]
  have htell : tell (S.setc i (some cnNew)) nt = S3 := by
    rw [hS3]
    refine tell_fit (fun j d hd => ?_) (fun j d hd hs => ?_)
    · by_cases e : j = i
      · rw [e]; exact h1
      · rw [setc_ne _ _ e] at hd; exact h.w j d hd
    · by_cases e : j = i
      · rw [e, setc_at] at hd
        cases hd
        exact absurd hs (by decide)
      · rw [setc_ne _ _ e] at hd
        have := (h.some hd).2.out
        show _ ≤ S.cf.a2
        rw [h.cf]
        omega
  -- the new one
  obtain ⟨d1, hd1⟩ : ∃ d1 : Cn, d1 = { cnNew with st := 1, name := ⟨#[117]⟩, vw := some ⟨0, 0⟩ } := ⟨_, rfl⟩
  obtain ⟨wm, hwm⟩ : ∃ m : Mg, m = ⟨5, i, 0, strL (wordR r)⟩ := ⟨_, rfl⟩
  obtain ⟨fm, hfm⟩ : ∃ m : Mg, m = ⟨9, S.told, 0, strL []⟩ := ⟨_, rfl⟩
  have hwl : ((mB wm).length : Int) ≤ 25 := by
    have h3 := mB_le wm
    have h4 : shN wm.k = 2 := by rw [hwm]; rfl
    have h5 : wm.t.size = (wordR r).length := by rw [hwm]; rfl
    have h6 := wordR_len r
    rw [h4, h5] at h3
    omega
  have hfl : ((mB fm).length : Int) ≤ 11 := by
    have h3 := mB_le fm
    have h4 : shN fm.k = 1 := by rw [hfm]; rfl
    have h5 : fm.t.size = 0 := by rw [hfm]; rfl
    rw [h4, h5] at h3
    omega
  obtain ⟨S5, hS5⟩ : ∃ S5 : St, S5 = { (S3.setc i (some { d1 with out := mB wm ++ mB fm })) with tb := S.tb.join i r } := ⟨_, rfl⟩
  have f1 : S3.log = [] := by rw [hS3]; exact h.log
  have f2 : S3.cf = c := by rw [hS3]; exact h.cf
  have f3 : S3.tb = S.tb := by rw [hS3]; rfl
  have f4 : S3.told = S.told := by rw [hS3]; rfl
  have f5 : S3.ended = false := by rw [hS3]; exact h.ended
  have f6 : S3.inE = false := by rw [hS3]; exact h.inE
  have f7 : S3.inp = S.inp := by rw [hS3]; rfl
  have hhello : helloM (S.setc i (some cnNew)) i (helloG wr) = S5 := by
    unfold helloM
    rw [if_pos (show (helloG wr).k = 1 from rfl), if_pos ha.1, if_pos (show namedL (helloG wr).t.data.toList = true from rfl)]
    simp only
    rw [show (helloG wr).t.data.toList = [117] from rfl, ← hnt, htell, hcn3, if_pos rfl]
    simp only
    rw [f1, startM_nil]
    rw [show ({ cnNew with st := 1, name := (helloG wr).t, vw := some ⟨0, 0⟩ } : Cn) = d1 from hd1.symm]
    have e1 : roleFor (S3.setc i (some d1)) (decide ((helloG wr).a % 2 = 1)) = r := by
      rw [ha.2, ← hr]
      unfold roleFor
      rw [show (S3.setc i (some d1)).tb = S.tb from f3]
    rw [e1, show (S3.setc i (some d1)).tb = S.tb from f3]
    have e2 : send { (S3.setc i (some d1)) with tb := S.tb.join i r } i ⟨5, i, ((0 : Nat) : Int), strL (wordR r)⟩ = { (S3.setc i (some { d1 with out := mB wm })) with tb := S.tb.join i r } := by
      have := send_fit (S := { (S3.setc i (some d1)) with tb := S.tb.join i r }) (i := i) (c := d1) (m := wm) (setc_at S3 i _) (by rw [hd1]; decide) (by show _ ≤ S3.cf.a2; rw [f2, hd1]; show ((mB wm).length + (0 : Nat) : Int) ≤ _; omega)
      rw [show (⟨5, i, ((0 : Nat) : Int), strL (wordR r)⟩ : Mg) = wm from hwm.symm, this]
      refine St.cnExt rfl (fun j => ?_)
      show (if j = i then _ else if j = i then _ else S3.cn j) = (if j = i then _ else S3.cn j)
      by_cases e : j = i
      · rw [if_pos e, if_pos e, hd1]; rfl
      · rw [if_neg e, if_neg e, if_neg e]
    rw [e2]
    have e3 : send { (S3.setc i (some { d1 with out := mB wm })) with tb := S.tb.join i r } i ⟨9, ({ (S3.setc i (some { d1 with out := mB wm })) with tb := S.tb.join i r } : St).told, 0, strL []⟩ = S5 := by
      have hq : (({ (S3.setc i (some { d1 with out := mB wm })) with tb := S.tb.join i r } : St)).told = S.told := f4
      rw [hq, ← hfm]
      have := send_fit (S := { (S3.setc i (some { d1 with out := mB wm })) with tb := S.tb.join i r }) (i := i) (c := { d1 with out := mB wm }) (m := fm) (setc_at S3 i _) (by rw [hd1]; show (1 : Int) ≠ 2; decide) (by show ((mB fm).length + (mB wm).length : Int) ≤ S3.cf.a2; rw [f2]; omega)
      rw [this, hS5]
      refine St.cnExt rfl (fun j => ?_)
      show (if j = i then _ else if j = i then _ else S3.cn j) = (if j = i then _ else S3.cn j)
      by_cases e : j = i
      · rw [if_pos e, if_pos e, hd1]
      · rw [if_neg e, if_neg e, if_neg e]
    rw [e3]
    rw [if_neg (by rw [hS5]; show ¬ S3.ended = true; rw [f5]; decide)]
  have hinv : Inv c (addR rl i r) (B + 40) S5 := by
    have hjr : S.tb.join i r = S.tb.setR i (some r) := by
      unfold Tb.join
      rw [if_neg]
      rw [h.roles, hi]
      simp
      omega
    refine ⟨by rw [hS5]; exact f2, by rw [hS5]; exact f1, by rw [hS5]; exact f6, by rw [hS5]; exact f5, ?_, ?_, fun j hj => ?_, fun j hj => ?_, fun j hj => ?_⟩
    · rw [hS5]
      show (S.tb.join i r).holder = S3.told
      rw [f4, hjr]
      exact h.told
    · rw [hS5]
      show (S.tb.join i r).roles = _
      rw [hjr]
      show (fun j => if j = i then some r else S.tb.roles j) = _
      rw [h.roles]
      rfl
    · rw [hS5]
      show ∃ d, (if j = i then _ else S3.cn j) = some d ∧ _
      by_cases e : j = i
      · rw [if_pos e]
        refine ⟨_, rfl, ?_⟩
        rw [hd1]
        refine ⟨rfl, rfl, rfl, rfl, ?_, ⟨0, rfl⟩⟩
        show (mB wm ++ mB fm).length ≤ _
        rw [List.length_append]
        omega
      · rw [if_neg e, hcn3, if_neg e]
        unfold addR at hj
        rw [if_neg e] at hj
        obtain ⟨d, k1, k2⟩ := h.cn j hj
        refine ⟨putO nt d, by rw [k1]; rfl, (k2.put (m := nt)).mono (by omega)⟩
    · rw [hS5]
      show (if j = i then _ else S3.cn j) = none
      unfold addR at hj
      by_cases e : j = i
      · rw [if_pos e] at hj; cases hj
      · rw [if_neg e] at hj
        rw [if_neg e, hcn3, if_neg e, h.no j hj]; rfl
    · unfold addR at hj
      by_cases e : j = i
      · rw [e]; exact h1
      · rw [if_neg e] at hj; exact h.ids j hj
  have hmsg : messageM (S.setc i (some cnNew)) i ((helloG wr).k, mBody (helloG wr)) = S5 := by
    unfold messageM
    rw [mOf_mB hg]
    simp only
    rw [if_neg (by decide), if_pos (by simp [St.stOf, St.setc, cnNew])]
    exact hhello
  have hb := bytes_one (S := S.setc i (some cnNew)) (i := i) (d := cnNew) (m := helloG wr) (setc_at _ _ _) (by decide) rfl rfl hg (S1 := S5) (by
    rw [setc_setc]
    show turned (messageM (S.setc i (some cnNew)) i ((helloG wr).k, mBody (helloG wr))) = S5
    rw [hmsg]
    exact hinv.turned)
  rw [hb]
  have hse := hinv.settle
  simp only
  rw [hse]
  exact ⟨trivial, hinv, by rw [hS5], by rw [hS5]; exact f7⟩
end Go.Proofs.YtfkamoiamebngaaGreatDoor.Mod

/- Calm brokers: keystrokes, commands, writing, draining, ticks. Plain. -/
namespace Go.Proofs.YtfkamoiamebngaaGreatDoor.Mod
open Go.RowKit Go.Proofs.YtfkamoiamebngaaGreatDoorW.PrintWords Go.Proofs.YtfkamoiamebngaaGreatDoor.ScrP Go.Proofs.YtfkamoiamebngaaGreatDoor.LexP Go.Proofs.YtfkamoiamebngaaGreatDoor.BroW
set_option linter.unusedVariables false

/-! ### the lexer -/
theorem lex_line (l : List Int) : ∀ T : List Int, T.length + l.length ≤ 80 → (∀ x ∈ l, x ≠ 10) → lexAll ⟨2, T, false⟩ (l ++ [10]) = (⟨0, T ++ l, false⟩, [], [strOfNums (T ++ l)]) := by
  induction l with
  | nil =>
    intro T _ _
    simp [lexAll, lexStep]
  | cons x l ih =>
    intro T hT hl
    simp only [List.length_cons] at hT
    have h1 : lexStep ⟨2, T, false⟩ x = (⟨2, T ++ [x], false⟩, [], []) := by
      have hn : (T.length == 80) = false := by simp; omega
      simp [lexStep, hl x (by simp), hn]
    rw [List.cons_append]
    simp only [lexAll, h1]
    rw [ih (T ++ [x]) (by simp; omega) (fun y hy => hl y (by simp [hy]))]
    simp
theorem lex_cmd (l : List Int) (s : LexS) (h0 : s.st = 0) (h : l.length ≤ 80) (hl : ∀ x ∈ l, x ≠ 10) : lexAll s ([29, 58] ++ l ++ [10]) = (⟨0, l, false⟩, [], [strOfNums l]) := by
  have h1 : lexStep s 29 = (⟨1, s.text, s.long⟩, [], []) := by simp [lexStep, h0]
  have h2 : lexStep ⟨1, s.text, s.long⟩ 58 = (⟨2, [], false⟩, [], []) := by simp [lexStep]
  have h3 := lex_line l [] (by simpa using h) hl
  rw [List.nil_append] at h3
  show lexAll s (29 :: 58 :: (l ++ [10])) = _
  simp only [lexAll, h1, h2, h3]
  simp

/-! ### keystrokes -/
section
variable {c : Cf} {rl : Int → Option Int} {B : Nat} {S : St}

/-! ### commands -/
def denM (s : ByteArray) : Mg := ⟨11, 0, 0, s⟩
/-- a command's bytes are these, then comes what the line does -/
theorem calm_line (h : Inv c rl B S) {i : Int} {d : Cn} (hd : S.cn i = some d) {s t : ByteArray} (ht : bytesOf t = [29, 58] ++ bytesOf s ++ [10]) (hs : s.size ≤ 80) (h10 : ∀ x ∈ bytesOf s, x ≠ 10) {S1 S2 : St}
    (h1 : S1 = S.setc i (some { d with idle := 0, fb := [], fe := 0, lx := ⟨0, bytesOf s, false⟩ })) (h2 : lineM1 S1 i s = S2) (h3 : turned S2 = S2) : bytesM S i (mB ⟨2, 1, 0, t⟩) = (settle S2, 0) := by
  obtain ⟨hr, hop⟩ := h.some hd
  have hsl : (bytesOf s).length = s.size := bytesOf_length s
  have htl : (bytesOf t).length = t.size := bytesOf_length t
  have hts : t.size = s.size + 3 := by rw [← htl, ht]; simp [hsl]
  have hg : mgB ⟨2, 1, 0, t⟩ = true := by
    unfold mgB
    simp [shO, shN, shT]
    omega
  obtain ⟨d0, hd0⟩ : ∃ d0 : Cn, d0 = { d with idle := 0, fb := [], fe := 0 } := ⟨_, rfl⟩
  have op0 : Op B d0 := by rw [hd0]; exact ⟨hop.st, rfl, rfl, hop.lx, hop.out, hop.vw⟩
  have hlx : lexAll d0.lx (bytesOf t) = (⟨0, bytesOf s, false⟩, [], [s]) := by
    rw [ht, lex_cmd _ _ op0.lx (by omega) h10, str_bytes]
  have hcn0 : (S.setc i (some d0)).cn i = some d0 := setc_at _ _ _
  have hmsg : messageM (S.setc i (some d0)) i ((⟨2, 1, 0, t⟩ : Mg).k, mBody ⟨2, 1, 0, t⟩) = S2 := by
    unfold messageM
    rw [mOf_mB hg]
    simp only
    rw [if_neg (by decide), if_neg (by rw [show (S.setc i (some d0)).stOf i = d0.st by simp [St.stOf, hcn0], op0.st]; decide)]
    simp only [if_true]
    unfold keysM
    rw [hcn0]
    simp only
    rw [hlx]
    simp only
    rw [setc_setc, show ({ d0 with lx := ⟨0, bytesOf s, false⟩ } : Cn) = { d with idle := 0, fb := [], fe := 0, lx := ⟨0, bytesOf s, false⟩ } by rw [hd0], ← h1]
    have ho : offerM S1 i [] 1 = S1 := if_pos rfl
    rw [ho]
    show (if S1.stOf i = 1 then linesM [] (lineM1 S1 i s) i else S1) = S2
    rw [if_pos (by rw [h1]; simp [St.stOf, St.setc, hop.st]), h2]
    rfl
  refine bytes_one (S := S) (i := i) (d := d) (m := ⟨2, 1, 0, t⟩) hd (by rw [hop.st]; decide) hop.fb hop.fe hg ?_
  rw [← hd0, hmsg, h3]
/-- a command that is denied -/
theorem calm_denied (h : Inv c rl B S) {i : Int} {d : Cn} (hd : S.cn i = some d) {s t : ByteArray} (ht : bytesOf t = [29, 58] ++ bytesOf s ++ [10]) (hs : s.size ≤ 80) (h10 : ∀ x ∈ bytesOf s, x ≠ 10) (hB : (B + 5 + s.size : Int) ≤ c.a2)
    (hno : ∀ S1 : St, S1.tb = S.tb → (∃ d', S1.cn i = some d' ∧ d'.st = 1) → lineM1 S1 i s = turned (send S1 i (denM s))) :
    (bytesM S i (mB ⟨2, 1, 0, t⟩)).2 = 0 ∧ Inv c rl (B + 5 + s.size) (bytesM S i (mB ⟨2, 1, 0, t⟩)).1 ∧ (bytesM S i (mB ⟨2, 1, 0, t⟩)).1.tb = S.tb ∧ (bytesM S i (mB ⟨2, 1, 0, t⟩)).1.inp = S.inp ∧
    (∃ d', (bytesM S i (mB ⟨2, 1, 0, t⟩)).1.cn i = some d' ∧ d'.out = d.out ++ mB (denM s)) ∧ (∀ j, j ≠ i → (bytesM S i (mB ⟨2, 1, 0, t⟩)).1.cn j = S.cn j) := by
  obtain ⟨hr, hop⟩ := h.some hd
  obtain ⟨d1, hd1⟩ : ∃ d1 : Cn, d1 = { d with idle := 0, fb := [], fe := 0, lx := ⟨0, bytesOf s, false⟩ } := ⟨_, rfl⟩
  have op1 : Op B d1 := by rw [hd1]; exact ⟨hop.st, rfl, rfl, rfl, hop.out, hop.vw⟩
  have hml : ((mB (denM s)).length : Int) ≤ 5 + s.size := by
    have h3 := mB_le (denM s)
    have h4 : shN (denM s).k = 0 := rfl
    have h5 : (denM s).t.size = s.size := rfl
    rw [h4, h5] at h3
    omega
  have i1 := h.setc hr op1 (Nat.le_refl _)
  have hcn1 : (S.setc i (some d1)).cn i = some d1 := setc_at _ _ _
  have hsend : send (S.setc i (some d1)) i (denM s) = S.setc i (some { d1 with out := d1.out ++ mB (denM s) }) := by
    rw [send_fit hcn1 (by rw [op1.st]; decide) (by rw [i1.cf]; have := op1.out; omega), setc_setc]
  have i2 : Inv c rl (B + 5 + s.size) (S.setc i (some { d1 with out := d1.out ++ mB (denM s) })) := h.setc hr ⟨op1.st, op1.fb, op1.fe, op1.lx, by show (d1.out ++ mB (denM s)).length ≤ _; rw [List.length_append]; have := op1.out; omega, op1.vw⟩ (by omega)
  have hl := calm_line h hd ht hs h10 (S1 := S.setc i (some d1)) (S2 := S.setc i (some { d1 with out := d1.out ++ mB (denM s) })) (by rw [hd1]) (by rw [hno (S.setc i (some d1)) rfl ⟨d1, hcn1, op1.st⟩, hsend]; exact i2.turned) i2.turned
  rw [hl, i2.settle]
  refine ⟨rfl, i2, rfl, rfl, ⟨_, setc_at _ _ _, ?_⟩, fun j hj => setc_ne _ _ hj⟩
  rw [hd1]

/-! ### writing, draining, ticks -/
theorem calm_write (h : Inv c rl B S) {i : Int} {d : Cn} (hd : S.cn i = some d) (hB : B ≤ 65536) :
    writeM S i 65536 = (S.setc i (some { d with out := [] }), d.out, 0) ∧ Inv c rl B (S.setc i (some { d with out := [] })) := by
  obtain ⟨hr, hop⟩ := h.some hd
  have hl := hop.out
  have hi : Inv c rl B (S.setc i (some { d with out := [] })) := h.setc hr ⟨hop.st, hop.fb, hop.fe, hop.lx, Nat.zero_le _, hop.vw⟩ (Nat.le_refl _)
  refine ⟨?_, hi⟩
  unfold writeM
  rw [hd]
  simp only
  rw [show (65536 : Int).toNat = 65536 from rfl, List.drop_eq_nil_of_le (by omega), List.take_of_length_le (by omega), hi.settle]
theorem tick_roles (t : Tb) : t.tick.roles = t.roles := by
  unfold Tb.tick
  split
  · rfl
  · split
    · rfl
    · split
      · rfl
      · rw [pass_roles]
end
end Go.Proofs.YtfkamoiamebngaaGreatDoor.Mod

/- kibitzertop: events on calm brokers; WholeDenied, the plain law. -/
namespace Go.Proofs.YtfkamoiamebngaaGreatDoor.BroW
open Go.RowKit Go.Proofs.YtfkamoiamebngaaGreatDoorW.PrintWords Go.Proofs.YtfkamoiamebngaaGreatDoorW.PrintMore Go.Proofs.YtfkamoiamebngaaGreatDoor.Fr Go.Proofs.YtfkamoiamebngaaGreatDoor.ScrW Go.Proofs.YtfkamoiamebngaaGreatDoor.ScrP Go.Proofs.YtfkamoiamebngaaGreatDoor.Mod
set_option linter.unusedVariables false
set_option linter.unusedSimpArgs false

/-! ### events -/
theorem sayE_ok {i : Int} {m : Mg} (h : mgB m = true) (hi : 0 ≤ i ∧ i ≤ 255) : evB (sayE i m) = true := by
  have hl := mB_len m
  have hz : (strOfNums (mB m)).size = (mB m).length := by
    have := bytesOf_length (strOfNums (mB m))
    rw [bytes_str (isB_mB h)] at this
    omega
  unfold evB sayE
  simp [hasI, hasN, hasD, hz]
  omega
theorem step_say {S : St} {i : Int} {m : Mg} (h : mgB m = true) (hi : 0 ≤ i ∧ i ≤ 255) : Mod.step S (sayE i m) = ((bytesM S i (mB m)).1, (bytesM S i (mB m)).2, []) := by
  unfold Mod.step
  rw [if_pos (sayE_ok h hi), if_neg (show ¬ (sayE i m).k = 0 from (by decide : ¬ (1 : Int) = 0)), if_pos (show (sayE i m).k = 1 from rfl)]
  show ((bytesM S i (bytesOf (strOfNums (mB m)))).1, (bytesM S i (bytesOf (strOfNums (mB m)))).2, _) = _
  rw [bytes_str (isB_mB h)]
theorem step_conn {S : St} {i : Int} (hi : 0 ≤ i ∧ i ≤ 255) : Mod.step S (connE i) = ((connectM S i).1, (connectM S i).2, []) := by
  have h : evB (connE i) = true := by
    have hz : (⟨#[]⟩ : ByteArray).size = 0 := rfl
    unfold evB connE
    simp [hasI, hasN, hasD, hz]
    omega
  unfold Mod.step
  rw [if_pos h, if_pos (show (connE i).k = 0 from rfl)]
  rfl
theorem step_all {S : St} {i : Int} (hi : 0 ≤ i ∧ i ≤ 255) : Mod.step S (allE i) = ((writeM S i 65536).1, (writeM S i 65536).2.2, (writeM S i 65536).2.1) := by
  have h : evB (allE i) = true := by
    have hz : (⟨#[]⟩ : ByteArray).size = 0 := rfl
    unfold evB allE
    simp [hasI, hasN, hasD, hz]
    omega
  unfold Mod.step
  rw [if_pos h, if_neg (show ¬ (allE i).k = 0 from (by decide : ¬ (2 : Int) = 0)), if_neg (show ¬ (allE i).k = 1 from (by decide : ¬ (2 : Int) = 1)), if_pos (show (allE i).k = 2 from rfl)]
  rfl
theorem allE_ok {i : Int} (hi : 0 ≤ i ∧ i ≤ 255) : evB (allE i) = true := by
  have hz : (⟨#[]⟩ : ByteArray).size = 0 := rfl
  unfold evB allE
  simp [hasI, hasN, hasD, hz]
  omega
theorem connE_ok {i : Int} (hi : 0 ≤ i ∧ i ≤ 255) : evB (connE i) = true := by
  have hz : (⟨#[]⟩ : ByteArray).size = 0 := rfl
  unfold evB connE
  simp [hasI, hasN, hasD, hz]
  omega
theorem run_app (A B : List Ev) : ∀ S : St, run (A ++ B) S = ((run B (run A S).1).1, (run A S).2 ++ (run B (run A S).1).2) := by
  induction A with
  | nil => intro S; rfl
  | cons e A ih => intro S; simp [run, ih]
theorem msgs_one {m : Mg} (h : mgB m = true) : msgsM (mB m) = ([m], true) := by
  have g := getB_mB h []
  rw [List.append_nil] at g
  have hs := mB_size h
  have hsn := shN_b m.k
  obtain ⟨n, hn⟩ : ∃ n, (mB m).length = n + 1 := ⟨(mB m).length - 1, by omega⟩
  have hne : mB m ≠ [] := fun e => by rw [e] at hn; simp at hn
  unfold msgsM
  unfold msgsGo
  rw [if_neg hne, g]
  simp only [mOf_mB h]
  rw [if_pos (by simp), List.drop_length, hn]
  rfl
theorem cmd_bytes (s : ByteArray) : bytesOf (cmdT s) = [29, 58] ++ bytesOf s ++ [10] := by
  have happ : ∀ a b : ByteArray, bytesOf (a ++ b) = bytesOf a ++ bytesOf b := fun a b => by
    unfold bytesOf
    rw [ByteArray.data_append, Array.toList_append, List.map_append]
  unfold cmdT
  rw [happ, happ]
  rfl
theorem cmdM_ok {s : ByteArray} (h : s.size ≤ 80) : mgB (cmdM s) = true := by
  have hz : (cmdT s).size = s.size + 3 := by
    have h1 := bytesOf_length (cmdT s)
    rw [cmd_bytes] at h1
    simp [bytesOf_length] at h1
    omega
  unfold mgB cmdM
  simp [shO, shN, shT]
  omega
theorem cmdE_ok {i : Int} {s : ByteArray} (h : s.size ≤ 80) (hi : 0 ≤ i ∧ i ≤ 255) : evB (cmdE i s) = true := sayE_ok (cmdM_ok h) hi
theorem helloG_ok (wr : Bool) : mgB (helloG wr) = true := by cases wr <;> decide
theorem comes_ok {i : Int} (wr : Bool) (hi : 0 ≤ i ∧ i ≤ 255) : ∀ e ∈ comesL i wr 0, evB e = true := by
  intro e he
  simp only [comesL, List.mem_cons, List.not_mem_nil, or_false] at he
  rcases he with rfl | rfl
  · exact connE_ok hi
  · exact sayE_ok (helloG_ok wr) hi
/-- one comes to a calm broker -/
theorem ev_comes {c : Cf} {rl : Int → Option Int} {B : Nat} {S : St} (h : Inv c rl B S) {i r : Int} (hi : rl i = none) (h1 : 1 ≤ i ∧ i ≤ 16) (wr : Bool) (hB : (B + 100 : Int) ≤ c.a2)
    (hr : roleFor S wr = r) (hr0 : 0 ≤ r ∧ r ≤ 2) : ∃ S', run (comesL i wr 0) S = (S', [(0, []), (0, [])]) ∧ Inv c (addR rl i r) (B + 40) S' ∧ S'.tb = S.tb.join i r ∧ S'.inp = S.inp := by
  obtain ⟨k1, k2, k3, k4, k5⟩ := calm_comes h hi h1 wr hB hr hr0
  refine ⟨_, ?_, k3, k4, k5⟩
  have e1 : Mod.step S (connE i) = (S.setc i (some cnNew), 0, []) := by rw [step_conn (by omega), k1]
  show ((Mod.step (Mod.step S (connE i)).1 (sayE i (helloG wr))).1, [(Mod.step S (connE i)).2, (Mod.step (Mod.step S (connE i)).1 (sayE i (helloG wr))).2]) = _
  rw [e1]
  simp only
  rw [step_say (helloG_ok wr) (by omega), k2]
/-- all that waits is written -/
theorem ev_all {c : Cf} {rl : Int → Option Int} {B : Nat} {S : St} (h : Inv c rl B S) {i : Int} {d : Cn} (hd : S.cn i = some d) (hi : 0 ≤ i ∧ i ≤ 255) (hB : B ≤ 65536) :
    Mod.step S (allE i) = (S.setc i (some { d with out := [] }), 0, d.out) ∧ Inv c rl B (S.setc i (some { d with out := [] })) := by
  obtain ⟨k1, k2⟩ := calm_write h hd hB
  exact ⟨by rw [step_all hi, k1], k2⟩
theorem roleFor_of {S : St} {rl : Int → Option Int} (h : S.tb.roles = rl) : roleFor S true = if (ids16.filter fun i => (rl i).isSome).any (fun i => (rl i).getD 0 == 2) = true then 1 else 2 := by
  unfold roleFor Tb.users Tb.role
  rw [h]
  simp
theorem inv_new {c : Cf} (hc : cfB c = true) : Inv c (fun _ => none) 0 (stNew c) :=
  ⟨rfl, rfl, rfl, rfl, rfl, rfl, fun i hi => (by cases hi), fun _ _ => rfl, fun i hi => (by cases hi)⟩

/-! ### WholeDenied -/
def ownWords : List (List UInt8) := [[102, 108, 111, 111, 114], [100, 114, 111, 112], [108, 105, 115, 116], [100, 101, 116, 97, 99, 104], [114, 101, 112, 108, 97, 121]]
theorem parse_own {s : ByteArray} (h : ∀ w ∈ ownWords, ¬ w <+: s.data.toList) {k n : Int} (hp : parseO s = some (k, n)) : ownK k = true := by
  have hb := parseO_ord hp
  have hs : ordStr k n = s.data.toList := by
    unfold parseO at hp
    simp only at hp
    split at hp
    · cases hp
    · split at hp
      · cases hp
      · split at hp
        · rename_i he
          simp only [Option.some.injEq, Prod.mk.injEq] at hp
          rw [hp.1, hp.2] at he
          exact he
        · cases hp
  have hk : 1 ≤ k ∧ k ≤ 11 := by
    unfold ordB at hb
    simp at hb
    omega
  unfold ordStr at hs
  rw [if_pos hb] at hs
  have hcs : k = 1 ∨ k = 2 ∨ k = 3 ∨ k = 4 ∨ k = 5 ∨ k = 6 ∨ k = 7 ∨ k = 8 ∨ k = 9 ∨ k = 10 ∨ k = 11 := by omega
  rcases hcs with rfl | rfl | rfl | rfl | rfl | rfl | rfl | rfl | rfl | rfl | rfl
  · exact absurd (by rw [← hs]; exact List.prefix_refl _) (h [102, 108, 111, 111, 114] (by simp [ownWords]))
  · exact absurd (by rw [← hs]; exact List.prefix_refl _) (h [100, 114, 111, 112] (by simp [ownWords]))
  · exact absurd (by rw [← hs]; exact List.prefix_refl _) (h [108, 105, 115, 116] (by simp [ownWords]))
  · exact absurd (by rw [← hs]; exact List.prefix_refl _) (h [100, 101, 116, 97, 99, 104] (by simp [ownWords]))
  · decide
  · decide
  · decide
  · decide
  · decide
  · refine absurd ?_ (h [114, 101, 112, 108, 97, 121] (by simp [ownWords]))
    rw [← hs]
    exact ⟨[32] ++ Lib.itoa n, by rw [← List.append_assoc]; rfl⟩
  · decide
def deniedL (s : ByteArray) : List Ev := (comesL 1 true 0 ++ comesL 2 true 0) ++ [allE 1, allE 2, cmdE 2 s, allE 1, allE 2]
theorem deniedL_len (s : ByteArray) : (deniedL s).length = 9 := rfl
theorem sz_le {L : List Ev} (h : ∀ e ∈ L, evB e = true) : sz L ≤ 4000 * L.length := by
  induction L with
  | nil => simp [sz]
  | cons e L ih =>
    have h1 := (evB_facts (h e (by simp))).2.2.2
    have h2 := ih (fun x hx => h x (by simp [hx]))
    unfold sz at h2 ⊢
    simp only [List.map_cons, List.sum_cons, List.length_cons]
    omega
theorem strOf_size {l : List Int} : (strOfNums l).size = l.length := by
  have : (strOfNums l).size = (strOfNums l).data.size := rfl
  rw [this]
  simp [strOfNums]
theorem denied_ok (s : ByteArray) (hs : s.size ≤ 60) (h10 : ∀ x ∈ bytesOf s, x ≠ 10) (hp : ∀ w ∈ ownWords, ¬ w <+: s.data.toList) :
    (∀ e ∈ deniedL s, evB e = true) ∧ (run (deniedL s) (stNew cfD)).2.length = 9 ∧ outSum (deniedL s) ≤ 8100 ∧ sz (deniedL s) ≤ 100000 ∧
    strOfNums ((run (deniedL s) (stNew cfD)).2.getD 7 (0, [])).2 = ⟨#[]⟩ ∧ (strOfNums ((run (deniedL s) (stNew cfD)).2.getD 8 (0, [])).2).size ≤ 100000 ∧
    msgsM (bytesOf (strOfNums ((run (deniedL s) (stNew cfD)).2.getD 8 (0, [])).2)) = ([denM s], true) ∧ (run (deniedL s) (stNew cfD)).1.tb.holder = 0 ∧ (run (deniedL s) (stNew cfD)).1.tb.users.length = 2 := by
  have hev : ∀ e ∈ deniedL s, evB e = true := by
    intro e he
    unfold deniedL at he
    rcases List.mem_append.1 he with he | he
    · rcases List.mem_append.1 he with he | he
      · exact comes_ok true (by decide) e he
      · exact comes_ok true (by decide) e he
    · simp only [List.mem_cons, List.not_mem_nil, or_false] at he
      rcases he with rfl | rfl | rfl | rfl | rfl
      · exact allE_ok (by decide)
      · exact allE_ok (by decide)
      · exact cmdE_ok (by omega) (by decide)
      · exact allE_ok (by decide)
      · exact allE_ok (by decide)
  have hmg : mgB (denM s) = true := by
    unfold mgB denM
    simp [shO, shN, shT]
    omega
  have i0 := inv_new cfD_right
  obtain ⟨S1, r1, i1, t1, q1⟩ := ev_comes i0 (i := 1) (r := 2) rfl (by decide) true (by decide) (by rw [roleFor_of rfl]; decide) (by decide)
  obtain ⟨S2, r2, i2, t2, q2⟩ := ev_comes i1 (i := 2) (r := 1) rfl (by decide) true (by decide) (by rw [roleFor_of i1.roles]; decide) (by decide)
  obtain ⟨d1, c1, o1⟩ := i2.cn 1 rfl
  obtain ⟨k3, i3⟩ := ev_all i2 c1 (by decide) (by decide)
  obtain ⟨S3, hS3⟩ : ∃ S3, S3 = S2.setc 1 (some { d1 with out := [] }) := ⟨_, rfl⟩
  rw [← hS3] at k3 i3
  obtain ⟨d2, c2, o2⟩ := i3.cn 2 rfl
  obtain ⟨k4, i4⟩ := ev_all i3 c2 (by decide) (by decide)
  obtain ⟨S4, hS4⟩ : ∃ S4, S4 = S3.setc 2 (some { d2 with out := [] }) := ⟨_, rfl⟩
  rw [← hS4] at k4 i4
  have c4 : S4.cn 2 = some { d2 with out := [] } := by rw [hS4]; exact setc_at _ _ _
  have c41 : S4.cn 1 = some { d1 with out := [] } := by rw [hS4, setc_ne _ _ (by decide), hS3]; exact setc_at _ _ _
  have t4 : S4.tb = S2.tb := by rw [hS4, hS3]; rfl
  have hrole : S4.tb.role 2 = 1 := by unfold Tb.role; rw [i4.roles]; rfl
  obtain ⟨k5, i5, t5, q5, ⟨d5, c5, o5⟩, n5⟩ := calm_denied i4 c4 (cmd_bytes s) (by omega) h10 (by show (((40 + 40 : Nat) : Int) + 5 + s.size) ≤ 2048; omega) (fun T ht hd => by
    unfold lineM1
    cases hpo : parseO s with
    | none => rfl
    | some p =>
      obtain ⟨k, n⟩ := p
      simp only
      have hk := parse_own hp hpo
      have : doesM T 2 k n = (T, false) := by
        unfold doesM
        rw [if_pos ⟨hk, by rw [ht, hrole]; decide⟩]
      rw [this]
      rfl)
  obtain ⟨S5, hS5⟩ : ∃ S5, S5 = (bytesM S4 2 (mB ⟨2, 1, 0, cmdT s⟩)).1 := ⟨_, rfl⟩
  have k5' : Mod.step S4 (cmdE 2 s) = (S5, 0, []) := by
    unfold cmdE
    rw [step_say (cmdM_ok (by omega)) (by decide)]
    unfold cmdM
    rw [k5, hS5]
  rw [← hS5] at i5 t5 q5 c5 n5
  have c51 : S5.cn 1 = some { d1 with out := [] } := by rw [n5 1 (by decide)]; exact c41
  obtain ⟨k6, i6⟩ := ev_all i5 c51 (by decide) (by omega)
  obtain ⟨S6, hS6⟩ : ∃ S6, S6 = S5.setc 1 (some { ({ d1 with out := [] } : Cn) with out := [] }) := ⟨_, rfl⟩
  rw [← hS6] at k6 i6
  have c6 : S6.cn 2 = some d5 := by rw [hS6, setc_ne _ _ (by decide)]; exact c5
  obtain ⟨k7, i7⟩ := ev_all i6 c6 (by decide) (by omega)
  have e1 : run (deniedL s) (stNew cfD) = (S6.setc 2 (some { d5 with out := [] }), [(0, []), (0, []), (0, []), (0, [])] ++ [(0, d1.out), (0, d2.out), (0, []), (0, []), (0, d5.out)]) := by
    unfold deniedL
    rw [run_app, run_app, r1]
    simp only
    rw [r2]
    simp only [run, k3, k4, k5', k6, k7]
    rfl
  have ho : d5.out = mB (denM s) := by rw [o5]; rfl
  have hl : (mB (denM s)).length ≤ 2053 := mB_len _
  have hf : (S6.setc 2 (some { d5 with out := [] })).tb = S2.tb := by
    show S6.tb = _
    rw [hS6]
    show S5.tb = _
    rw [t5, t4]
  have hjoin : S2.tb = ((stNew cfD).tb.join 1 2).join 2 1 := by rw [t2, t1]
  refine ⟨hev, by rw [e1]; rfl, by rw [show outSum (deniedL s) = 0 from rfl]; omega, Nat.le_trans (sz_le hev) (by rw [deniedL_len]; omega), ?_, ?_, ?_, ?_, ?_⟩
  · rw [e1]; rfl
  · rw [e1]
    show (strOfNums d5.out).size ≤ _
    rw [strOf_size, ho]; omega
  · rw [e1]
    show msgsM (bytesOf (strOfNums d5.out)) = _
    rw [ho, bytes_str (isB_mB hmg), msgs_one hmg]
  · rw [e1]
    show (S6.setc 2 (some { d5 with out := [] })).tb.holder = 0
    rw [hf, hjoin]; rfl
  · rw [e1]
    show (S6.setc 2 (some { d5 with out := [] })).tb.users.length = 2
    rw [hf, hjoin]; decide
end Go.Proofs.YtfkamoiamebngaaGreatDoor.BroW

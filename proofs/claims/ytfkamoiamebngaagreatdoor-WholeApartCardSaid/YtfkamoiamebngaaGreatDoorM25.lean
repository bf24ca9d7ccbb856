/- kibitzertop: WholeApart, the plain law: two brokers that differ in a closing connection alone answer alike. Plain. -/
import Derived.Test.YtfkamoiamebngaaGreatDoorM15
import Derived.Test.YtfkamoiamebngaaGreatDoorM24
import Derived.Test.YtfkamoiamebngaaGreatDoorM23
namespace Go.Proofs.YtfkamoiamebngaaGreatDoor.Mod
open Go.RowKit Go.Proofs.YtfkamoiamebngaaGreatDoorW.PrintWords Go.Proofs.YtfkamoiamebngaaGreatDoor.ScrP Go.Proofs.YtfkamoiamebngaaGreatDoor.LexP Go.Proofs.YtfkamoiamebngaaGreatDoor.BroW
set_option linter.unusedVariables false

/-- a connection that is closing and still has something to send -/
structure Shut9 (c : Cn) : Prop where
  st : c.st = 2
  out : c.out ≠ []
  name : c.name = ⟨#[117]⟩
/-- the same but for connection 9, which is closing in both -/
structure R9 (S T : St) : Prop where
  cf : T.cf = S.cf
  log : T.log = S.log
  tb : T.tb = S.tb
  inp : T.inp = S.inp
  inE : T.inE = S.inE
  strikes : T.strikes = S.strikes
  ended : T.ended = S.ended
  code : T.code = S.code
  told : T.told = S.told
  cn : ∀ i, i ≠ 9 → T.cn i = S.cn i
  s9 : ∃ c, S.cn 9 = some c ∧ Shut9 c
  t9 : ∃ c, T.cn 9 = some c ∧ Shut9 c
theorem R9.setc {S T : St} (h : R9 S T) {i : Int} (e : i ≠ 9) (c : Option Cn) : R9 (S.setc i c) (T.setc i c) := by
  refine ⟨h.cf, h.log, h.tb, h.inp, h.inE, h.strikes, h.ended, h.code, h.told, fun j hj => ?_, ?_, ?_⟩
  · show (if j = i then c else T.cn j) = (if j = i then c else S.cn j)
    rw [h.cn j hj]
  · obtain ⟨d, hd, hs⟩ := h.s9
    exact ⟨d, (if_neg (fun k => e k.symm)).trans hd, hs⟩
  · obtain ⟨d, hd, hs⟩ := h.t9
    exact ⟨d, (if_neg (fun k => e k.symm)).trans hd, hs⟩
theorem R9.set9 {S T : St} (h : R9 S T) {c d : Cn} (hc : Shut9 c) (hd : Shut9 d) : R9 (S.setc 9 (some c)) (T.setc 9 (some d)) := by
  refine ⟨h.cf, h.log, h.tb, h.inp, h.inE, h.strikes, h.ended, h.code, h.told, fun j hj => ?_, ⟨c, by simp [St.setc], hc⟩, ⟨d, by simp [St.setc], hd⟩⟩
  show (if j = 9 then _ else T.cn j) = (if j = 9 then _ else S.cn j)
  rw [if_neg hj, if_neg hj, h.cn j hj]
theorem R9.tb' {S T : St} (h : R9 S T) (t : Tb) : R9 { S with tb := t } { T with tb := t } := ⟨h.cf, h.log, rfl, h.inp, h.inE, h.strikes, h.ended, h.code, h.told, h.cn, h.s9, h.t9⟩
theorem R9.told' {S T : St} (h : R9 S T) (t : Int) : R9 { S with told := t } { T with told := t } := ⟨h.cf, h.log, h.tb, h.inp, h.inE, h.strikes, h.ended, h.code, rfl, h.cn, h.s9, h.t9⟩
theorem R9.inp' {S T : St} (h : R9 S T) (t : List Int) : R9 { S with inp := t } { T with inp := t } := ⟨h.cf, h.log, h.tb, rfl, h.inE, h.strikes, h.ended, h.code, h.told, h.cn, h.s9, h.t9⟩
theorem R9.log' {S T : St} (h : R9 S T) (t : List Int) : R9 { S with log := t } { T with log := t } := ⟨h.cf, rfl, h.tb, h.inp, h.inE, h.strikes, h.ended, h.code, h.told, h.cn, h.s9, h.t9⟩
theorem R9.strikes' {S T : St} (h : R9 S T) (t : Int) : R9 { S with strikes := t } { T with strikes := t } := ⟨h.cf, h.log, h.tb, h.inp, h.inE, rfl, h.ended, h.code, h.told, h.cn, h.s9, h.t9⟩
theorem R9.end' {S T : St} (h : R9 S T) (t : Int) : R9 { S with ended := true, code := t, inp := [], inE := true } { T with ended := true, code := t, inp := [], inE := true } := ⟨h.cf, h.log, h.tb, rfl, rfl, h.strikes, rfl, rfl, h.told, h.cn, h.s9, h.t9⟩
theorem R9.isOpen {S T : St} (h : R9 S T) (i : Int) : isOpen T i = isOpen S i := by
  unfold Mod.isOpen
  by_cases e : i = 9
  · subst e
    obtain ⟨c, hc, hs⟩ := h.s9
    obtain ⟨d, hd, ht⟩ := h.t9
    rw [hc, hd]
    simp only [hs.st, ht.st]
  · rw [h.cn i e]
theorem R9.stOf {S T : St} (h : R9 S T) (i : Int) : T.stOf i = S.stOf i := by
  unfold St.stOf
  by_cases e : i = 9
  · subst e
    obtain ⟨c, hc, hs⟩ := h.s9
    obtain ⟨d, hd, ht⟩ := h.t9
    rw [hc, hd]
    simp only [hs.st, ht.st]
  · rw [h.cn i e]
theorem R9.nameOf {S T : St} (h : R9 S T) (i : Int) : nameOf T i = nameOf S i := by
  unfold Mod.nameOf
  by_cases e : i = 9
  · subst e
    obtain ⟨c, hc, hs⟩ := h.s9
    obtain ⟨d, hd, ht⟩ := h.t9
    rw [hc, hd]
    simp only [hs.name, ht.name]
  · rw [h.cn i e]
theorem r_sendW {lv : St → Int → St} (H : ∀ S T i, R9 S T → R9 (lv S i) (lv T i)) {S T : St} (h : R9 S T) (i : Int) (m : Mg) : R9 (sendW lv S i m) (sendW lv T i m) := by
  unfold sendW
  by_cases e : i = 9
  · subst e
    obtain ⟨c, hc, hs⟩ := h.s9
    obtain ⟨d, hd, ht⟩ := h.t9
    rw [hc, hd]
    simp only
    rw [if_pos hs.st, if_pos ht.st]
    exact h
  · rw [h.cn i e]
    cases hc : S.cn i with
    | none => exact h
    | some c =>
      simp only
      by_cases h2 : c.st = 2
      · rw [if_pos h2, if_pos h2]; exact h
      · rw [if_neg h2, if_neg h2, h.cf]
        by_cases h3 : ((mB m).length + c.out.length : Int) ≤ S.cf.a2
        · rw [if_pos h3, if_pos h3]; exact h.setc e _
        · rw [if_neg h3, if_neg h3]; exact H _ _ _ h
theorem r_fold {f : St → Int → St} (hf : ∀ S T i, R9 S T → R9 (f S i) (f T i)) (l : List Int) : ∀ {S T : St}, R9 S T → R9 (l.foldl f S) (l.foldl f T) := by
  induction l with
  | nil => intro S T h; exact h
  | cons a l ih => intro S T h; exact ih (hf _ _ a h)
theorem r_tellW {lv : St → Int → St} (H : ∀ S T i, R9 S T → R9 (lv S i) (lv T i)) {S T : St} (h : R9 S T) (m : Mg) : R9 (tellW lv S m) (tellW lv T m) := by
  unfold tellW
  refine r_fold (fun S T i h => ?_) _ h
  unfold tellOne
  rw [h.isOpen i]
  by_cases ho : Mod.isOpen S i = true
  · rw [if_pos ho, if_pos ho]; exact r_sendW H h i m
  · rw [if_neg ho, if_neg ho]; exact h
theorem r_leaveF (n : Nat) : ∀ (S T : St) (i : Int), R9 S T → R9 (leaveF n S i) (leaveF n T i) := by
  induction n with
  | zero => intro S T i h; exact h
  | succ n ih =>
    intro S T i h
    unfold leaveF
    by_cases e : i = 9
    · subst e
      obtain ⟨c, hc, hs⟩ := h.s9
      obtain ⟨d, hd, ht⟩ := h.t9
      rw [hc, hd]
      simp only
      rw [if_neg (by rw [hs.st]; decide), if_neg (by rw [ht.st]; decide)]
      exact h.set9 ⟨rfl, hs.out, hs.name⟩ ⟨rfl, ht.out, ht.name⟩
    · rw [h.cn i e]
      cases hc : S.cn i with
      | none => exact h
      | some c =>
        simp only
        by_cases h1 : c.st = 1
        · rw [if_pos h1, if_pos h1, h.tb]
          exact r_tellW ih ((h.setc e _).tb' _) _
        · rw [if_neg h1, if_neg h1]
          exact h.setc e _
theorem r_leave {S T : St} (h : R9 S T) (i : Int) : R9 (leave S i) (leave T i) := r_leaveF 17 S T i h
theorem r_send {S T : St} (h : R9 S T) (i : Int) (m : Mg) : R9 (send S i m) (send T i m) := r_sendW (r_leaveF 17) h i m
theorem r_tell {S T : St} (h : R9 S T) (m : Mg) : R9 (tell S m) (tell T m) := r_tellW (r_leaveF 17) h m
theorem r_shut {S T : St} (h : R9 S T) (i why : Int) : R9 (shut S i why) (shut T i why) := by
  unfold shut
  simp only
  have h1 := r_send h i ⟨13, why, 0, strL []⟩
  rw [h1.stOf i]
  split
  · exact h1
  · exact r_leave h1 i
theorem r_turnF (n : Nat) : ∀ {S T : St}, R9 S T → R9 (turnF n S) (turnF n T) := by
  induction n with
  | zero => intro S T h; exact h
  | succ n ih =>
    intro S T h
    unfold turnF
    have e2 : T.tb.holder = S.tb.holder := by rw [h.tb]
    rw [e2, h.told]
    by_cases e : S.tb.holder = S.told
    · rw [if_pos e, if_pos e]; exact h
    · rw [if_neg e, if_neg e]
      exact ih (r_tell (h.told' _) _)
theorem r_turned {S T : St} (h : R9 S T) : R9 (turned S) (turned T) := r_turnF 18 h
theorem r_roleFor {S T : St} (h : R9 S T) (w : Bool) : roleFor T w = roleFor S w := by unfold roleFor; rw [h.tb]
theorem r_hello {S T : St} (h : R9 S T) {id : Int} (e : id ≠ 9) (m : Mg) : R9 (helloM S id m) (helloM T id m) := by
  unfold helloM
  split
  · split
    · split
      · simp only
        have h1 := r_tell h (note ([106, 111, 105, 110, 101, 100, 32] ++ dig id ++ [32] ++ m.t.data.toList))
        generalize tell S (note ([106, 111, 105, 110, 101, 100, 32] ++ dig id ++ [32] ++ m.t.data.toList)) = S1 at h1 ⊢
        generalize tell T (note ([106, 111, 105, 110, 101, 100, 32] ++ dig id ++ [32] ++ m.t.data.toList)) = T1 at h1 ⊢
        rw [h1.cn id e]
        cases hc : S1.cn id with
        | none => exact h1
        | some c =>
          simp only
          rw [h1.log, h1.cf]
          obtain ⟨at_, hat⟩ : ∃ a, a = startM S1.log S1.cf.a0 m.b (decide (m.a % 4 / 2 = 1)) := ⟨_, rfl⟩
          rw [← hat]
          have h2 := h1.setc e (some { c with st := 1, name := m.t, vw := some ⟨at_, 0⟩ })
          generalize S1.setc id (some { c with st := 1, name := m.t, vw := some ⟨at_, 0⟩ }) = S2 at h2 ⊢
          generalize T1.setc id (some { c with st := 1, name := m.t, vw := some ⟨at_, 0⟩ }) = T2 at h2 ⊢
          rw [r_roleFor h2, h2.tb]
          have h3 := h2.tb' (S2.tb.join id (roleFor S2 (decide (m.a % 2 = 1))))
          have h4 := r_send h3 id ⟨5, id, at_, strL (wordR (roleFor S2 (decide (m.a % 2 = 1))))⟩
          generalize send { S2 with tb := S2.tb.join id (roleFor S2 (decide (m.a % 2 = 1))) } id ⟨5, id, at_, strL (wordR (roleFor S2 (decide (m.a % 2 = 1))))⟩ = S4 at h4 ⊢
          generalize send { T2 with tb := S2.tb.join id (roleFor S2 (decide (m.a % 2 = 1))) } id ⟨5, id, at_, strL (wordR (roleFor S2 (decide (m.a % 2 = 1))))⟩ = T4 at h4 ⊢
          rw [h4.told]
          have h5 := r_send h4 id ⟨9, S4.told, 0, strL []⟩
          generalize send S4 id ⟨9, S4.told, 0, strL []⟩ = S5 at h5 ⊢
          generalize send T4 id ⟨9, S4.told, 0, strL []⟩ = T5 at h5 ⊢
          rw [h5.ended, h5.code]
          by_cases he : S5.ended = true
          · rw [if_pos he, if_pos he]; exact r_send h5 _ _
          · rw [if_neg he, if_neg he]; exact h5
      · exact r_shut h id 3
    · exact r_shut h id 2
  · exact r_shut h id 4
theorem r_listLine {S T : St} (h : R9 S T) (u : Int) : listLine T u = listLine S u := by
  unfold listLine
  rw [h.tb, h.nameOf]
theorem r_list {S T : St} (h : R9 S T) (id : Int) : R9 (listM S id) (listM T id) := by
  unfold listM
  rw [h.tb]
  refine r_fold (fun S T u h => ?_) _ h
  rw [r_listLine h]
  exact r_send h id _
theorem r_userM {S T : St} (h : R9 S T) (n : Int) : userM T n = userM S n := by unfold userM; rw [h.isOpen]
theorem r_setTb {S T : St} (h : R9 S T) (p : Tb × Bool) : R9 (setTb S p).1 (setTb T p).1 ∧ (setTb T p).2 = (setTb S p).2 := ⟨h.tb' _, rfl⟩
theorem r_setTe {S T : St} (h : R9 S T) (p : Tb × Int) : R9 (setTe S p).1 (setTe T p).1 ∧ (setTe T p).2 = (setTe S p).2 := ⟨h.tb' _, rfl⟩
theorem r_toOther {S T : St} (h : R9 S T) (k n : Int) : R9 (toOther S k n).1 (toOther T k n).1 ∧ (toOther T k n).2 = (toOther S k n).2 := by
  unfold toOther
  rw [r_userM h, h.tb]
  by_cases hu : userM S n = true
  · rw [if_pos hu, if_pos hu]
    by_cases h6 : k = 6
    · rw [if_pos h6, if_pos h6]; exact r_setTe h _
    · rw [if_neg h6, if_neg h6]
      by_cases h7 : k = 7
      · rw [if_pos h7, if_pos h7]; exact ⟨r_shut h n 5, rfl⟩
      · rw [if_neg h7, if_neg h7]
        by_cases h8 : k = 8
        · rw [if_pos h8, if_pos h8]; exact r_setTb h _
        · rw [if_neg h8, if_neg h8]; exact r_setTb h _
  · rw [if_neg hu, if_neg hu]; exact ⟨h, rfl⟩
theorem r_does {S T : St} (h : R9 S T) {id : Int} (e : id ≠ 9) (k n : Int) : R9 (doesM S id k n).1 (doesM T id k n).1 ∧ (doesM T id k n).2 = (doesM S id k n).2 := by
  unfold doesM
  rw [h.tb]
  by_cases h0 : ownK k = true ∧ S.tb.role id ≠ 2
  · rw [if_pos h0, if_pos h0]; exact ⟨h, rfl⟩
  rw [if_neg h0, if_neg h0]
  by_cases h1 : k = 1
  · rw [if_pos h1, if_pos h1]; exact r_setTe h _
  rw [if_neg h1, if_neg h1]
  by_cases h2 : k = 2
  · rw [if_pos h2, if_pos h2]; exact r_setTe h _
  rw [if_neg h2, if_neg h2]
  by_cases h3 : k = 3
  · rw [if_pos h3, if_pos h3]; exact ⟨r_list h id, rfl⟩
  rw [if_neg h3, if_neg h3]
  by_cases h4 : k = 4
  · rw [if_pos h4, if_pos h4]; exact ⟨r_shut h id 0, rfl⟩
  rw [if_neg h4, if_neg h4]
  by_cases h5 : k = 5
  · rw [if_pos h5, if_pos h5]; exact r_setTe h _
  rw [if_neg h5, if_neg h5]
  by_cases h10 : k = 10
  · rw [if_pos h10, if_pos h10, h.cn id e, h.log, h.cf]
    cases hc : S.cn id with
    | none => exact ⟨h, rfl⟩
    | some c => exact ⟨h.setc e _, rfl⟩
  rw [if_neg h10, if_neg h10]
  by_cases h11 : k = 11
  · rw [if_pos h11, if_pos h11]
    by_cases hn : 9 < n
    · rw [if_pos hn, if_pos hn]; exact ⟨h, rfl⟩
    · rw [if_neg hn, if_neg hn]
      have h2 := h.strikes' n
      rw [h.tb] at h2
      exact ⟨h2, rfl⟩
  rw [if_neg h11, if_neg h11]
  exact r_toOther h k n
theorem r_line1 {S T : St} (h : R9 S T) {id : Int} (e : id ≠ 9) (s : ByteArray) : R9 (lineM1 S id s) (lineM1 T id s) := by
  unfold lineM1
  split
  · exact r_turned (r_send h id _)
  · rename_i k n hp
    simp only
    obtain ⟨h1, h2⟩ := r_does h e k n
    rw [h2]
    by_cases hb : (doesM S id k n).2 = true
    · rw [if_pos hb, if_pos hb]; exact r_turned h1
    · rw [if_neg hb, if_neg hb]; exact r_turned (r_send h1 id _)
theorem r_lines (l : List ByteArray) : ∀ {S T : St} {id : Int}, R9 S T → id ≠ 9 → R9 (linesM l S id) (linesM l T id) := by
  induction l with
  | nil => intro S T id h _; exact h
  | cons s l ih =>
    intro S T id h e
    show R9 (if S.stOf id = 1 then linesM l (lineM1 S id s) id else S) (if T.stOf id = 1 then linesM l (lineM1 T id s) id else T)
    rw [h.stOf]
    by_cases h1 : S.stOf id = 1
    · rw [if_pos h1, if_pos h1]; exact ih (r_line1 h e s) e
    · rw [if_neg h1, if_neg h1]; exact h
theorem r_why {S T : St} (h : R9 S T) (id : Int) (n : Nat) : inqWhy T id n = inqWhy S id n := by
  unfold inqWhy
  rw [h.inE, h.tb, h.cf, h.inp]
theorem r_offer {S T : St} (h : R9 S T) (id : Int) (keys : List Int) (seq : Int) : R9 (offerM S id keys seq) (offerM T id keys seq) := by
  unfold offerM
  rw [r_why h, h.inp]
  by_cases hk : keys = []
  · rw [if_pos hk, if_pos hk]; exact h
  · rw [if_neg hk, if_neg hk]
    by_cases hw : inqWhy S id keys.length = 0
    · rw [if_pos hw, if_pos hw]; exact h.inp' _
    · rw [if_neg hw, if_neg hw]; exact r_send h id _
theorem r_keys {S T : St} (h : R9 S T) {id : Int} (e : id ≠ 9) (m : Mg) : R9 (keysM S id m) (keysM T id m) := by
  unfold keysM
  rw [h.cn id e]
  cases hc : S.cn id with
  | none => exact h
  | some c => exact r_lines _ (r_offer (h.setc e _) id _ _) e
theorem r_message {S T : St} (h : R9 S T) {id : Int} (e : id ≠ 9) (f : Frm) : R9 (messageM S id f) (messageM T id f) := by
  unfold messageM
  simp only
  rw [h.stOf]
  split
  · exact r_shut h id 4
  split
  · exact r_hello h e _
  split
  · exact r_keys h e _
  split
  · exact r_send h id _
  split
  · exact r_shut h id 0
  · exact r_shut h id 4
theorem r_pumpC (f : Nat) : ∀ {S T : St} {id : Int}, R9 S T → R9 (pumpC f S id) (pumpC f T id) := by
  induction f with
  | zero => intro S T id h; exact h
  | succ f ih =>
    intro S T id h
    by_cases e : id = 9
    · subst e
      obtain ⟨c, hc, hs⟩ := h.s9
      obtain ⟨d, hd, ht⟩ := h.t9
      have k1 : pumpC (f + 1) S 9 = S := by
        unfold pumpC; rw [hc]; simp only
        split
        · rfl
        · rw [if_neg (by rw [hs.st]; decide)]
      have k2 : pumpC (f + 1) T 9 = T := by
        unfold pumpC; rw [hd]; simp only
        split
        · rfl
        · rw [if_neg (by rw [ht.st]; decide)]
      rw [k1, k2]; exact h
    · unfold pumpC
      rw [h.cn id e]
      cases hc : S.cn id with
      | none => exact h
      | some c =>
        simp only
        cases hv : c.vw with
        | none => exact h
        | some v =>
          simp only
          by_cases h1 : c.st = 1
          · rw [if_pos h1, if_pos h1, h.log, h.cf, h.strikes]
            generalize v.next S.log S.cf.a0 (S.cf.a2 - c.out.length - 200) S.cf.a1 S.strikes = r
            by_cases h2 : r.2.2 = true
            · rw [if_pos h2, if_pos h2]
              have h3 := h.setc e (some { c with vw := some r.1, out := if ((mB r.2.1).length + c.out.length : Int) ≤ S.cf.a2 then c.out ++ mB r.2.1 else c.out })
              by_cases h4 : r.2.1.k = 12
              · rw [if_pos h4, if_pos h4]; exact ih (r_leave h3 id)
              · rw [if_neg h4, if_neg h4]; exact ih h3
            · rw [if_neg h2, if_neg h2]; exact h
          · rw [if_neg h1, if_neg h1]; exact h
theorem r_pump {S T : St} (h : R9 S T) : R9 (pump S) (pump T) := by
  unfold pump
  refine r_fold (fun S T i h => ?_) _ h
  unfold pumpOne
  rw [h.isOpen, h.log]
  by_cases ho : Mod.isOpen S i = true
  · rw [if_pos ho, if_pos ho]; exact r_pumpC _ h
  · rw [if_neg ho, if_neg ho]; exact h
theorem r_sweep {S T : St} (h : R9 S T) : R9 (sweep S) (sweep T) := by
  refine ⟨h.cf, h.log, h.tb, h.inp, h.inE, h.strikes, h.ended, h.code, h.told, fun j hj => ?_, ?_, ?_⟩
  · show (match T.cn j with
      | some c => if c.st = 2 ∧ c.out = [] then none else some c
      | none => none) = (match S.cn j with
      | some c => if c.st = 2 ∧ c.out = [] then none else some c
      | none => none)
    rw [h.cn j hj]
  · obtain ⟨c, hc, hs⟩ := h.s9
    refine ⟨c, ?_, hs⟩
    show (match S.cn 9 with
      | some c => if c.st = 2 ∧ c.out = [] then none else some c
      | none => none) = some c
    rw [hc]
    exact if_neg (fun k => hs.out k.2)
  · obtain ⟨c, hc, hs⟩ := h.t9
    refine ⟨c, ?_, hs⟩
    show (match T.cn 9 with
      | some c => if c.st = 2 ∧ c.out = [] then none else some c
      | none => none) = some c
    rw [hc]
    exact if_neg (fun k => hs.out k.2)
theorem r_settle {S T : St} (h : R9 S T) : R9 (settle S) (settle T) := r_sweep (r_turned (r_pump (r_turned h)))
theorem r_connect {S T : St} (h : R9 S T) {id : Int} (e : id ≠ 9) : R9 (connectM S id).1 (connectM T id).1 ∧ (connectM T id).2 = (connectM S id).2 := by
  unfold connectM
  rw [h.cn id e]
  by_cases h1 : id < 1 ∨ 16 < id
  · rw [if_pos h1, if_pos h1]; exact ⟨h, rfl⟩
  rw [if_neg h1, if_neg h1]
  by_cases h2 : (S.cn id).isSome = true
  · rw [if_pos h2, if_pos h2]; exact ⟨h, rfl⟩
  rw [if_neg h2, if_neg h2]
  exact ⟨h.setc e _, rfl⟩
theorem r_frames (l : List Frm) : ∀ {S T : St} {id : Int}, R9 S T → id ≠ 9 → R9 (framesM l S id) (framesM l T id) := by
  induction l with
  | nil => intro S T id h _; exact h
  | cons f l ih =>
    intro S T id h e
    show R9 (framesM l (if S.stOf id = 2 then S else turned (messageM S id f)) id) (framesM l (if T.stOf id = 2 then T else turned (messageM T id f)) id)
    rw [h.stOf]
    by_cases h1 : S.stOf id = 2
    · rw [if_pos h1, if_pos h1]; exact ih h e
    · rw [if_neg h1, if_neg h1]; exact ih (r_turned (r_message h e f)) e
theorem r_bytes {S T : St} (h : R9 S T) {id : Int} (e : id ≠ 9) (data : List Int) : R9 (bytesM S id data).1 (bytesM T id data).1 ∧ (bytesM T id data).2 = (bytesM S id data).2 := by
  unfold bytesM
  rw [h.cn id e]
  cases hc : S.cn id with
  | none => exact ⟨h, rfl⟩
  | some c =>
    simp only
    by_cases h2 : c.st = 2
    · rw [if_pos h2, if_pos h2]; exact ⟨h, rfl⟩
    · rw [if_neg h2, if_neg h2]
      refine ⟨?_, rfl⟩
      simp only
      have h3 := r_frames (feedPush c.fb c.fe data).1 (h.setc e (some { c with idle := if data = [] then c.idle else 0, fb := (feedPush c.fb c.fe data).2.1, fe := (feedPush c.fb c.fe data).2.2 })) e
      generalize framesM (feedPush c.fb c.fe data).1 (S.setc id (some { c with idle := if data = [] then c.idle else 0, fb := (feedPush c.fb c.fe data).2.1, fe := (feedPush c.fb c.fe data).2.2 })) id = S1 at h3 ⊢
      generalize framesM (feedPush c.fb c.fe data).1 (T.setc id (some { c with idle := if data = [] then c.idle else 0, fb := (feedPush c.fb c.fe data).2.1, fe := (feedPush c.fb c.fe data).2.2 })) id = T1 at h3 ⊢
      rw [h3.stOf]
      refine r_settle ?_
      by_cases h5 : S1.stOf id = 2 ∨ (feedPush c.fb c.fe data).2.2 = 0
      · rw [if_pos h5, if_pos h5]; exact h3
      · rw [if_neg h5, if_neg h5]; exact r_shut h3 id 1
theorem r_write {S T : St} (h : R9 S T) {id : Int} (e : id ≠ 9) (n : Int) : R9 (writeM S id n).1 (writeM T id n).1 ∧ (writeM T id n).2 = (writeM S id n).2 := by
  unfold writeM
  rw [h.cn id e]
  cases hc : S.cn id with
  | none => exact ⟨h, rfl⟩
  | some c => exact ⟨r_settle (h.setc e _), rfl⟩
theorem r_output {S T : St} (h : R9 S T) (data : List Int) : R9 (outputM S data).1 (outputM T data).1 ∧ (outputM T data).2 = (outputM S data).2 := by
  unfold outputM
  rw [h.ended, h.log]
  by_cases h1 : S.ended = true
  · rw [if_pos h1, if_pos h1]; exact ⟨h, rfl⟩
  · rw [if_neg h1, if_neg h1]
    have h2 := h.log' (S.log ++ data)
    rw [h.ended] at h2
    exact ⟨r_settle h2, rfl⟩
theorem r_drain {S T : St} (h : R9 S T) (n : Int) : R9 (drainM S n).1 (drainM T n).1 ∧ (drainM T n).2 = (drainM S n).2 := by
  unfold drainM
  rw [h.inp]
  exact ⟨h.inp' _, rfl⟩
theorem r_tick1 {S T : St} (i : Int) (h : R9 S T) : R9 (tickOne S i) (tickOne T i) := by
  unfold tickOne
  by_cases e : i = 9
  · subst e
    obtain ⟨c, hc, hs⟩ := h.s9
    obtain ⟨d, hd, ht⟩ := h.t9
    rw [hc, hd]
    simp only
    rw [if_neg (fun k => k.2.2 hs.st), if_neg (fun k => k.2.2 ht.st)]
    exact h.set9 ⟨hs.st, hs.out, hs.name⟩ ⟨ht.st, ht.out, ht.name⟩
  · rw [h.cn i e, h.cf]
    cases hc : S.cn i with
    | none => exact h
    | some c =>
      simp only
      have h1 := h.setc e (some { c with idle := IntKind.i64.wrap (c.idle + 1) })
      split
      · exact r_shut h1 i 6
      · exact h1
theorem r_tick {S T : St} (h : R9 S T) : R9 (tickM S) (tickM T) := by
  unfold tickM
  rw [h.tb]
  exact r_settle (r_fold (fun S T i h => r_tick1 i h) ids16 (h.tb' _))
theorem R9.del {S T : St} (h : R9 S T) {i : Int} (e : i ≠ 9) : R9 (S.setc i none) (T.setc i none) := h.setc e none
theorem r_cut {S T : St} (h : R9 S T) {id : Int} (e : id ≠ 9) : R9 (cutM S id).1 (cutM T id).1 ∧ (cutM T id).2 = (cutM S id).2 := by
  unfold cutM
  rw [h.cn id e]
  by_cases h1 : (S.cn id).isSome = true
  · rw [if_pos h1, if_pos h1]; exact ⟨r_settle ((r_leave h id).setc e none), rfl⟩
  · rw [if_neg h1, if_neg h1]; exact ⟨h, rfl⟩
theorem r_end {S T : St} (h : R9 S T) (code : Int) : R9 (endM S code).1 (endM T code).1 ∧ (endM T code).2 = (endM S code).2 := by
  unfold endM
  rw [h.ended]
  by_cases h1 : S.ended = true
  · rw [if_pos h1, if_pos h1]; exact ⟨h, rfl⟩
  rw [if_neg h1, if_neg h1]
  by_cases h2 : code < 0 ∨ 255 < code
  · rw [if_pos h2, if_pos h2]; exact ⟨h, rfl⟩
  rw [if_neg h2, if_neg h2]
  exact ⟨r_settle (r_tell (h.end' code) _), rfl⟩
theorem r_step {S T : St} (h : R9 S T) (e : Ev) (hi : e.i ≠ 9) : R9 (step S e).1 (step T e).1 ∧ (step T e).2 = (step S e).2 := by
  unfold step
  by_cases hb : evB e = true
  · rw [if_pos hb, if_pos hb]
    by_cases h0 : e.k = 0
    · rw [if_pos h0, if_pos h0]; have := r_connect h hi; exact ⟨this.1, by rw [this.2]⟩
    rw [if_neg h0, if_neg h0]
    by_cases h1 : e.k = 1
    · rw [if_pos h1, if_pos h1]; have := r_bytes h hi (bytesOf e.d); exact ⟨this.1, by rw [this.2]⟩
    rw [if_neg h1, if_neg h1]
    by_cases h2 : e.k = 2
    · rw [if_pos h2, if_pos h2]; have := r_write h hi e.n; exact ⟨this.1, by rw [this.2]⟩
    rw [if_neg h2, if_neg h2]
    by_cases h3 : e.k = 3
    · rw [if_pos h3, if_pos h3]; have := r_output h (bytesOf e.d); exact ⟨this.1, by rw [this.2]⟩
    rw [if_neg h3, if_neg h3]
    by_cases h4 : e.k = 4
    · rw [if_pos h4, if_pos h4]; have := r_drain h e.n; exact ⟨this.1, by rw [this.2]⟩
    rw [if_neg h4, if_neg h4]
    by_cases h5 : e.k = 5
    · rw [if_pos h5, if_pos h5]; exact ⟨r_tick h, rfl⟩
    rw [if_neg h5, if_neg h5]
    by_cases h6 : e.k = 6
    · rw [if_pos h6, if_pos h6]; have := r_cut h hi; exact ⟨this.1, by rw [this.2]⟩
    rw [if_neg h6, if_neg h6]
    have := r_end h e.n
    exact ⟨this.1, by rw [this.2]⟩
  · rw [if_neg hb, if_neg hb]; exact ⟨h, rfl⟩
theorem r_run (L : List Ev) : ∀ {S T : St}, R9 S T → (∀ e ∈ L, e.i ≠ 9) → (run L T).2 = (run L S).2 := by
  induction L with
  | nil => intro S T _ _; rfl
  | cons e L ih =>
    intro S T h hl
    obtain ⟨h1, h2⟩ := r_step h e (hl e (by simp))
    show (step T e).2 :: _ = (step S e).2 :: _
    rw [h2, ih h1 (fun x hx => hl x (by simp [hx]))]
end Go.Proofs.YtfkamoiamebngaaGreatDoor.Mod

/- kibitzertop: WholeApart, the plain law. -/
namespace Go.Proofs.YtfkamoiamebngaaGreatDoor.BroW
open Go.RowKit Go.Proofs.YtfkamoiamebngaaGreatDoorW.PrintWords Go.Proofs.YtfkamoiamebngaaGreatDoorW.PrintMore Go.Proofs.YtfkamoiamebngaaGreatDoor.Fr Go.Proofs.YtfkamoiamebngaaGreatDoor.ScrW Go.Proofs.YtfkamoiamebngaaGreatDoor.ScrP Go.Proofs.YtfkamoiamebngaaGreatDoor.Mod Go.Proofs.YtfkamoiamebngaaGreatDoor.LexP
set_option linter.unusedVariables false
set_option linter.unusedSimpArgs false

deriving instance DecidableEq for Vw
deriving instance DecidableEq for LexS
deriving instance DecidableEq for Cn
/-- two states differ in the closing connection 9 alone: a reckoning -/
def chk9 (S T : St) : Bool :=
  decide (T.cf = S.cf ∧ T.log = S.log ∧ T.inp = S.inp ∧ T.inE = S.inE ∧ T.strikes = S.strikes ∧ T.ended = S.ended ∧ T.code = S.code ∧ T.told = S.told ∧
    T.tb.lease = S.tb.lease ∧ T.tb.left = S.tb.left ∧ T.tb.holder = S.tb.holder ∧ T.tb.queue = S.tb.queue ∧ (∀ i ∈ ids16, T.tb.roles i = S.tb.roles i) ∧ (∀ i ∈ ids16, i ≠ 9 → T.cn i = S.cn i)) &&
  (match S.cn 9 with
    | some c => decide (c.st = 2 ∧ c.out ≠ [] ∧ c.name = ⟨#[117]⟩)
    | none => false) &&
  (match T.cn 9 with
    | some c => decide (c.st = 2 ∧ c.out ≠ [] ∧ c.name = ⟨#[117]⟩)
    | none => false)
theorem r9_of {S T : St} (hS : WF S) (hT : WF T) (h : chk9 S T = true) : R9 S T := by
  unfold chk9 at h
  simp only [Bool.and_eq_true, decide_eq_true_eq] at h
  obtain ⟨⟨⟨h1, h2, h3, h4, h5, h6, h7, h8, t1, t2, t3, t4, t5, h9⟩, h10⟩, h11⟩ := h
  have hm : ∀ i : Int, i ∈ ids16 ∨ ¬ (1 ≤ i ∧ i ≤ 16) := fun i => by
    by_cases hi : 1 ≤ i ∧ i ≤ 16
    · left; unfold ids16; simp; omega
    · exact .inr hi
  have htb : T.tb = S.tb := by
    have hr : T.tb.roles = S.tb.roles := by
      funext i
      rcases hm i with hi | hi
      · exact t5 i hi
      · have e1 : T.tb.roles i = none := by
          cases he : T.tb.roles i with
          | none => rfl
          | some r => exact absurd (role_ids hT (by rw [he]; rfl)) hi
        have e2 : S.tb.roles i = none := by
          cases he : S.tb.roles i with
          | none => rfl
          | some r => exact absurd (role_ids hS (by rw [he]; rfl)) hi
        rw [e1, e2]
    cases hA : T.tb
    cases hB : S.tb
    rw [hA, hB] at t1 t2 t3 t4 hr
    simp only at t1 t2 t3 t4 hr
    rw [t1, t2, t3, t4, hr]
  refine ⟨h1, h2, htb, h3, h4, h5, h6, h7, h8, fun i hi => ?_, ?_, ?_⟩
  · rcases hm i with hj | hj
    · exact h9 i hj hi
    · have e1 : T.cn i = none := by
        cases he : T.cn i with
        | none => rfl
        | some r => exact absurd ⟨(hT.con i r he).1, (hT.con i r he).2.1⟩ hj
      have e2 : S.cn i = none := by
        cases he : S.cn i with
        | none => rfl
        | some r => exact absurd ⟨(hS.con i r he).1, (hS.con i r he).2.1⟩ hj
      rw [e1, e2]
  · cases he : S.cn 9 with
    | none => rw [he] at h10; cases h10
    | some c =>
      rw [he] at h10
      have := of_decide_eq_true h10
      exact ⟨c, rfl, ⟨this.1, this.2.1, this.2.2⟩⟩
  · cases he : T.cn 9 with
    | none => rw [he] at h11; cases h11
    | some c =>
      rw [he] at h11
      have := of_decide_eq_true h11
      exact ⟨c, rfl, ⟨this.1, this.2.1, this.2.2⟩⟩
def headA : List Ev := comesL 9 true 0 ++ comesL 1 true 0
def midE (d : ByteArray) : Ev := ⟨1, 9, 0, ⟨#[0, 0]⟩ ++ d⟩
def byeM : Mg := ⟨4, 0, 0, ⟨#[]⟩⟩
def byeE : Ev := sayE 9 byeM
def stA : St := (run headA (stNew cfD)).1
theorem headA_out : outSum headA = 0 := by decide +kernel
theorem wf_A : WF stA := (run_ok headA (stNew cfD) (new_wf cfD_right) (by rw [headA_out]; show 0 + 0 ≤ 8100; omega)).1
theorem log_A : stA.log = [] := by decide +kernel
theorem chk_A : chk9 (Mod.step stA (midE ⟨#[]⟩)).1 (Mod.step stA byeE).1 = true := by decide +kernel
theorem out_A : (Mod.step stA (midE ⟨#[]⟩)).2 = (0, []) ∧ (Mod.step stA byeE).2 = (0, []) := by decide +kernel
theorem cn_A : (match stA.cn 9 with
  | some c => decide (c.st = 1 ∧ c.fb = [] ∧ c.fe = 0)
  | none => false) = true := by decide +kernel
theorem feed_zero (l : List Int) : feedPush [] 0 (0 :: 0 :: l) = ([], [], 6) := by
  unfold feedPush
  rw [if_pos rfl, List.nil_append]
  unfold feedGo
  have g : getB (0 :: 0 :: l) = ((0, []), 0, 6) := by
    unfold getB
    rw [if_neg (by simp)]
    simp
  rw [g]
  simp
theorem mid_ok {d : ByteArray} (hd : d.size ≤ 100) : evB (midE d) = true := by
  have hz : ((⟨#[0, 0]⟩ : ByteArray) ++ d).size = 2 + d.size := by rw [ByteArray.size_append]; rfl
  unfold evB midE
  simp [hasI, hasN, hasD, hz]
  omega
/-- what the bytes are behind the two does not matter -/
theorem mid_same {d : ByteArray} (hd : d.size ≤ 100) : Mod.step stA (midE d) = Mod.step stA (midE ⟨#[]⟩) := by
  have hb : ∀ d : ByteArray, bytesOf (midE d).d = 0 :: 0 :: bytesOf d := fun d => by
    unfold midE bytesOf
    simp only
    rw [ByteArray.data_append, Array.toList_append, List.map_append]
    rfl
  have hs : ∀ d : ByteArray, d.size ≤ 100 → Mod.step stA (midE d) = ((bytesM stA 9 (0 :: 0 :: bytesOf d)).1, (bytesM stA 9 (0 :: 0 :: bytesOf d)).2, []) := fun d hd => by
    unfold Mod.step
    rw [if_pos (mid_ok hd), if_neg (show ¬ (midE d).k = 0 from (by decide : ¬ (1 : Int) = 0)), if_pos (show (midE d).k = 1 from rfl), hb]
    rfl
  have hx : ∀ l : List Int, bytesM stA 9 (0 :: 0 :: l) = bytesM stA 9 [0, 0] := fun l => by
    have hc := cn_A
    unfold bytesM
    cases he : stA.cn 9 with
    | none => rfl
    | some c =>
      rw [he] at hc
      obtain ⟨h1, h2, h3⟩ := of_decide_eq_true hc
      simp only
      rw [h2, h3, feed_zero, feed_zero]
      simp
  rw [hs d hd, hs ⟨#[]⟩ (by decide), hx (bytesOf d), hx (bytesOf ⟨#[]⟩)]
theorem bye_ok : evB byeE = true := by decide +kernel
theorem headA_ev : ∀ e ∈ headA, evB e = true := by decide +kernel
theorem headA_sz : sz headA ≤ 1000 := by decide +kernel
def xA (d : ByteArray) (rest : List Ev) : List Ev := (headA ++ [midE d]) ++ rest
def yA (rest : List Ev) : List Ev := (headA ++ [byeE]) ++ rest
/-- the two plays answer alike -/
theorem apart_ok {d : ByteArray} (hd : d.size ≤ 100) {rest : List Ev} (hr : ∀ e ∈ rest, e.i ≠ 9) : (run (xA d rest) (stNew cfD)).2 = (run (yA rest) (stNew cfD)).2 := by
  have hlo : (Mod.step stA (midE ⟨#[]⟩)).1 = (Mod.step stA (midE ⟨#[]⟩)).1 := rfl
  have w1 : WF (Mod.step stA (midE ⟨#[]⟩)).1 := (step_ok wf_A _ (by rw [log_A]; decide)).1
  have w2 : WF (Mod.step stA byeE).1 := (step_ok wf_A _ (by rw [log_A]; decide)).1
  have h9 := r9_of w1 w2 chk_A
  have hrun := r_run rest h9 hr
  unfold xA yA
  rw [run_app, run_app, run_app, run_app]
  simp only [run]
  show ((run headA (stNew cfD)).2 ++ [(Mod.step stA (midE d)).2]) ++ (run rest (Mod.step stA (midE d)).1).2 = ((run headA (stNew cfD)).2 ++ [(Mod.step stA byeE).2]) ++ (run rest (Mod.step stA byeE).1).2
  rw [mid_same hd, out_A.1, out_A.2, hrun]
end Go.Proofs.YtfkamoiamebngaaGreatDoor.BroW

/- kibitzertop: WholeApart, the walk. -/
namespace Go.Proofs.YtfkamoiamebngaaGreatDoor.BroW
open Go.RowKit Go.Proofs.YtfkamoiamebngaaGreatDoorW.PrintWords Go.Proofs.YtfkamoiamebngaaGreatDoorW.PrintMore Go.Proofs.YtfkamoiamebngaaGreatDoor.Fr Go.Proofs.YtfkamoiamebngaaGreatDoor.ScrW Go.Proofs.YtfkamoiamebngaaGreatDoor.ScrP Go.Proofs.YtfkamoiamebngaaGreatDoor.Mod
set_option linter.unusedVariables false
set_option linter.unusedSimpArgs false

section
variable {ops : Array Oper} {Q : Exit → Act → World → Prop} {rest : List Oper} {a : Act} {o : Oper} {W : World}
/-- append of a row of events, nil or not empty or made, onto a row of events of the call's own -/
theorem app_evsA (hgd : o.guard = none) (s x : Operand) (ho : o.op = .call { callee := .builtin .append, args := #[s, x], argTypes := #[27, 27] })
    (base b2 : Nat) (v : Value) (L M : List Ev) (g : Nat) (m c l k : Nat) (hm : M.length = m) (hl : L.length = l) (hk : l + m = k) (hs : a.eval s = v) (hx : a.eval x = .slice (some ⟨g, 0, none⟩) m c)
    (hown : W.ownsRow base 33 4 v l (evs L)) (hM : W.ownsRow b2 33 4 (.slice (some ⟨g, 0, none⟩) m c) m (evs M)) (hlen : L.length + m ≤ 100000) (hbase : base ≤ W.heap.size)
    (h : ∀ A1 c1 w1, w1.ownsRow base 33 4 (.slice A1 k c1) k (evs (L ++ M)) → Fr (rowOf v) W w1 → wpList Tryz.prog ops Q rest (a.put o.dst (.slice A1 k c1)) w1) :
    wpList Tryz.prog ops Q (o :: rest) a W := by
  subst hm hl hk
  obtain ⟨i0, hi, hzz⟩ := Option.map_eq_some_iff.1 infoEv4
  simp only [Prod.mk.injEq] at hzz
  obtain ⟨hz0, hz1, hz2⟩ := hzz
  have hc := World.ownsRow.cells hM (g := g) rfl
  refine wpList_append_own_at W hgd s x 27 ho base 33 i0 _ 4 40 Tryz.underlying27 hi hz0 hz1 hz2 rfl (by decide) v L.length (evs L) hs hown ⟨g, 0, none⟩ M.length c (evs M) hx (evs_len M) (fun j u hu => ?_) (evs_one M) (by unfold maxLen; omega) (by omega) hbase ?_
  · have hadd : (⟨g, 0, none⟩ : Addr).add j = ⟨g, j, none⟩ := by unfold Addr.add; split <;> simp_all
    rw [hadd]; have h0 := hc j u hu; rw [hadd] at h0; exact h0
  · intro v1 w1 h2 h3 _ h5
    have h2' : w1.ownsRow base 33 4 v1 (L.length + M.length) (evs (L ++ M)) := by
      rw [show evs (L ++ M) = evs L ++ evs M by simp [evs]]
      exact h2
    obtain ⟨A1, c1, rfl⟩ := own_slice h2'
    exact h A1 c1 w1 h2' ((Fr.refl (rowOf v) W).grown h3 (fun _ hb _ => hb))
end
theorem own_keep {W0 W w1 : World} {b e s n b' e' s' n' : Nat} {v v' : Value} {xs xs' : List Value} (h0 : W0.ownsRow b e s v n xs) (h1 : W.ownsRow b e s v n xs) (hN : W.ownsRow b' e' s' v' n' xs') (hb : W0.heap.size ≤ b') (hf : Fr (rowOf v') W w1) : w1.ownsRow b e s v n xs :=
  hf.own h1 (fun i hi hs => by have k1 := (own_old h0 hi).2; have k2 := (own_old hN hs).1; omega)
def not9 (L : List Ev) : List Ev := L.filter fun e => !(e.i == 9)
theorem not9_snoc (L : List Ev) (k : Nat) (hk : k < L.length) (e : Ev) (he : L.getD k ev0 = e) : not9 (L.take (k + 1)) = not9 (L.take k) ++ (if e.i = 9 then [] else [e]) := by
  have : L.take (k + 1) = L.take k ++ [e] := by
    rw [List.take_succ_eq_append_getElem hk, ← he]
    simp [hk]
  unfold not9
  rw [this, List.filter_append]
  by_cases h : e.i = 9 <;> simp [h]
theorem sz_app (L M : List Ev) : sz (L ++ M) = sz L + sz M := by simp [sz]
theorem xA_ok {d : ByteArray} (hd : d.size ≤ 100) {rest : List Ev} (h1 : ∀ e ∈ rest, evB e = true) (h2 : rest.length ≤ 120) (h3 : sz rest ≤ 6000) : (∀ e ∈ xA d rest, evB e = true) ∧ (xA d rest).length ≤ 125 ∧ sz (xA d rest) ≤ 8000 := by
  have hz : (midE d).d.size = 2 + d.size := by show ((⟨#[0, 0]⟩ : ByteArray) ++ d).size = _; rw [ByteArray.size_append]; rfl
  refine ⟨fun e he => ?_, ?_, ?_⟩
  · unfold xA at he
    rcases List.mem_append.1 he with he | he
    · rcases List.mem_append.1 he with he | he
      · exact headA_ev e he
      · rw [List.mem_singleton.1 he]; exact mid_ok hd
    · exact h1 e he
  · unfold xA
    rw [List.length_append, List.length_append, show headA.length = 4 from rfl]
    simp; omega
  · unfold xA
    rw [sz_app, sz_app, show sz [midE d] = (midE d).d.size by simp [sz], hz]
    have := headA_sz
    omega
theorem yA_ok {rest : List Ev} (h1 : ∀ e ∈ rest, evB e = true) (h2 : rest.length ≤ 120) (h3 : sz rest ≤ 6000) : (∀ e ∈ yA rest, evB e = true) ∧ (yA rest).length ≤ 125 ∧ sz (yA rest) ≤ 8000 := by
  refine ⟨fun e he => ?_, ?_, ?_⟩
  · unfold yA at he
    rcases List.mem_append.1 he with he | he
    · rcases List.mem_append.1 he with he | he
      · exact headA_ev e he
      · rw [List.mem_singleton.1 he]; exact bye_ok
    · exact h1 e he
  · unfold yA
    rw [List.length_append, List.length_append, show headA.length = 4 from rfl]
    simp; omega
  · unfold yA
    have hb : sz [byeE] ≤ 100 := by decide +kernel
    rw [sz_app, sz_app]
    have := headA_sz
    omega
/-- a play of what is right: what came of it can be read -/
theorem played_reads (c : Cf) (M : List Ev) (n : Nat) (B : Option Addr) (cB : Nat) (W : World) (hlib : LibOK W) (hcb : cfB c = true) (hev : ∀ e ∈ M, evB e = true) (hlen : M.length ≤ 8192) (hsz : sz M ≤ 8100) (hn : n = M.length) (hR : ReadsEv W B M) :
    Calls Tryz.prog 15 #[.agg #[.int .i64 c.a0, .int .i64 c.a1, .int .i64 c.a2, .int .i64 c.a3, .int .i64 c.a4, .int .i64 c.a5, .int .i64 c.a6, .int .i64 c.a7], .slice B n cB] W fun e w' => ∃ p A1 c1, e = .returned (.tuple #[p, .slice A1 n c1, .bool true]) ∧ Fr nope W w' ∧ ReadsOut w' A1 (run M (stNew c)).2 := by
  subst hn
  have hq := played_calls c M B cB W hlib hcb hev (by have h1 := outSum_sz M; omega) hlen (by omega) hR
  refine hq.mono ?_
  rintro e w' ⟨L', o', x, rfl, q1, q2, q3, q4, q5⟩
  have hl : (run M (stNew c)).2.length = M.length := run_len M _
  obtain ⟨A1, c1, rfl⟩ := own_slice q4
  exact ⟨_, A1, c1, by rw [hl], q2, readsOut q4 rfl⟩

set_option maxRecDepth 100000 in
set_option maxHeartbeats 16000000 in
theorem apart_calls (L : List Ev) (d : ByteArray) (A : Option Addr) (cp : Nat) (w : World) (hlib : LibOK w) (hr : ReadsEv w A L) (hdm : d.size ≤ 140737488351232) :
    Calls Tryz.prog 4 #[.slice A L.length cp, .string d] w fun e w' => e = .returned (.bool true) ∧ Fr nope w w' := by
  have HLIB := Aside0.mk hlib
  have HR := Aside0.mk hr
  clear hlib hr
  go_enter Tryz.func4, Tryz.ntmps4
  go_wp2_with (first | (go_at_call 9; (with_reducible refine (alive_calls _ HLIB.out).mono ?_); rintro e1 w1 ⟨rfl, hf1⟩; have HF1 := Aside0.mk hf1; clear hf1))
  go_at_call 19
  refine (few_calls L A cp w1 (readsEv_frS HR.out HF1.out (fun _ _ _ h => h))).mono ?_
  rintro e2 w2 ⟨b, rfl, hfew, hf2⟩
  have HF2 : Aside0 (Fr nope w w2) := ⟨HF1.out.trans hf2 (fun _ _ h => h)⟩
  clear hf2 HF1
  cases b
  · clear hfew
    go_wp2
    go_returns
    exact ⟨rfl, HF2.out⟩
  have H120 := Aside0.mk (hfew rfl)
  clear hfew
  by_cases hd : d.size ≤ 100
  case neg =>
    have hd1 : (100 : Int) < (d.size : Int) := by omega
    clear hd
    go_wp2
    go_returns
    exact ⟨rfl, HF2.out⟩
  have hd1 : ¬ (100 : Int) < (d.size : Int) := by omega
  have HD := Aside0.mk hd
  have hcc : ¬ 9223372036854775807 < 2 + d.size := by omega
  obtain ⟨dd, hdd⟩ : ∃ dd, dd = (⟨#[0, 0]⟩ : ByteArray) ++ d := ⟨_, rfl⟩
  have hdd' := hdd.symm
  have HDD := Aside0.mk hdd
  have HSA : Aside0 (∀ W, Calls Tryz.prog 14 #[.int .i64 9, .agg #[.int .i64 4, .int .i64 0, .int .i64 0, .string ⟨#[]⟩]] W (QV W byeE)) := ⟨fun W => said_calls 9 byeM W (by decide)⟩
  clear hd hdd
  go_wp2_with (first | (go_at_call 11; (with_reducible refine (comes_calls 9 true 0 _).mono ?_); rintro e3 w3 ⟨v3, rfl, ho3, hf3⟩; obtain ⟨A3, c3, rfl⟩ := own_slice ho3; have HO3 := Aside0.mk ho3; have HF3 := Aside0.mk (HF2.out.trans hf3 (fun _ _ h => h)); have HF32 := Aside0.mk hf3; clear ho3 hf3) | (go_at_call 11; (with_reducible refine (comes_calls 1 true 0 _).mono ?_); rintro e4 w4 ⟨v4, rfl, ho4, hf4⟩; obtain ⟨A4, c4, rfl⟩ := own_slice ho4; have HO4 := Aside0.mk ho4; have HF4 := Aside0.mk (HF3.out.trans hf4 (fun _ _ h => h)); have HF42 := Aside0.mk (HF32.out.trans hf4 (fun _ _ h => h)); have HO34 := Aside0.mk (hf4.own HO3.out (fun _ _ h => h)); clear ho4 hf4) | ((with_reducible refine gate_builtin (b := .append) (xs := #[.tmp 30, .tmp 31]) rfl ?_); at_builtin; refine app_evs rfl (.tmp 30) (.tmp 31) rfl w2.heap.size w3.heap.size (.slice A3 2 c3) (comesL 9 true 0) (comesL 1 true 0) A4 2 c4 4 rfl rfl (by decide) rfl rfl HO34.out HO4.out (by decide) HF42.out.size ?_; intro A5 c5 w5 ho5 hf5; have HO5 : Aside0 (OwnsEv w2.heap.size w5 (.slice A5 4 c5) headA) := ⟨ho5⟩; have HF5 := Aside0.mk (HF4.out.trans hf5 (fun i hi hs => by have h1 := (own_old HO34.out hs).1; have h2 := HF2.out.size; omega)); clear ho5 hf5) | (go_at_call 14; (with_reducible refine (HSA.out _).mono ?_); unfold QV evV; rintro e6 w6 ⟨rfl, hf6⟩; have HF6 := Aside0.mk hf6; clear hf6))
  have HOH := Aside0.mk (HF6.out.own (HO5.out.alloc (.cells #[.int .i64 1, .int .i64 9, .int .i64 0, .string dd] 33)) (fun _ _ h => h))
  have HOM := Aside0.mk (HF6.out.own (own_litE w5 w5.heap.size [midE d] 1 #[.int .i64 1, .int .i64 9, .int .i64 0, .string dd] rfl (by rw [HDD.out]; rfl) (Nat.le_refl _) (by decide)) (fun _ _ h => h))
  obtain ⟨g5, rfl⟩ := own_some HO5.out (by decide)
  have HF6w : Aside0 (Fr nope w w6) := ⟨(HF5.out.alloc (.cells #[.int .i64 1, .int .i64 9, .int .i64 0, .string dd] 33)).trans HF6.out (fun _ _ h => h)⟩
  have h120 := H120.out.2.1
  go_loopw [8, 43] (fun v8 v43 wr => ∃ (k n g8 c8 : Nat), v43 = .int .i64 k ∧ k ≤ L.length ∧ v8 = .slice (some ⟨g8, 0, none⟩) n c8 ∧ n ≤ k ∧ Aside0 ((not9 (L.take k)).length = n) ∧ Aside0 (wr.ownsRow (w6.heap.size + 1) 33 4 (.slice (some ⟨g8, 0, none⟩) n c8) n (evs (not9 (L.take k)))) ∧ Aside0 (Fr nope (w6.alloc (.cells #[.int .i64 byeE.k, .int .i64 byeE.i, .int .i64 byeE.n, .string byeE.d] 33)) wr)) (fun _ v43 _ => L.length - (intOf v43).toNat)
  case atStart => exact ⟨0, 0, _, 0, rfl, Nat.zero_le _, rfl, Nat.le_refl _, ⟨rfl⟩, ⟨by have h := World.ownsRow_made (e := 33) (size := 4) (w6.alloc (.cells #[.int .i64 byeE.k, .int .i64 byeE.i, .int .i64 byeE.n, .string byeE.d] 33)) #[] 0 (Nat.le_refl _) (by unfold maxLen; omega) rfl; rw [World.size_alloc] at h; exact h⟩, ⟨(Fr.refl nope _).alloc _⟩⟩
  case round =>
    obtain ⟨k, n, g8, c8, rfl, hk, rfl, hnk, HN, HO8, HF⟩ := hrel
    have HFw : Aside0 (Fr nope w wr) := ⟨(HF6w.out.alloc (.cells #[.int .i64 byeE.k, .int .i64 byeE.i, .int .i64 byeE.n, .string byeE.d] 33)).trans HF.out (fun _ _ h => h)⟩
    have hws : w6.heap.size + 1 ≤ wr.heap.size := by have h := HF.out.size; rw [World.size_alloc] at h; exact h
    by_cases hlt : k < L.length
    · obtain ⟨e, he⟩ : ∃ e, L.getD k ev0 = e := ⟨_, rfl⟩
      obtain ⟨ae, hA, g0, g1, g2, g3, hsz⟩ := evCells HR.out k hlt e he HFw.out
      subst hA
      have hz := not9_snoc L k hlt e he
      have hkk : (k : Int) < (L.length : Int) := by omega
      have hk0 : (0 : Int) ≤ (k : Int) := by omega
      have hw2 : IntKind.i64.wrap ((k : Int) + 1) = ((k + 1 : Nat) : Int) := by rw [IntKind.wrap_i64]; push_cast; omega
      have hael := World.block_lt_of_cell? _ _ g0
      have hnl : n ≤ 120 := by omega
      by_cases h9 : e.i = 9
      · rw [if_pos h9, List.append_nil] at hz
        have HZ := Aside0.mk hz
        rw [h9] at g1
        clear hz he
        go_wp2
        refine ⟨⟨k + 1, n, g8, c8, ?_, by omega, rfl, by omega, ⟨by rw [HZ.out]; exact HN.out⟩, ⟨by rw [HZ.out]; exact HO8.out.alloc _⟩, ⟨HF.out.alloc _⟩⟩, ?_⟩
        · first | rfl | (push_cast; rfl)
        · simp only [intOf]; omega
      · rw [if_neg h9] at hz
        have t1 : (e.i == 9) = false := by simpa using h9
        have HZ := Aside0.mk hz
        clear hz he h9
        go_wp2_with (first | ((with_reducible refine gate_builtin (b := .append) (xs := #[.tmp 50, .tmp 52]) rfl ?_); at_builtin; refine app_lit rfl (.tmp 50) (.tmp 52) 27 33 (.agg #[.int .i64 0, .int .i64 0, .int .i64 0, .string ⟨#[]⟩]) 4 40 rfl Tryz.underlying27 infoEv4 (by decide) (by decide) (w6.heap.size + 1) (.slice (some ⟨g8, 0, none⟩) n c8) n (evs (not9 (L.take k))) (wr.heap.size + 1) 1 #[.int .i64 e.k, .int .i64 e.i, .int .i64 e.n, .string e.d] 33 rfl rfl ?aG rfl ?a1 ?aO ?aB ?aN (by decide) ?_; (case aG => exact blk_second wr _ _); (case a1 => intro u hu; simp only [List.mem_cons, List.not_mem_nil, or_false] at hu; rcases hu with rfl | rfl | rfl | rfl <;> rfl); (case aO => exact (HO8.out.alloc _).alloc _); (case aB => exact (by rw [World.size_alloc, World.size_alloc]; omega)); (case aN => exact (by omega)); intro v5 w7 ho7 hf7 hat7; obtain ⟨A7, c7', rfl⟩ := own_slice ho7; obtain ⟨g7, rfl⟩ := own_some ho7 (by omega); have HO7 := Aside0.mk ho7; have HF7 := Aside0.mk (((HF.out.alloc (.cells #[.int .i64 e.k, .int .i64 e.i, .int .i64 e.n, .string e.d] 33)).alloc (.cells #[.int .i64 e.k, .int .i64 e.i, .int .i64 e.n, .string e.d] 33)).trans hf7 (fun i hi hs => by have := (own_old HO8.out hs).1; rw [World.size_alloc] at hi; omega)); clear ho7 hf7 hat7))
        refine ⟨⟨k + 1, n + 1, g7, c7', ?_, by omega, rfl, by omega, ⟨by rw [HZ.out, List.length_append, HN.out]; rfl⟩, ⟨by rw [HZ.out, evs_snoc]; exact HO7.out⟩, HF7⟩, ?_⟩
        · first | rfl | (push_cast; rfl)
        · simp only [intOf]; omega
    · have hkl : k = L.length := by omega
      rw [hkl, List.take_length] at HN HO8
      obtain ⟨M, hM⟩ : ∃ M, M = not9 L := ⟨_, rfl⟩
      rw [← hM] at HN HO8
      have hMs : M.Sublist L := by rw [hM]; exact List.filter_sublist
      have hM9 : ∀ e ∈ M, e.i ≠ 9 := fun e he h => by rw [hM] at he; have := (List.mem_filter.1 he).2; simp [h] at this
      have hMe : ∀ e ∈ M, evB e = true := fun e he => H120.out.1 e (hMs.subset he)
      have hMz : sz M ≤ 6000 := Nat.le_trans (sz_sub hMs) H120.out.2.2
      have hMl : M.length ≤ 120 := Nat.le_trans hMs.length_le H120.out.2.1
      obtain ⟨x1, x2, x3⟩ := xA_ok HD.out hMe hMl hMz
      obtain ⟨y1, y2, y3⟩ := yA_ok hMe hMl hMz
      have hap := apart_ok HD.out hM9
      obtain ⟨T, hT⟩ : ∃ T, T = (run (yA M) (stNew cfD)).2 := ⟨_, rfl⟩
      have hMn : M.length = n := HN.out
      have hTl : T.length = 5 + n := by rw [hT, run_len]; unfold yA; rw [List.length_append, List.length_append, hMn]; rfl
      rw [← hT] at hap
      have HX := Aside0.mk (And.intro x1 (And.intro x2 (And.intro x3 hap)))
      have HY := Aside0.mk (And.intro y1 (And.intro y2 (And.intro y3 hT.symm)))
      have HMN := Aside0.mk hMn
      have HTL := Aside0.mk hTl
      have HOHr := Aside0.mk (HF.out.own (HOH.out.alloc (.cells #[.int .i64 byeE.k, .int .i64 byeE.i, .int .i64 byeE.n, .string byeE.d] 33)) (fun _ _ h => h))
      have HOMr := Aside0.mk (HF.out.own (HOM.out.alloc (.cells #[.int .i64 byeE.k, .int .i64 byeE.i, .int .i64 byeE.n, .string byeE.d] 33)) (fun _ _ h => h))
      have HOBr := Aside0.mk (HF.out.own (own_litE w6 w6.heap.size [byeE] 1 #[.int .i64 byeE.k, .int .i64 byeE.i, .int .i64 byeE.n, .string byeE.d] rfl rfl (Nat.le_refl _) (by decide)) (fun _ _ h => h))
      have hn120 : n ≤ 120 := by omega
      clear x1 x2 x3 y1 y2 y3 hap hM hMs hM9 hMe hMz hT hMn hTl hlt hk hnk
      subst hkl
      have HE0 : Aside0 (∀ W : World, (W.alloc (.cells #[] 33)).ownsRow W.heap.size 33 4 (.slice (some ⟨W.heap.size, 0, none⟩) 0 0) 0 (evs [])) := ⟨fun W => World.ownsRow_made W #[] 0 (Nat.le_refl _) (by unfold maxLen; omega) rfl⟩
      obtain ⟨N, hN⟩ : ∃ N, N = 5 + n := ⟨_, rfl⟩
      have hN125 : N ≤ 125 := by omega
      have HNN := Aside0.mk hN
      clear hN
      have HPX : Aside0 (∀ (B : Option Addr) (cB : Nat) (W : World) (b0 : Nat), Fr nope w W → W.ownsRow b0 33 4 (.slice B N cB) N (evs ((([] ++ headA) ++ [midE d]) ++ M)) → Calls Tryz.prog 15 #[.agg #[.int .i64 4096, .int .i64 512, .int .i64 2048, .int .i64 256, .int .i64 3, .int .i64 100, .int .i64 0, .int .i64 80], .slice B N cB] W fun e w' => ∃ p A1 c1, e = .returned (.tuple #[p, .slice A1 N c1, .bool true]) ∧ Fr nope W w' ∧ ReadsOut w' A1 T) := ⟨fun B cB W b0 hF ho => by
        obtain ⟨q1, q2, q3, q4⟩ := HX.out
        have hl : (xA d M).length = N := by unfold xA; rw [List.length_append, List.length_append, HMN.out, HNN.out]; rfl
        have hR : ReadsEv W B (xA d M) := reads_of_own (base := b0) (m := N) (c := cB) (by unfold OwnsEv; rw [hl]; exact ho) q1 (by omega)
        have h := played_reads cfD (xA d M) N B cB W (HLIB.out.fr hF (fun _ _ h => h)) cfD_right q1 (by omega) (by omega) hl.symm hR
        rw [q4] at h
        exact h⟩
      have HPY : Aside0 (∀ (B : Option Addr) (cB : Nat) (W : World) (b0 : Nat), Fr nope w W → W.ownsRow b0 33 4 (.slice B N cB) N (evs ((([] ++ headA) ++ [byeE]) ++ M)) → Calls Tryz.prog 15 #[.agg #[.int .i64 4096, .int .i64 512, .int .i64 2048, .int .i64 256, .int .i64 3, .int .i64 100, .int .i64 0, .int .i64 80], .slice B N cB] W fun e w' => ∃ p A1 c1, e = .returned (.tuple #[p, .slice A1 N c1, .bool true]) ∧ Fr nope W w' ∧ ReadsOut w' A1 T) := ⟨fun B cB W b0 hF ho => by
        obtain ⟨q1, q2, q3, q4⟩ := HY.out
        have hl : (yA M).length = N := by unfold yA; rw [List.length_append, List.length_append, HMN.out, HNN.out]; rfl
        have hR : ReadsEv W B (yA M) := reads_of_own (base := b0) (m := N) (c := cB) (by unfold OwnsEv; rw [hl]; exact ho) q1 (by omega)
        have h := played_reads cfD (yA M) N B cB W (HLIB.out.fr hF (fun _ _ h => h)) cfD_right q1 (by omega) (by omega) hl.symm hR
        rw [q4] at h
        exact h⟩
      have HTN : Aside0 (T.length = N) := ⟨by rw [HTL.out, HNN.out]⟩
      go_wp2_with (first | ((with_reducible refine gate_builtin (b := .append) (xs := #[.tmp 55, .tmp 56]) rfl ?_); at_builtin; refine app_evsA rfl (.tmp 55) (.tmp 56) rfl wr.heap.size _ (.slice (some ⟨wr.heap.size, 0, none⟩) 0 0) [] headA g5 4 c5 0 4 rfl rfl (by omega) rfl rfl (HE0.out wr) (HOHr.out.alloc (.cells #[] 33)) (by decide) (by rw [World.size_alloc]; omega) ?_; intro A21 c21 w21 ho21 hf21; have HH1 := Aside0.mk (own_keep HOHr.out (HOHr.out.alloc (.cells #[] 33)) (HE0.out wr) (Nat.le_refl _) hf21); have HM1 := Aside0.mk (own_keep HOMr.out (HOMr.out.alloc (.cells #[] 33)) (HE0.out wr) (Nat.le_refl _) hf21); have HB1 := Aside0.mk (own_keep HOBr.out (HOBr.out.alloc (.cells #[] 33)) (HE0.out wr) (Nat.le_refl _) hf21); have HR1 := Aside0.mk (own_keep HO8.out (HO8.out.alloc (.cells #[] 33)) (HE0.out wr) (Nat.le_refl _) hf21); have HF21r : Aside0 (wr.heap.size ≤ w21.heap.size) := ⟨(by have h := hf21.size; rw [World.size_alloc] at h; omega)⟩; have HO21 := Aside0.mk ho21; have HF21 := Aside0.mk ((HFw.out.alloc (.cells #[] 33)).trans hf21 (fun i hi hs => by have := (own_old (HE0.out wr) hs).1; have h2 := HFw.out.size; have h3 := HFw.out.size; omega)); clear ho21 hf21) | ((with_reducible refine gate_builtin (b := .append) (xs := #[.tmp 57, .tmp 58]) rfl ?_); at_builtin; refine app_evsA rfl (.tmp 57) (.tmp 58) rfl wr.heap.size _ (.slice A21 4 c21) ([] ++ headA) [midE d] w5.heap.size 1 1 4 5 rfl rfl (by omega) rfl rfl HO21.out HM1.out (by decide) (by have := HF21r.out; omega) ?_; intro A22 c22 w22 ho22 hf22; have HH2 := Aside0.mk (own_keep HOHr.out HH1.out HO21.out (Nat.le_refl _) hf22); have HB2 := Aside0.mk (own_keep HOBr.out HB1.out HO21.out (Nat.le_refl _) hf22); have HR2 := Aside0.mk (own_keep HO8.out HR1.out HO21.out (Nat.le_refl _) hf22); have HF22r : Aside0 (wr.heap.size ≤ w22.heap.size) := ⟨(Nat.le_trans HF21r.out hf22.size)⟩; have HO22 := Aside0.mk ho22; have HF22 := Aside0.mk (HF21.out.trans hf22 (fun i hi hs => by have := (own_old HO21.out hs).1; have h2 := HFw.out.size; have h3 := HFw.out.size; omega)); clear ho22 hf22) | ((with_reducible refine gate_builtin (b := .append) (xs := #[.tmp 59, .tmp 60]) rfl ?_); at_builtin; refine app_evsA rfl (.tmp 59) (.tmp 60) rfl wr.heap.size _ (.slice A22 5 c22) (([] ++ headA) ++ [midE d]) M g8 n c8 5 N HMN.out rfl HNN.out.symm rfl rfl HO22.out HR2.out (by show 5 + n ≤ 100000; omega) (by have := HF22r.out; omega) ?_; intro A23 c23 w23 ho23 hf23; have HH3 := Aside0.mk (own_keep HOHr.out HH2.out HO22.out (Nat.le_refl _) hf23); have HB3 := Aside0.mk (own_keep HOBr.out HB2.out HO22.out (Nat.le_refl _) hf23); have HR3 := Aside0.mk (own_keep HO8.out HR2.out HO22.out (Nat.le_refl _) hf23); have HF23r : Aside0 (wr.heap.size ≤ w23.heap.size) := ⟨(Nat.le_trans HF22r.out hf23.size)⟩; have HO23 := Aside0.mk ho23; have HF23 := Aside0.mk (HF22.out.trans hf23 (fun i hi hs => by have := (own_old HO22.out hs).1; have h2 := HFw.out.size; have h3 := HFw.out.size; omega)); clear ho23 hf23) | ((with_reducible refine gate_builtin (b := .append) (xs := #[.tmp 62, .tmp 63]) rfl ?_); at_builtin; refine app_evsA rfl (.tmp 62) (.tmp 63) rfl w23.heap.size _ (.slice (some ⟨w23.heap.size, 0, none⟩) 0 0) [] headA g5 4 c5 0 4 rfl rfl (by omega) rfl rfl (HE0.out w23) (HH3.out.alloc (.cells #[] 33)) (by decide) (by rw [World.size_alloc]; omega) ?_; intro A24 c24 w24 ho24 hf24; have HB4 := Aside0.mk (own_keep HB3.out (HB3.out.alloc (.cells #[] 33)) (HE0.out w23) (Nat.le_refl _) hf24); have HR4 := Aside0.mk (own_keep HR3.out (HR3.out.alloc (.cells #[] 33)) (HE0.out w23) (Nat.le_refl _) hf24); have HX4 := Aside0.mk (own_keep HO23.out (HO23.out.alloc (.cells #[] 33)) (HE0.out w23) (Nat.le_refl _) hf24); have HF24r : Aside0 (w23.heap.size ≤ w24.heap.size) := ⟨(by have h := hf24.size; rw [World.size_alloc] at h; omega)⟩; have HO24 := Aside0.mk ho24; have HF24 := Aside0.mk ((HF23.out.alloc (.cells #[] 33)).trans hf24 (fun i hi hs => by have := (own_old (HE0.out w23) hs).1; have h2 := HFw.out.size; have h3 := HF23.out.size; omega)); clear ho24 hf24) | ((with_reducible refine gate_builtin (b := .append) (xs := #[.tmp 64, .tmp 65]) rfl ?_); at_builtin; refine app_evsA rfl (.tmp 64) (.tmp 65) rfl w23.heap.size _ (.slice A24 4 c24) ([] ++ headA) [byeE] w6.heap.size 1 1 4 5 rfl rfl (by omega) rfl rfl HO24.out HB4.out (by decide) (by have := HF24r.out; omega) ?_; intro A25 c25 w25 ho25 hf25; have HR5 := Aside0.mk (own_keep HR3.out HR4.out HO24.out (Nat.le_refl _) hf25); have HX5 := Aside0.mk (own_keep HO23.out HX4.out HO24.out (Nat.le_refl _) hf25); have HF25r : Aside0 (w23.heap.size ≤ w25.heap.size) := ⟨(Nat.le_trans HF24r.out hf25.size)⟩; have HO25 := Aside0.mk ho25; have HF25 := Aside0.mk (HF24.out.trans hf25 (fun i hi hs => by have := (own_old HO24.out hs).1; have h2 := HFw.out.size; have h3 := HF23.out.size; omega)); clear ho25 hf25) | ((with_reducible refine gate_builtin (b := .append) (xs := #[.tmp 66, .tmp 67]) rfl ?_); at_builtin; refine app_evsA rfl (.tmp 66) (.tmp 67) rfl w23.heap.size _ (.slice A25 5 c25) (([] ++ headA) ++ [byeE]) M g8 n c8 5 N HMN.out rfl HNN.out.symm rfl rfl HO25.out HR5.out (by show 5 + n ≤ 100000; omega) (by have := HF25r.out; omega) ?_; intro A26 c26 w26 ho26 hf26; have HX6 := Aside0.mk (own_keep HO23.out HX5.out HO25.out (Nat.le_refl _) hf26); have HF26r : Aside0 (w23.heap.size ≤ w26.heap.size) := ⟨(Nat.le_trans HF25r.out hf26.size)⟩; have HO26 := Aside0.mk ho26; have HF26 := Aside0.mk (HF25.out.trans hf26 (fun i hi hs => by have := (own_old HO25.out hs).1; have h2 := HFw.out.size; have h3 := HF23.out.size; omega)); clear ho26 hf26) | (go_at_call 20; (with_reducible refine (default_calls _).mono ?_); unfold cfV cfD; rintro e27 w27 ⟨rfl, hf27⟩; have HF27 := Aside0.mk (HF26.out.trans (Fr.of_below (S := nope) hf27) (fun _ _ h => h)); have HX7 := Aside0.mk ((Fr.of_below (S := nope) hf27).own HX6.out (fun _ _ h => h)); have HY7 := Aside0.mk ((Fr.of_below (S := nope) hf27).own HO26.out (fun _ _ h => h)); clear hf27) | (go_at_call 15; (with_reducible refine (HPX.out A23 c23 w27 _ HF27.out HX7.out).mono ?_); rintro e28 w28 ⟨p28, A28, c28, rfl, hf28, hr28⟩; have HF28 := Aside0.mk (HF27.out.trans hf28 (fun _ _ h => h)); have HY8 := Aside0.mk (hf28.own HY7.out (fun _ _ h => h)); have HT8 := Aside0.mk hr28; clear hf28 hr28) | (go_at_call 20; (with_reducible refine (default_calls _).mono ?_); unfold cfV cfD; rintro e29 w29 ⟨rfl, hf29⟩; have HF29 := Aside0.mk (HF28.out.trans (Fr.of_below (S := nope) hf29) (fun _ _ h => h)); have HY9 := Aside0.mk ((Fr.of_below (S := nope) hf29).own HY8.out (fun _ _ h => h)); have HT9 := Aside0.mk (HT8.out.fr (Fr.of_below (S := nope) hf29)); clear hf29) | (go_at_call 15; (with_reducible refine (HPY.out A26 c26 w29 _ HF29.out HY9.out).mono ?_); rintro e30 w30 ⟨p30, A30, c30, rfl, hf30, hr30⟩; have HF30 := Aside0.mk (HF29.out.trans hf30 (fun _ _ h => h)); have HT10 := Aside0.mk (HT9.out.fr hf30); have HU10 := Aside0.mk hr30; clear hf30 hr30))
      go_loopw [91] (fun v91 wq => ∃ (i : Nat), v91 = .int .i64 i ∧ i ≤ N ∧ Aside0 (Fr nope w30 wq)) (fun v91 _ => N - (intOf v91).toNat)
      case atStart => exact ⟨0, rfl, Nat.zero_le _, ⟨Fr.refl nope w30⟩⟩
      case round =>
        obtain ⟨i, rfl, hi, HFq⟩ := hrel
        by_cases hlt : i < N
        · obtain ⟨ad6, hA6, hc6⟩ := (HT10.out.fr HFq.out) (by rw [HTN.out]; omega)
          obtain ⟨ad9, hA9, hc9⟩ := (HU10.out.fr HFq.out) (by rw [HTN.out]; omega)
          obtain ⟨a0, a1⟩ := hc6 i (by rw [HTN.out]; exact hlt)
          obtain ⟨b0, b1⟩ := hc9 i (by rw [HTN.out]; exact hlt)
          subst hA6 hA9
          obtain ⟨x, hx⟩ : ∃ x, (T.getD i (0, [])).1 = x := ⟨_, rfl⟩
          obtain ⟨s, hs⟩ : ∃ s, strOfNums (T.getD i (0, [])).2 = s := ⟨_, rfl⟩
          rw [hx] at a0 b0
          rw [hs] at a1 b1
          have hii : (i : Int) < (N : Int) := by omega
          have hi0 : (0 : Int) ≤ (i : Int) := by omega
          have hw2 : IntKind.i64.wrap ((i : Int) + 1) = ((i + 1 : Nat) : Int) := by rw [IntKind.wrap_i64]; push_cast; omega
          have l6 := World.block_lt_of_cell? _ _ a0
          have l9 := World.block_lt_of_cell? _ _ b0
          clear hx hs hc6 hc9
          go_wp2
          go_quiet (fail)
          go_wp2
          refine ⟨⟨i + 1, ?_, by omega, ⟨HFq.out.drewN _⟩⟩, ?_⟩
          · first | rfl | (push_cast; rfl)
          · simp only [intOf]; omega
        · have hin : i = N := by omega
          subst hin
          go_wp2
          go_returns
          exact ⟨rfl, HF30.out.trans HFq.out (fun _ _ h => h)⟩
end Go.Proofs.YtfkamoiamebngaaGreatDoor.BroW

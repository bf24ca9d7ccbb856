/- The floor stays in order. Plain. -/
import Derived.Test.YtfkamoiamebngaaGreatDoorM14
namespace Go.Proofs.YtfkamoiamebngaaGreatDoor.Mod
open Go.RowKit Go.Proofs.YtfkamoiamebngaaGreatDoorW.PrintWords Go.Proofs.YtfkamoiamebngaaGreatDoor.ScrP Go.Proofs.YtfkamoiamebngaaGreatDoor.LexP Go.Proofs.YtfkamoiamebngaaGreatDoor.BroW
set_option linter.unusedVariables false

theorem may_some {t : Tb} {id : Int} (h : t.may id = 0) : (t.roles id).isSome = true := by
  unfold Tb.may at h
  cases hr : t.roles id with
  | none => rw [hr] at h; cases h
  | some r => rfl
theorem TbOK.ask {t : Tb} {op : Int → Bool} (h : TbOK t op) (id : Int) : TbOK (t.ask id).1 op := by
  unfold Tb.ask
  split
  · rename_i hm
    split
    · exact h
    · rename_i hc
      split
      · exact h.grant (may_some hm)
      · refine ⟨h.lease, h.left, h.role, ?_, fun x hx => ?_, h.hold⟩
        · show (t.queue ++ [id]).Nodup
          rw [List.nodup_append]
          refine ⟨h.nd, by simp, fun a ha b hb => ?_⟩
          rw [List.mem_singleton] at hb
          subst hb
          intro e
          subst e
          exact hc (by simpa using ha)
        · rcases List.mem_append.1 hx with h1 | h1
          · exact h.qr x h1
          · rw [List.mem_singleton] at h1
            subst h1
            exact may_some hm
  · exact h
theorem TbOK.drop {t : Tb} {op : Int → Bool} (h : TbOK t op) (id : Int) : TbOK (t.drop id).1 op := by
  unfold Tb.drop
  split
  · split
    · exact h.lose id
    · exact h
  · exact h
theorem TbOK.give {t : Tb} {op : Int → Bool} (h : TbOK t op) (id : Int) : TbOK (t.give id).1 op := by
  unfold Tb.give
  split
  · rename_i hm; exact h.grant (may_some hm)
  · exact h
theorem TbOK.revoke {t : Tb} {op : Int → Bool} (h : TbOK t op) : TbOK t.revoke.1 op := by
  unfold Tb.revoke
  split
  · exact h
  · exact h.pass
theorem TbOK.tick {t : Tb} {op : Int → Bool} (h : TbOK t op) : TbOK t.tick op := by
  have hl := h.lease
  have hf := h.left
  unfold Tb.tick
  split
  · exact h
  · split
    · rename_i h0
      exact ⟨h.lease, ⟨by show 0 ≤ t.left - 1; omega, by show t.left - 1 ≤ t.lease; omega⟩, h.role, h.nd, h.qr, h.hold⟩
    · have h2 : TbOK { t with left := t.lease } op := ⟨h.lease, ⟨by show 0 ≤ t.lease; omega, Int.le_refl _⟩, h.role, h.nd, h.qr, h.hold⟩
      split
      · exact h2
      · exact h2.pass
theorem TbOK.set {t : Tb} {op : Int → Bool} (h : TbOK t op) {id r : Int} (h0 : 0 ≤ r ∧ r ≤ 2) (ho : op id = true) : TbOK (t.setR id (some r)) op := by
  have hs : ∀ x, (t.roles x).isSome = true → ((t.setR id (some r)).roles x).isSome = true := fun x hx => by
    unfold Tb.setR
    by_cases e : x = id
    · simp [e]
    · simp only [if_neg e]; exact hx
  refine ⟨h.lease, h.left, fun j q hq => ?_, h.nd, fun x hx => hs x (h.qr x hx), h.hold.imp (fun e => e) (fun e => hs _ e)⟩
  unfold Tb.setR at hq
  by_cases e : j = id
  · simp only [if_pos e, Option.some.injEq] at hq
    subst hq; subst e
    exact ⟨h0.1, h0.2, ho⟩
  · simp only [if_neg e] at hq
    exact h.role j q hq
theorem TbOK.setRole {t : Tb} {op : Int → Bool} (h : TbOK t op) {id r : Int} (h0 : 0 ≤ r ∧ r ≤ 2) (ho : op id = true) : TbOK (t.setRole id r).1 op := by
  unfold Tb.setRole
  split
  · exact h
  · split
    · exact (h.set h0 ho).lose id
    · exact h.set h0 ho
theorem TbOK.join {t : Tb} {op : Int → Bool} (h : TbOK t op) {id r : Int} (h0 : 0 ≤ r ∧ r ≤ 2) (ho : op id = true) : TbOK (t.join id r) op := by
  unfold Tb.join
  split
  · exact h
  · exact h.set h0 ho
theorem WF.tb' {S : St} (h : WF S) {t : Tb} (ht : TbOK t (isOpen S)) : WF { S with tb := t } := ⟨h.cf, h.con, ht, h.inp, h.log, h.told, h.code, h.str⟩
theorem sameC_tb (S : St) (t : Tb) : SameC S { S with tb := t } := ⟨fun _ => rfl, rfl, rfl, fun _ h => h⟩
theorem shut_ok {S : St} (h : WF S) (i why : Int) : WF (shut S i why) ∧ SameC S (shut S i why) := by
  unfold shut
  have h1 := sendW_ok leave_ok h (nOpen_le S) i ⟨13, why, 0, strL []⟩
  simp only
  split
  · exact h1
  · exact ⟨leave_ok.wf _ i h1.1 (nOpen_le _), h1.2.trans (leave_ok.same _ i h1.1 (nOpen_le _))⟩
theorem toOther_ok {S : St} (h : WF S) (k n : Int) : WF (toOther S k n).1 ∧ SameC S (toOther S k n).1 := by
  unfold toOther
  split
  · rename_i hu
    have ho : isOpen S n = true := by unfold userM at hu; exact (Bool.and_eq_true_iff.1 hu).2
    split
    · exact ⟨h.tb' (h.tb.give n), sameC_tb S _⟩
    · split
      · exact shut_ok h n 5
      · split
        · exact ⟨h.tb' (h.tb.setRole (by omega) ho), sameC_tb S _⟩
        · exact ⟨h.tb' (h.tb.setRole (by omega) ho), sameC_tb S _⟩
  · exact ⟨h, SameC.refl S⟩
end Go.Proofs.YtfkamoiamebngaaGreatDoor.Mod

/- What each event keeps. Plain. -/
namespace Go.Proofs.YtfkamoiamebngaaGreatDoor.Mod
open Go.RowKit Go.Proofs.YtfkamoiamebngaaGreatDoorW.PrintWords Go.Proofs.YtfkamoiamebngaaGreatDoor.ScrP Go.Proofs.YtfkamoiamebngaaGreatDoor.LexP Go.Proofs.YtfkamoiamebngaaGreatDoor.BroW
set_option linter.unusedVariables false

/-- kept in order, with the same conf and the same output -/
def Keep (S S' : St) : Prop := WF S' ∧ S'.cf = S.cf ∧ S'.log = S.log
theorem Keep.of {S S' : St} (h : WF S' ∧ SameC S S') : Keep S S' := ⟨h.1, h.2.2.1, h.2.2.2.1⟩
theorem Keep.trans {A B C : St} (h : Keep A B) (k : Keep B C) : Keep A C := ⟨k.1, k.2.1.trans h.2.1, k.2.2.trans h.2.2⟩
theorem Keep.refl {S : St} (h : WF S) : Keep S S := ⟨h, rfl, rfl⟩
theorem k_send {S : St} (h : WF S) (i : Int) (m : Mg) : Keep S (send S i m) := Keep.of (sendW_ok leave_ok h (nOpen_le S) i m)
theorem k_tell {S : St} (h : WF S) (m : Mg) : Keep S (tell S m) := Keep.of (tellW_ok leave_ok h (nOpen_le S) m)
theorem k_leave {S : St} (h : WF S) (i : Int) : Keep S (leave S i) := Keep.of ⟨leave_ok.wf S i h (nOpen_le S), leave_ok.same S i h (nOpen_le S)⟩
theorem k_shut {S : St} (h : WF S) (i why : Int) : Keep S (shut S i why) := Keep.of (shut_ok h i why)
theorem k_turned {S : St} (h : WF S) : Keep S (turned S) := Keep.of (turned_wf h)
theorem k_fold {f : St → Int → St} (hf : ∀ S i, WF S → Keep S (f S i)) (l : List Int) : ∀ S, WF S → Keep S (l.foldl f S) := by
  induction l with
  | nil => intro S h; exact Keep.refl h
  | cons a l ih => intro S h; exact (hf S a h).trans (ih _ (hf S a h).1)

/-! ### views -/
theorem lineGo_le (al : List Int) (b f off : Nat) : lineGo al b f off ≤ al.length := by
  induction f generalizing off with
  | zero => exact Nat.le_refl _
  | succ f ih =>
    unfold lineGo
    split
    · split
      · omega
      · exact ih _
    · exact Nat.le_refl _
theorem startM_le (al : List Int) (n back : Int) (l : Bool) : startM al n back l ≤ al.length := by
  unfold startM
  simp only
  split
  · unfold lineM; exact lineGo_le _ _ _ _
  · unfold rbaseM; omega

/-! ### hello -/
theorem WF.setOpen {S : St} (h : WF S) {i : Int} {c : Cn} (hc : S.cn i = some c) {nm : ByteArray} (hn : nm.size ≤ 2048) {v : Vw} (hv : v.at_ ≤ S.log.length ∧ 0 ≤ v.sk ∧ v.sk ≤ 100) : WF (S.setc i (some { c with st := 1, name := nm, vw := some v })) :=
  have hk := (h.con i c hc).2.2
  h.setc hc ⟨.inr (.inl rfl), hn, hk.fb, hk.lx, hk.out, fun v' e => by cases e; exact hv, fun _ => rfl⟩ (fun _ => rfl)
theorem roleFor_b (S : St) (w : Bool) : 0 ≤ roleFor S w ∧ roleFor S w ≤ 2 := by
  unfold roleFor
  split
  · omega
  · split <;> omega
theorem hello_ok {S : St} (h : WF S) {id : Int} {m : Mg} (hm : m.t.size ≤ 2048) : Keep S (helloM S id m) := by
  unfold helloM
  split
  · split
    · split
      · simp only
        have h1 := k_tell h (note ([106, 111, 105, 110, 101, 100, 32] ++ dig id ++ [32] ++ m.t.data.toList))
        generalize tell S (note ([106, 111, 105, 110, 101, 100, 32] ++ dig id ++ [32] ++ m.t.data.toList)) = S1 at h1
        split
        · exact h1
        · rename_i c hc
          have h2 := h1.1.setOpen hc hm (v := ⟨startM S1.log S1.cf.a0 m.b (decide (m.a % 4 / 2 = 1)), 0⟩) ⟨startM_le _ _ _ _, Int.le_refl _, by show (0 : Int) ≤ 100; omega⟩
          have ho : isOpen (S1.setc id (some { c with st := 1, name := m.t, vw := some ⟨startM S1.log S1.cf.a0 m.b (decide (m.a % 4 / 2 = 1)), 0⟩ })) id = true := by unfold isOpen St.setc; simp
          have k2 : Keep S1 (S1.setc id (some { c with st := 1, name := m.t, vw := some ⟨startM S1.log S1.cf.a0 m.b (decide (m.a % 4 / 2 = 1)), 0⟩ })) := ⟨h2, rfl, rfl⟩
          generalize (S1.setc id (some { c with st := 1, name := m.t, vw := some ⟨startM S1.log S1.cf.a0 m.b (decide (m.a % 4 / 2 = 1)), 0⟩ })) = S2 at h2 ho k2
          have h3 := h2.tb' (h2.tb.join (id := id) (roleFor_b S2 (decide (m.a % 2 = 1))) ho)
          have k3 : Keep S2 { S2 with tb := S2.tb.join id (roleFor S2 (decide (m.a % 2 = 1))) } := ⟨h3, rfl, rfl⟩
          have k4 := k_send h3 id ⟨5, id, startM S1.log S1.cf.a0 m.b (decide (m.a % 4 / 2 = 1)), strL (wordR (roleFor S2 (decide (m.a % 2 = 1))))⟩
          generalize send _ id ⟨5, id, startM S1.log S1.cf.a0 m.b (decide (m.a % 4 / 2 = 1)), strL (wordR (roleFor S2 (decide (m.a % 2 = 1))))⟩ = S4 at k4
          have k5 := k_send k4.1 id ⟨9, S4.told, 0, strL []⟩
          generalize send S4 id ⟨9, S4.told, 0, strL []⟩ = S5 at k5
          have kk := (((h1.trans k2).trans k3).trans k4).trans k5
          split
          · exact kk.trans (k_send kk.1 _ _)
          · exact kk
      · exact k_shut h id 3
    · exact k_shut h id 2
  · exact k_shut h id 4

/-! ### commands -/
theorem list_ok {S : St} (h : WF S) (id : Int) : Keep S (listM S id) := by
  unfold listM
  exact k_fold (fun S u h => k_send h id _) _ S h
theorem k_tb {S : St} (h : WF S) {t : Tb} (ht : TbOK t (isOpen S)) : Keep S { S with tb := t } := ⟨h.tb' ht, rfl, rfl⟩
theorem again_ok {S : St} (h : WF S) {i : Int} {c : Cn} (hc : S.cn i = some c) (n : Int) : Keep S (S.setc i (some { c with vw := c.vw.map fun v => ⟨startM S.log S.cf.a0 n false, v.sk⟩ })) := by
  have hk := (h.con i c hc).2.2
  refine ⟨h.setc hc ⟨hk.st, hk.name, hk.fb, hk.lx, hk.out, fun v e => ?_, fun e => ?_⟩ (fun e => e), rfl, rfl⟩
  · cases hv : c.vw with
    | none => simp [hv] at e
    | some v1 =>
      simp [hv] at e
      subst e
      have := hk.vw v1 hv
      exact ⟨startM_le S.log S.cf.a0 n false, this.2.1, this.2.2⟩
  · have := hk.op e
    simpa using this
theorem does_ok {S : St} (h : WF S) (id k n : Int) (hn : 0 ≤ n) : Keep S (doesM S id k n).1 := by
  unfold doesM
  split
  · exact Keep.refl h
  split
  · exact k_tb h (h.tb.ask id)
  split
  · exact k_tb h (h.tb.drop id)
  split
  · exact list_ok h id
  split
  · exact k_shut h id 0
  split
  · exact k_tb h h.tb.revoke
  split
  · split
    · exact Keep.refl h
    · rename_i c hc; exact again_ok h hc n
  split
  · split
    · exact Keep.refl h
    · exact ⟨⟨h.cf, h.con, h.tb, h.inp, h.log, h.told, h.code, by show 0 ≤ n ∧ n ≤ 9; omega⟩, rfl, rfl⟩
  · exact Keep.of (toOther_ok h k n)
theorem parseO_ord {s : ByteArray} {k n : Int} (h : parseO s = some (k, n)) : ordB k n = true := by
  unfold parseO at h
  simp only at h
  split at h
  · cases h
  · split at h
    · cases h
    · rename_i v hv hne
      split at h
      · rename_i he
        simp only [Option.some.injEq, Prod.mk.injEq] at h
        rw [h.1, h.2] at he
        cases hb : ordB k n with
        | true => rfl
        | false =>
          unfold ordStr at he
          rw [hb] at he
          exact absurd he.symm hne
      · cases h
theorem ordB_n {k n : Int} (h : ordB k n = true) : 0 ≤ n := by
  unfold ordB at h
  simp at h
  omega
theorem line1_ok {S : St} (h : WF S) (id : Int) (s : ByteArray) : Keep S (lineM1 S id s) := by
  unfold lineM1
  split
  · have h1 := k_send h id ⟨11, 0, 0, s⟩
    exact h1.trans (k_turned h1.1)
  · rename_i k n hp
    have h1 := does_ok h id k n (ordB_n (parseO_ord hp))
    simp only
    split
    · exact h1.trans (k_turned h1.1)
    · have h2 := h1.trans (k_send h1.1 id ⟨11, 0, 0, s⟩)
      exact h2.trans (k_turned h2.1)
theorem lines_ok (l : List ByteArray) : ∀ S id, WF S → Keep S (linesM l S id) := by
  induction l with
  | nil => intro S id h; exact Keep.refl h
  | cons s l ih =>
    intro S id h
    show Keep S (if S.stOf id = 1 then linesM l (lineM1 S id s) id else S)
    split
    · have h1 := line1_ok h id s
      exact h1.trans (ih _ id h1.1)
    · exact Keep.refl h
theorem offer_ok {S : St} (h : WF S) (id : Int) (keys : List Int) (seq : Int) : Keep S (offerM S id keys seq) := by
  unfold offerM
  split
  · exact Keep.refl h
  split
  · rename_i hw
    refine ⟨⟨h.cf, h.con, h.tb, ?_, h.log, h.told, h.code, h.str⟩, rfl, rfl⟩
    show ((S.inp ++ keys).length : Int) ≤ S.cf.a3
    unfold inqWhy at hw
    split at hw
    · cases hw
    · split at hw
      · cases hw
      · split at hw
        · cases hw
        · split at hw
          · split at hw
            · cases hw
            · rw [List.length_append]; omega
          · cases hw
  · exact k_send h id _
theorem lexStep_isB (s : LexS) (c : Int) (h : isB s.text) (hc : 0 ≤ c ∧ c ≤ 255) : isB (lexStep s c).1.text := by
  unfold lexStep
  repeat' split
  all_goals (try exact h)
  all_goals (try (intro x hx; cases hx))
  all_goals
    intro x hx
    rcases List.mem_append.1 hx with hx | hx
    · exact h x hx
    · rw [List.mem_singleton.1 hx]; exact hc
theorem lexAll_isB (l : List Int) : ∀ s, isB s.text → isB l → isB (lexAll s l).1.text := by
  induction l with
  | nil => intro s h _; exact h
  | cons c cs ih => intro s h hl; exact ih _ (lexStep_isB s c h (hl c (List.mem_cons_self ..))) (fun x hx => hl x (List.mem_cons_of_mem _ hx))
theorem lexStep_st3 (s : LexS) (c : Int) (h : s.st = 0 ∨ s.st = 1 ∨ s.st = 2) : (lexStep s c).1.st = 0 ∨ (lexStep s c).1.st = 1 ∨ (lexStep s c).1.st = 2 := by
  unfold lexStep
  repeat' split
  all_goals (first | (simp; done) | exact h)
theorem lexAll_st3 (l : List Int) : ∀ s : LexS, (s.st = 0 ∨ s.st = 1 ∨ s.st = 2) → ((lexAll s l).1.st = 0 ∨ (lexAll s l).1.st = 1 ∨ (lexAll s l).1.st = 2) := by
  induction l with
  | nil => intro s h; exact h
  | cons c cs ih => intro s h; exact ih _ (lexStep_st3 s c h)
theorem lex_ok {S : St} (h : WF S) {id : Int} {c : Cn} (hc : S.cn id = some c) {l : List Int} (hl : isB l) : Keep S (S.setc id (some { c with lx := (lexAll c.lx l).1 })) := by
  have hk := (h.con id c hc).2.2
  exact ⟨h.setc hc ⟨hk.st, hk.name, hk.fb, ⟨lexAll_st3 _ _ hk.lx.1, lexAll_text _ _ hk.lx.2.1, lexAll_isB _ _ hk.lx.2.2 hl⟩, hk.out, hk.vw, hk.op⟩ (fun e => e), rfl, rfl⟩
theorem bytesOf_isB' (s : ByteArray) : isB (bytesOf s) := by
  intro x hx
  unfold bytesOf at hx
  obtain ⟨y, _, rfl⟩ := List.mem_map.1 hx
  have := UInt8.toNat_lt y
  exact ⟨by omega, by omega⟩
theorem keys_ok {S : St} (h : WF S) (id : Int) (m : Mg) : Keep S (keysM S id m) := by
  unfold keysM
  split
  · exact Keep.refl h
  · rename_i c hc
    simp only
    have h1 := lex_ok h hc (bytesOf_isB' m.t)
    have h2 := h1.trans (offer_ok h1.1 id (lexAll c.lx (bytesOf m.t)).2.1 m.a)
    exact h2.trans (lines_ok _ _ id h2.1)
theorem mOf_ok {f : Frm} (h : (mOf f).2 = true) : mgB (mOf f).1 = true := by
  unfold mOf at *
  split at h
  · cases h
  · rename_i hx
    rw [if_neg hx]
    simp only at h ⊢
    obtain ⟨m, hm⟩ : ∃ m : Mg, m = ⟨f.1, if 0 < shN f.1 then rdN (f.2.take 6) else 0, if 1 < shN f.1 then rdN ((f.2.take 12).drop 6) else 0, strOfNums (f.2.drop (6 * shN f.1).toNat)⟩ := ⟨_, rfl⟩
    rw [← hm] at h ⊢
    by_cases hb : mgB m = true
    · rw [if_pos hb]; exact hb
    · rw [if_neg hb] at h; cases h
theorem mgB_size {m : Mg} (h : mgB m = true) : m.t.size ≤ 2042 := by
  have := shT_b m.k
  have h2 : (m.t.size : Int) ≤ shT m.k := by
    unfold mgB at h
    simp at h
    omega
  omega
theorem message_ok {S : St} (h : WF S) (id : Int) (f : Frm) : Keep S (messageM S id f) := by
  unfold messageM
  simp only
  split
  · exact k_shut h id 4
  · rename_i hr
    have hm := mOf_ok (f := f) (by simpa using hr)
    split
    · exact hello_ok h (by have := mgB_size hm; omega)
    split
    · exact keys_ok h id _
    split
    · exact k_send h id _
    split
    · exact k_shut h id 0
    · exact k_shut h id 4

/-! ### pump, sweep -/
theorem next_ok (v : Vw) (al : List Int) (n room most str : Int) (h : v.at_ ≤ al.length ∧ 0 ≤ v.sk ∧ v.sk ≤ 100) (hs : str ≤ 9) : (v.next al n room most str).1.at_ ≤ al.length ∧ 0 ≤ (v.next al n room most str).1.sk ∧ (v.next al n room most str).1.sk ≤ 100 := by
  unfold Vw.next
  split
  · simp only
    split
    · exact h
    · exact ⟨by show rbaseM al n ≤ al.length; unfold rbaseM; omega, by show 0 ≤ v.sk + 1; omega, by show v.sk + 1 ≤ 100; omega⟩
  · simp only
    split
    · exact h
    · refine ⟨?_, h.2⟩
      show v.at_ + List.length _ ≤ al.length
      rw [List.length_take, List.length_drop]
      omega
theorem pumpC_ok (f : Nat) : ∀ S id, WF S → Keep S (pumpC f S id) := by
  induction f with
  | zero => intro S id h; exact Keep.refl h
  | succ f ih =>
    intro S id h
    unfold pumpC
    split
    · exact Keep.refl h
    · rename_i c hc
      split
      · exact Keep.refl h
      · rename_i v hv
        split
        · simp only
          split
          · have hk := (h.con id c hc).2.2
            have hn := next_ok v S.log S.cf.a0 (S.cf.a2 - c.out.length - 200) S.cf.a1 S.strikes (hk.vw v hv) h.str.2
            generalize v.next S.log S.cf.a0 (S.cf.a2 - c.out.length - 200) S.cf.a1 S.strikes = r at hn
            have h1 : Keep S (S.setc id (some { c with vw := some r.1, out := if ((mB r.2.1).length + c.out.length : Int) ≤ S.cf.a2 then c.out ++ mB r.2.1 else c.out })) := by
              refine ⟨h.setc hc ⟨hk.st, hk.name, hk.fb, hk.lx, ?_, fun v' e => by cases e; exact hn, fun _ => rfl⟩ (fun e => e), rfl, rfl⟩
              show (List.length (if ((mB r.2.1).length + c.out.length : Int) ≤ S.cf.a2 then c.out ++ mB r.2.1 else c.out) : Int) ≤ S.cf.a2
              split
              · rw [List.length_append]; push_cast; omega
              · exact hk.out
            generalize S.setc id (some { c with vw := some r.1, out := if ((mB r.2.1).length + c.out.length : Int) ≤ S.cf.a2 then c.out ++ mB r.2.1 else c.out }) = S1 at h1
            have h2 : Keep S (if r.2.1.k = 12 then leave S1 id else S1) := by
              split
              · exact h1.trans (k_leave h1.1 id)
              · exact h1
            exact h2.trans (ih _ id h2.1)
          · exact Keep.refl h
        · exact Keep.refl h
theorem pump_ok {S : St} (h : WF S) : Keep S (pump S) := by
  unfold pump
  refine k_fold (fun S id h => ?_) _ S h
  unfold pumpOne
  split
  · exact pumpC_ok _ S id h
  · exact Keep.refl h
theorem isOpen_some {S : St} {i : Int} (h : isOpen S i = true) : ∃ c, S.cn i = some c ∧ c.st = 1 := by
  unfold isOpen at h
  cases hc : S.cn i with
  | none => rw [hc] at h; cases h
  | some c => rw [hc] at h; exact ⟨c, rfl, by simpa using h⟩
/-- connections that are not open go -/
theorem WF.less {S : St} (h : WF S) {cn : Int → Option Cn} (hl : ∀ i c, cn i = some c → S.cn i = some c) (ho : ∀ i c, S.cn i = some c → c.st = 1 → cn i = some c) : WF { S with cn := cn } := by
  refine ⟨h.cf, fun i c hc => h.con i c (hl i c hc), ?_, h.inp, h.log, h.told, h.code, h.str⟩
  refine ⟨h.tb.lease, h.tb.left, fun j r hr => ?_, h.tb.nd, h.tb.qr, h.tb.hold⟩
  have := h.tb.role j r hr
  refine ⟨this.1, this.2.1, ?_⟩
  obtain ⟨c, hc, hs⟩ := isOpen_some this.2.2
  show (match cn j with
    | some c => c.st == 1
    | none => false) = true
  rw [ho j c hc hs]
  simp [hs]
theorem sweep_ok {S : St} (h : WF S) : Keep S (sweep S) := by
  unfold sweep
  refine ⟨h.less (fun i c hc => ?_) (fun i c hc hs => ?_), rfl, rfl⟩
  · cases hd : S.cn i with
    | none => simp [hd] at hc
    | some d =>
      simp only [hd] at hc
      split at hc
      · cases hc
      · exact hc
  · simp only [hc]
    rw [if_neg (by rw [hs]; omega)]
theorem settle_ok {S : St} (h : WF S) : Keep S (settle S) := by
  unfold settle
  have h1 := k_turned h
  have h2 := h1.trans (pump_ok h1.1)
  have h3 := h2.trans (k_turned h2.1)
  exact h3.trans (sweep_ok h3.1)

/-! ### the events -/
theorem cn_new_ok (q : Int) (hq : 0 ≤ q) (n : Nat) : CnOK q n cnNew :=
  ⟨.inl rfl, Nat.zero_le _, ⟨Nat.zero_le _, fun _ h => by cases h⟩, ⟨.inl rfl, Nat.zero_le _, fun _ h => by cases h⟩, hq, fun _ e => (by cases e), fun e => (by cases e)⟩
theorem cf_b {S : St} (h : WF S) : 1 ≤ S.cf.a0 ∧ S.cf.a0 ≤ 65536 ∧ 1 ≤ S.cf.a1 ∧ S.cf.a1 ≤ 2042 ∧ 220 ≤ S.cf.a2 ∧ S.cf.a2 ≤ 65536 ∧ 1 ≤ S.cf.a3 ∧ S.cf.a3 ≤ 65536 ∧ 0 ≤ S.cf.a4 ∧ S.cf.a4 ≤ 9 ∧ 1 ≤ S.cf.a5 ∧ S.cf.a5 ≤ 1000 ∧ 0 ≤ S.cf.a6 ∧ S.cf.a6 ≤ 1000 ∧ 1 ≤ S.cf.a7 ∧ S.cf.a7 ≤ 500 := by
  have := h.cf
  unfold cfB at this
  simp at this
  omega
theorem connect_ok {S : St} (h : WF S) (id : Int) : Keep S (connectM S id).1 := by
  unfold connectM
  split
  · exact Keep.refl h
  split
  · exact Keep.refl h
  · rename_i h1 h2
    have hb := cf_b h
    have hnone : S.cn id = none := by simpa using h2
    refine ⟨⟨h.cf, fun i c hc => ?_, ?_, h.inp, h.log, h.told, h.code, h.str⟩, rfl, rfl⟩
    · unfold St.setc at hc
      by_cases e : i = id
      · simp only [if_pos e, Option.some.injEq] at hc
        subst hc
        exact ⟨by omega, by omega, cn_new_ok _ (by show 0 ≤ S.cf.a2; omega) _⟩
      · simp only [if_neg e] at hc
        exact h.con i c hc
    · refine ⟨h.tb.lease, h.tb.left, fun j r hr => ?_, h.tb.nd, h.tb.qr, h.tb.hold⟩
      have := h.tb.role j r hr
      refine ⟨this.1, this.2.1, ?_⟩
      obtain ⟨c, hc, hs⟩ := isOpen_some this.2.2
      unfold isOpen St.setc
      have : j ≠ id := fun e => by rw [e, hnone] at hc; cases hc
      simp [if_neg this, hc, hs]
theorem frames_ok (l : List Frm) : ∀ S id, WF S → Keep S (framesM l S id) := by
  induction l with
  | nil => intro S id h; exact Keep.refl h
  | cons f l ih =>
    intro S id h
    show Keep S (framesM l (if S.stOf id = 2 then S else turned (messageM S id f)) id)
    have h1 : Keep S (if S.stOf id = 2 then S else turned (messageM S id f)) := by
      split
      · exact Keep.refl h
      · have := message_ok h id f
        exact this.trans (k_turned this.1)
    exact h1.trans (ih _ id h1.1)
theorem getB_short_len (bs : List Int) (hb : isB bs) (h : (getB bs).2.2 = 5) : bs.length ≤ 2053 := by
  unfold getB at h
  split at h
  · omega
  · simp only at h
    split at h
    · cases h
    · split at h
      · omega
      · split at h <;> cases h
theorem feedGo_ok2 (f : Nat) : ∀ b, isB b → b.length < f → (feedGo f b).2.1.length ≤ 2060 ∧ isB (feedGo f b).2.1 := by
  induction f with
  | zero => intro b _ h; omega
  | succ f ih =>
    intro b hb hl
    unfold feedGo
    simp only
    split
    · rename_i h0
      have hpos : 0 < (getB b).2.1 ∧ (getB b).2.1 ≤ b.length := by
        have hnb : ¬ b.length < 2 := fun h => by unfold getB at h0; rw [if_pos h] at h0; cases h0
        unfold getB at h0 ⊢
        rw [if_neg hnb] at h0 ⊢
        simp only at h0 ⊢
        split at h0
        · cases h0
        · rename_i e1
          rw [if_neg e1]
          split at h0
          · cases h0
          · rename_i e2
            rw [if_neg e2]
            split at h0
            · rename_i e3
              rw [if_pos e3]
              simp only
              omega
            · cases h0
      refine ih _ (fun x hx => hb x (List.mem_of_mem_drop hx)) ?_
      rw [List.length_drop]; omega
    · split
      · rename_i h5
        exact ⟨by have := getB_short_len b hb h5; show b.length ≤ 2060; omega, hb⟩
      · exact ⟨Nat.zero_le _, fun _ h => by cases h⟩
theorem feedPush_ok (fb : List Int) (fe : Int) (bs : List Int) (h : fb.length ≤ 2060 ∧ isB fb) (hb : isB bs) : (feedPush fb fe bs).2.1.length ≤ 2060 ∧ isB (feedPush fb fe bs).2.1 := by
  unfold feedPush
  split
  · refine feedGo_ok2 _ _ (fun x hx => ?_) (by omega)
    rcases List.mem_append.1 hx with hx | hx
    · exact h.2 x hx
    · exact hb x hx
  · exact h
theorem feed_ok {S : St} (h : WF S) {id : Int} {c : Cn} (hc : S.cn id = some c) {data : List Int} (hd : isB data) (t : Int) :
    Keep S (S.setc id (some { c with idle := t, fb := (feedPush c.fb c.fe data).2.1, fe := (feedPush c.fb c.fe data).2.2 })) := by
  have hk := (h.con id c hc).2.2
  exact ⟨h.setc hc ⟨hk.st, hk.name, feedPush_ok _ _ _ hk.fb hd, hk.lx, hk.out, hk.vw, hk.op⟩ (fun e => e), rfl, rfl⟩
theorem bytes_ok {S : St} (h : WF S) (id : Int) {data : List Int} (hd : isB data) : Keep S (bytesM S id data).1 := by
  unfold bytesM
  split
  · exact Keep.refl h
  · rename_i c hc
    split
    · exact Keep.refl h
    · simp only
      have h1 := feed_ok h hc hd (if data = [] then c.idle else 0)
      have h2 := h1.trans (frames_ok (feedPush c.fb c.fe data).1 _ id h1.1)
      generalize framesM (feedPush c.fb c.fe data).1 (S.setc id (some { c with idle := if data = [] then c.idle else 0, fb := (feedPush c.fb c.fe data).2.1, fe := (feedPush c.fb c.fe data).2.2 })) id = S1 at h2
      have h3 : Keep S (if S1.stOf id = 2 ∨ (feedPush c.fb c.fe data).2.2 = 0 then S1 else shut S1 id 1) := by
        split
        · exact h2
        · exact h2.trans (k_shut h2.1 id 1)
      exact h3.trans (settle_ok h3.1)
theorem drop_ok {S : St} (h : WF S) {id : Int} {c : Cn} (hc : S.cn id = some c) (n : Nat) : Keep S (S.setc id (some { c with out := c.out.drop n })) := by
  have hk := (h.con id c hc).2.2
  refine ⟨h.setc hc ⟨hk.st, hk.name, hk.fb, hk.lx, ?_, hk.vw, hk.op⟩ (fun e => e), rfl, rfl⟩
  show ((c.out.drop n).length : Int) ≤ S.cf.a2
  rw [List.length_drop]
  have := hk.out
  omega
theorem write_ok {S : St} (h : WF S) (id n : Int) : Keep S (writeM S id n).1 := by
  unfold writeM
  split
  · exact Keep.refl h
  · rename_i c hc
    have h1 := drop_ok h hc n.toNat
    exact h1.trans (settle_ok h1.1)
theorem drain_ok {S : St} (h : WF S) (n : Int) : Keep S (drainM S n).1 := by
  refine ⟨⟨h.cf, h.con, h.tb, ?_, h.log, h.told, h.code, h.str⟩, rfl, rfl⟩
  show ((S.inp.drop n.toNat).length : Int) ≤ S.cf.a3
  rw [List.length_drop]
  have := h.inp
  omega
theorem tick1_ok {S : St} (h : WF S) (id : Int) : Keep S (tickOne S id) := by
  unfold tickOne
  split
  · exact Keep.refl h
  · rename_i c hc
    have hk := (h.con id c hc).2.2
    have h1 : Keep S (S.setc id (some { c with idle := IntKind.i64.wrap (c.idle + 1) })) := ⟨h.setc hc ⟨hk.st, hk.name, hk.fb, hk.lx, hk.out, hk.vw, hk.op⟩ (fun e => e), rfl, rfl⟩
    simp only
    split
    · exact h1.trans (k_shut h1.1 id 6)
    · exact h1
theorem tick_ok {S : St} (h : WF S) : Keep S (tickM S) := by
  unfold tickM
  have h1 := k_tb h h.tb.tick
  have h2 := h1.trans (k_fold (fun S i h => tick1_ok h i) ids16 _ h1.1)
  exact h2.trans (settle_ok h2.1)
/-- who was let go is no user -/
theorem leave_shut (S : St) (h : WF S) (i : Int) : isOpen (leave S i) i = false := by
  cases hc : S.cn i with
  | none =>
    show isOpen (leaveF (16 + 1) S i) i = false
    rw [leaveF_none 16 hc]
    unfold isOpen; rw [hc]
  | some c =>
    by_cases hs : c.st = 1
    · show isOpen (leaveF (16 + 1) S i) i = false
      rw [leaveF_open 16 hc hs]
      have hn := nOpen_close h hc hs
      have h2 := tellW_ok (leaveF_ok 15) (h.close hc) (by have := nOpen_le S; omega) (note (leftL i))
      cases ho : isOpen (tellW (leaveF 16) { S.setc i (some { c with st := 2 }) with tb := S.tb.leave i } (note (leftL i))) i with
      | false => rfl
      | true =>
        have := h2.2.2.2.2 i ho
        unfold isOpen St.setc at this
        simp at this
    · show isOpen (leaveF (16 + 1) S i) i = false
      rw [leaveF_shut 16 hc hs]
      unfold isOpen St.setc
      simp
theorem del_ok {S : St} (h : WF S) {id : Int} (ho : isOpen S id = false) : Keep S (S.setc id none) := by
  refine ⟨h.less (fun i c hc => ?_) (fun i c hc hs => ?_), rfl, rfl⟩
  · by_cases e : i = id
    · simp [e] at hc
    · simpa [e] using hc
  · by_cases e : i = id
    · subst e
      unfold isOpen at ho
      rw [hc] at ho
      simp [hs] at ho
    · simpa [e] using hc
theorem cut_ok {S : St} (h : WF S) (id : Int) : Keep S (cutM S id).1 := by
  unfold cutM
  split
  · have h1 := k_leave h id
    have h2 := h1.trans (del_ok h1.1 (leave_shut S h id))
    exact h2.trans (settle_ok h2.1)
  · exact Keep.refl h
theorem end0_ok {S : St} (h : WF S) {code : Int} (hc : 0 ≤ code ∧ code ≤ 255) : Keep S { S with ended := true, code := code, inp := [], inE := true } :=
  ⟨⟨h.cf, h.con, h.tb, by have := cf_b h; show (0 : Int) ≤ S.cf.a3; omega, h.log, h.told, hc, h.str⟩, rfl, rfl⟩
theorem end_ok {S : St} (h : WF S) (code : Int) : Keep S (endM S code).1 := by
  unfold endM
  split
  · exact Keep.refl h
  split
  · exact Keep.refl h
  · have h1 := end0_ok h (code := code) (by omega)
    have h2 := h1.trans (k_tell h1.1 ⟨15, code, 0, strL []⟩)
    exact h2.trans (settle_ok h2.1)
theorem log_ok {S : St} (h : WF S) {data : List Int} (hl : S.log.length + data.length ≤ 8100) : WF { S with log := S.log ++ data } := by
  refine ⟨h.cf, fun i c hc => ?_, h.tb, h.inp, by show (S.log ++ data).length ≤ 8100; rw [List.length_append]; exact hl, h.told, h.code, h.str⟩
  have := h.con i c hc
  refine ⟨this.1, this.2.1, ?_⟩
  have hk := this.2.2
  refine ⟨hk.st, hk.name, hk.fb, hk.lx, hk.out, fun v hv => ?_, hk.op⟩
  have := hk.vw v hv
  refine ⟨?_, this.2⟩
  show v.at_ ≤ (S.log ++ data).length
  rw [List.length_append]; omega
theorem output_ok {S : St} (h : WF S) {data : List Int} (hl : S.log.length + data.length ≤ 8100) : WF (outputM S data).1 ∧ (outputM S data).1.cf = S.cf ∧ (outputM S data).1.log.length ≤ S.log.length + data.length := by
  unfold outputM
  split
  · exact ⟨h, rfl, by show S.log.length ≤ _; omega⟩
  · have h2 := settle_ok (log_ok h hl)
    refine ⟨h2.1, h2.2.1, ?_⟩
    rw [h2.2.2]
    show (S.log ++ data).length ≤ _
    rw [List.length_append]
    exact Nat.le_refl _
/-- how many bytes of output an event has -/
def outLen (e : Ev) : Nat := if e.k = 3 then e.d.size else 0
theorem step_ok {S : St} (h : WF S) (e : Ev) (hl : S.log.length + outLen e ≤ 8100) : WF (step S e).1 ∧ (step S e).1.cf = S.cf ∧ (step S e).1.log.length ≤ S.log.length + outLen e := by
  have kk : ∀ S', Keep S S' → WF S' ∧ S'.cf = S.cf ∧ S'.log.length ≤ S.log.length + outLen e := fun S' k => ⟨k.1, k.2.1, by rw [k.2.2]; omega⟩
  unfold step
  split
  · split
    · exact kk _ (connect_ok h e.i)
    split
    · exact kk _ (bytes_ok h e.i (bytesOf_isB' e.d))
    split
    · exact kk _ (write_ok h e.i e.n)
    split
    · rename_i h3
      have hb : (bytesOf e.d).length = outLen e := by unfold outLen bytesOf; rw [if_pos h3]; simp
      rw [← hb] at hl ⊢
      exact output_ok h hl
    split
    · exact kk _ (drain_ok h e.n)
    split
    · exact kk _ (tick_ok h)
    split
    · exact kk _ (cut_ok h e.i)
    · exact kk _ (end_ok h e.n)
  · exact kk _ (Keep.refl h)
theorem new_wf {c : Cf} (h : cfB c = true) : WF (stNew c) := by
  have hb : 1 ≤ c.a0 ∧ c.a0 ≤ 65536 ∧ 1 ≤ c.a1 ∧ c.a1 ≤ 2042 ∧ 220 ≤ c.a2 ∧ c.a2 ≤ 65536 ∧ 1 ≤ c.a3 ∧ c.a3 ≤ 65536 ∧ 0 ≤ c.a4 ∧ c.a4 ≤ 9 ∧ 1 ≤ c.a5 ∧ c.a5 ≤ 1000 ∧ 0 ≤ c.a6 ∧ c.a6 ≤ 1000 ∧ 1 ≤ c.a7 ∧ c.a7 ≤ 500 := by
    have := h
    unfold cfB at this
    simp at this
    omega
  exact ⟨h, fun i d hc => (by cases hc), ⟨by show 1 ≤ c.a5 ∧ c.a5 ≤ 1000; omega, by show 0 ≤ (0 : Int) ∧ (0 : Int) ≤ c.a5; omega, fun i r hr => (by cases hr), List.nodup_nil, fun x hx => (by cases hx), .inl rfl⟩, by show (0 : Int) ≤ c.a3; omega, Nat.zero_le _, by show (0 : Int) ≤ 0 ∧ (0 : Int) ≤ 16; omega, by show (0 : Int) ≤ 0 ∧ (0 : Int) ≤ 255; omega, by show 0 ≤ c.a4 ∧ c.a4 ≤ 9; omega⟩
def outSum (L : List Ev) : Nat := (L.map outLen).sum
theorem run_ok (L : List Ev) : ∀ S, WF S → S.log.length + outSum L ≤ 8100 → WF (run L S).1 ∧ (run L S).1.cf = S.cf ∧ (run L S).1.log.length ≤ S.log.length + outSum L ∧ (run L S).2.length = L.length := by
  induction L with
  | nil => intro S h _; exact ⟨h, rfl, by unfold outSum; simp [run], rfl⟩
  | cons e L ih =>
    intro S h hl
    have hs : outSum (e :: L) = outLen e + outSum L := by unfold outSum; simp
    have h1 := step_ok h e (by omega)
    have h2 := ih _ h1.1 (by omega)
    exact ⟨h2.1, h2.2.1.trans h1.2.1, by have := h2.2.2.1; show (run L (step S e).1).1.log.length ≤ _; omega, by simp [run, h2.2.2.2]⟩
end Go.Proofs.YtfkamoiamebngaaGreatDoor.Mod

/- broker: does. -/
namespace Go.Proofs.YtfkamoiamebngaaGreatDoor.BroW
open Go.RowKit Go.Proofs.YtfkamoiamebngaaGreatDoorW.PrintWords Go.Proofs.YtfkamoiamebngaaGreatDoorW.PrintMore Go.Proofs.YtfkamoiamebngaaGreatDoor.Fr Go.Proofs.YtfkamoiamebngaaGreatDoor.ScrW Go.Proofs.YtfkamoiamebngaaGreatDoor.ScrP Go.Proofs.YtfkamoiamebngaaGreatDoor.Mod
set_option linter.unusedVariables false
set_option linter.unusedSimpArgs false

theorem Rep.strk {w : World} {L : Lay} {o : Own} {S : St} (h : Rep w L o S) (x : Int) : Rep (w.setCell ⟨L.bg, 13, none⟩ (.int .i64 x)) L o { S with strikes := x } ∧ Step (fun t => t ≠ .no) w o (w.setCell ⟨L.bg, 13, none⟩ (.int .i64 x)) o := by
  have hf : Fr (only L.bg) w (w.setCell ⟨L.bg, 13, none⟩ (.int .i64 x)) := (Fr.refl (only L.bg) w).set (fun _ => rfl) 13 _
  have st : Step (fun t => t = .brk) w o (w.setCell ⟨L.bg, 13, none⟩ (.int .i64 x)) o := ⟨fun _ _ => rfl, fun b hb => h.fresh b (Nat.le_trans hf.size hb), hf.mono (fun b _ hb => by rw [show b = L.bg from hb]; exact h.brk.2)⟩
  exact ⟨h.brk' st x S.ended S.code S.told ⟨blk_set h.brk.1 13 _, h.brk.2⟩, st.mono (fun t ht => by rw [ht]; simp)⟩
theorem Rep.view {w w1 : World} {L : Lay} {o : Own} {S : St} (h : Rep w L o S) {i : Int} {g : Nat} (hg : L.cp i = some g) {c : Cn} {fg lg og gv : Nat} (p0 : PCb w o i g (conCells i c fg lg og (.pointer (some ⟨gv, 0, none⟩)))) (p1 : PFd w o i fg c.fb c.fe) (p2 : PLx w o i lg c.lx) (p3 : POu w o i og c.out S.cf.a2) (hgv : o gv = .con i 4) {x : Vw} (hv : IsV w1 gv x) (hf : Fr (only gv) w w1) :
    Rep w1 L o (S.setc i (some { c with vw := some x })) ∧ Step (fun t => t ≠ .no) w o w1 o := by
  have st : Step (fun t => t = .con i 4) w o w1 o := ⟨fun _ _ => rfl, fun b hb => h.fresh b (Nat.le_trans hf.size hb), hf.mono (fun b _ hb => by rw [show b = gv from hb]; exact hgv)⟩
  refine ⟨h.con' hg (st.mono (fun t ht => ⟨4, ht⟩)) ⟨fg, lg, og, .pointer (some ⟨gv, 0, none⟩), ?_, p1.ext st.loose (by simp), p2.ext st.loose (by simp), p3.ext st.loose (by simp), .inr ⟨gv, x, rfl, rfl, hv, hgv⟩⟩, st.mono (fun t ht => by rw [ht]; simp)⟩
  exact p0.ext st.loose (by simp)
theorem Rep.vwOf {w : World} {L : Lay} {o : Own} {S : St} (h : Rep w L o S) (hw : WF S) {i : Int} {g : Nat} (hg : L.cp i = some g) (hs : S.stOf i = 1) : ∃ c v fg lg og gv, S.cn i = some c ∧ c.st = 1 ∧ c.vw = some v ∧ PCb w o i g (conCells i c fg lg og (.pointer (some ⟨gv, 0, none⟩))) ∧ PFd w o i fg c.fb c.fe ∧ PLx w o i lg c.lx ∧ POu w o i og c.out S.cf.a2 ∧ IsV w gv v ∧ o gv = .con i 4 := by
  obtain ⟨c, hcn, fg, lg, og, vv, q0, q1, q2, q3, q4⟩ := h.cnOf hg
  have hst : c.st = 1 := by unfold St.stOf at hs; rw [hcn] at hs; exact hs
  obtain ⟨v, hv⟩ := Option.isSome_iff_exists.1 ((hw.con i c hcn).2.2.op hst)
  rcases q4 with ⟨e, _⟩ | ⟨gv, x, ex, evv, hV, hgv⟩
  · rw [hv] at e; cases e
  · rw [hv] at ex; cases ex
    subst evv
    exact ⟨c, v, fg, lg, og, gv, hcn, hst, hv, q0, q1, q2, q3, hV, hgv⟩
set_option maxRecDepth 100000 in
set_option maxHeartbeats 8000000 in
theorem does_calls (w : World) (L : Lay) (o : Own) (S : St) (i : Int) (g : Nat) (k n : Int) (h : Rep w L o S) (hw : WF S) (hg : L.cp i = some g) (hs : S.stOf i = 1) (hk : ordB k n = true) :
    Calls Tryz.prog 118 #[.pointer (some ⟨L.bg, 0, none⟩), .pointer (some ⟨g, 0, none⟩), .agg #[.int .i64 k, .int .i64 n]] w (QB L o w (doesM S i k n).1 (.bool (doesM S i k n).2)) := by
  obtain ⟨W0, hW0⟩ : ∃ W0, W0 = w.alloc (.cells #[.int .i64 k, .int .i64 n] 195) := ⟨_, rfl⟩
  have hf0 : Fr nope w W0 := by rw [hW0]; exact (Fr.refl nope w).alloc _
  have h0 := h.quiet hf0
  have HR0 := Aside0.mk h0
  have HR := Aside0.mk h
  have HF0 := Aside0.mk hf0
  have HW := Aside0.mk hw
  have HG := Aside0.mk hg
  have HSO := Aside0.mk hs
  have hd := h0.map.1.1 i (by simp [hg])
  have hiw := mpWf hd.1 hd.2
  have hO : W0.heap[w.heap.size]? = some (.cells #[.int .i64 k, .int .i64 n] 195 (0, 0)) := by rw [hW0]; exact blk_new w _
  have HO := Aside0.mk hO
  have HW0 := Aside0.mk hW0
  obtain ⟨mb, qv, hT, hgt, hmb, hqv⟩ := h0.tab
  have HT := Aside0.mk hT
  have HTG := Aside0.mk (And.intro hgt (And.intro hmb hqv))
  have hc1 := h0.tabK hg hgt hmb W0 (Fr.refl _ _)
  have c10 := hc1.1
  have cg0 := hc1.2
  have hbg0 := blk_lt h0.brk.1
  have hgg0 := (h0.stOf hg).2
  obtain ⟨p, hp⟩ : ∃ p, p = doesM S i k n := ⟨_, rfl⟩
  rw [← hp]
  unfold doesM at hp
  have hkn : 1 ≤ k ∧ k ≤ 11 ∧ 0 ≤ n ∧ n ≤ 1099511627776 := by
    unfold ordB at hk
    simp at hk
    omega
  obtain ⟨hk1, hk2, hn1, hn2⟩ := hkn
  clear h h0 hf0 hO hW0 hw hg hT hgt hmb hqv hc1 hk hs
  by_cases hden : ownK k = true ∧ S.tb.role i ≠ 2
  · rw [if_pos hden] at hp
    have HP := Aside0.mk hp
    have hown := hden.1
    have t2 : (S.tb.role i == 2) = false := beq_eq_false_iff_ne.2 hden.2
    have t3 : (S.tb.role i != 2) = true := by simp [bne, t2]
    clear hp hden
    go_enter Tryz.func118, Tryz.ntmps118
    go_wp2
    rw [← HW0.out]
    go_quiet (first | (go_at_call 44; exact Calls.quiet_of_same (trole_calls S.tb i L.gt mb qv _ (HT.out.fr ((Fr.refl nope W0).drewN _) (fun h => h) (fun h => h) (fun _ _ h => h)) hiw)))
    obtain ⟨W1, hW1⟩ : ∃ W1, W1 = W0.drewN nq := ⟨_, rfl⟩
    rw [← hW1]
    have hf1 : Fr nope W0 W1 := by rw [hW1]; exact (Fr.refl nope W0).drewN nq
    have HR1 := Aside0.mk (HR0.out.quiet hf1)
    have HST1 := Aside0.mk (HR.out.step (HF0.out.trans hf1 (fun _ _ h => h)))
    have hO1 := hf1.blk HO.out (fun h => h)
    have e0 : W1.cell? ⟨w.heap.size, 0, none⟩ = some (.int .i64 k) := (blk_cell hO1 0).trans rfl
    have e1 : W1.cell? ⟨w.heap.size, 1, none⟩ = some (.int .i64 n) := (blk_cell hO1 1).trans rfl
    have hol1 := blk_lt hO1
    have HT1 := Aside0.mk (HT.out.fr hf1 (fun h => h) (fun h => h) (fun _ _ h => h))
    have HK1 := Aside0.mk (HR1.out.tabK HG.out HTG.out.1 HTG.out.2.1)
    have hbg1 := blk_lt HR1.out.brk.1
    have hgg1 := (HR1.out.stOf HG.out).2
    clear hW1 hf1 hO1 c10 cg0
    go_wp2_with (go_at_call 143; refine (own_calls _ _).mono ?_; rintro e1 w1 ⟨rfl, hw1⟩; have hw1 := hw1.symm; subst hw1; rw [hown])
    go_returns
    rw [HP.out]
    exact ⟨o, rfl, HR1.out, HST1.out⟩
  rw [if_neg hden] at hp
  have hrole : ownK k = true → S.tb.role i = 2 := fun e => by
    by_cases e2 : S.tb.role i = 2
    · exact e2
    · exact absurd ⟨e, e2⟩ hden
  have hql : S.tb.queue.length < 1000000 := by
    have := own_len16 (D := fun i => (S.tb.roles i).isSome) HW.out.tb.nd (fun j hj => role_ids HW.out hj) HW.out.tb.qr
    omega
  by_cases h1 : k = 1
  · subst h1
    rw [if_pos rfl] at hp
    have HP := Aside0.mk hp
    have hown : ownK 1 = false := by decide
    clear hp hden
    go_enter Tryz.func118, Tryz.ntmps118
    go_wp2
    rw [← HW0.out]
    go_quiet (first | (go_at_call 44; exact Calls.quiet_of_same (trole_calls S.tb i L.gt mb qv _ (HT.out.fr ((Fr.refl nope W0).drewN _) (fun h => h) (fun h => h) (fun _ _ h => h)) hiw)))
    obtain ⟨W1, hW1⟩ : ∃ W1, W1 = W0.drewN nq := ⟨_, rfl⟩
    rw [← hW1]
    have hf1 : Fr nope W0 W1 := by rw [hW1]; exact (Fr.refl nope W0).drewN nq
    have HR1 := Aside0.mk (HR0.out.quiet hf1)
    have HST1 := Aside0.mk (HR.out.step (HF0.out.trans hf1 (fun _ _ h => h)))
    have hO1 := hf1.blk HO.out (fun h => h)
    have e0 : W1.cell? ⟨w.heap.size, 0, none⟩ = some (.int .i64 1) := (blk_cell hO1 0).trans rfl
    have e1 : W1.cell? ⟨w.heap.size, 1, none⟩ = some (.int .i64 n) := (blk_cell hO1 1).trans rfl
    have hol1 := blk_lt hO1
    have HT1 := Aside0.mk (HT.out.fr hf1 (fun h => h) (fun h => h) (fun _ _ h => h))
    have HK1 := Aside0.mk (HR1.out.tabK HG.out HTG.out.1 HTG.out.2.1)
    have hbg1 := blk_lt HR1.out.brk.1
    have hgg1 := (HR1.out.stOf HG.out).2
    clear hW1 hf1 hO1 c10 cg0
    go_wp2_with (go_at_call 143; refine (own_calls _ _).mono ?_; rintro e1 w1 ⟨rfl, hw1⟩; have hw1 := hw1.symm; subst hw1; rw [hown])
    go_region_held3 (fun w' => w'.cell? ⟨L.bg, 10, none⟩ = some (.pointer (some ⟨L.gt, 0, none⟩)) ∧ w'.cell? ⟨g, 0, none⟩ = some (.int .i64 i))
      (first | exact HK1.out _ (Fr.refl _ W1).drew | exact HK1.out _ HF2.out | fail)
      (first | (go_at_call 144; have hq := task_calls _ i L.gt mb qv W1.drew (HT1.out.fr (Fr.refl nope W1).drew (fun h => h) (fun h => h) (fun _ _ h => h)) hiw hql; (refine hq.mono ?_); intro e2 w2 hq2; have hq3 := HR1.out.tabQ (HT1.out.fr (Fr.refl nope W1).drew (fun h => h) (fun h => h) (fun _ _ h => h)) (Fr.refl nope W1).drew HTG.out.2.1 HTG.out.2.2 hq2; obtain ⟨he2, o2, hr2, hst2⟩ := hq3; obtain ⟨_, _, _, _, hf2⟩ := hq2; have HF2 := Aside0.mk ((Fr.refl (tbS L.gt mb) W1).drew.trans hf2 (fun _ _ h => h)); subst he2; have HR2 := Aside0.mk hr2; have HST2 := Aside0.mk hst2; clear hr2 hst2 hf2) | fail)
    all_goals
      go_wp2
      go_returns
      rw [HP.out]
      exact ⟨o2, rfl, HR2.out, HST1.out.trans HST2.out⟩
  rw [if_neg h1] at hp
  have t1 : (k == 1) = false := beq_eq_false_iff_ne.2 h1
  by_cases h2 : k = 2
  · subst h2
    rw [if_pos rfl] at hp
    have HP := Aside0.mk hp
    have hown : ownK 2 = false := by decide
    clear hp hden
    go_enter Tryz.func118, Tryz.ntmps118
    go_wp2
    rw [← HW0.out]
    go_quiet (first | (go_at_call 44; exact Calls.quiet_of_same (trole_calls S.tb i L.gt mb qv _ (HT.out.fr ((Fr.refl nope W0).drewN _) (fun h => h) (fun h => h) (fun _ _ h => h)) hiw)))
    obtain ⟨W1, hW1⟩ : ∃ W1, W1 = W0.drewN nq := ⟨_, rfl⟩
    rw [← hW1]
    have hf1 : Fr nope W0 W1 := by rw [hW1]; exact (Fr.refl nope W0).drewN nq
    have HR1 := Aside0.mk (HR0.out.quiet hf1)
    have HST1 := Aside0.mk (HR.out.step (HF0.out.trans hf1 (fun _ _ h => h)))
    have hO1 := hf1.blk HO.out (fun h => h)
    have e0 : W1.cell? ⟨w.heap.size, 0, none⟩ = some (.int .i64 2) := (blk_cell hO1 0).trans rfl
    have e1 : W1.cell? ⟨w.heap.size, 1, none⟩ = some (.int .i64 n) := (blk_cell hO1 1).trans rfl
    have hol1 := blk_lt hO1
    have HT1 := Aside0.mk (HT.out.fr hf1 (fun h => h) (fun h => h) (fun _ _ h => h))
    have HK1 := Aside0.mk (HR1.out.tabK HG.out HTG.out.1 HTG.out.2.1)
    have hbg1 := blk_lt HR1.out.brk.1
    have hgg1 := (HR1.out.stOf HG.out).2
    clear hW1 hf1 hO1 c10 cg0
    go_wp2_with (go_at_call 143; refine (own_calls _ _).mono ?_; rintro e1 w1 ⟨rfl, hw1⟩; have hw1 := hw1.symm; subst hw1; rw [hown])
    go_region_held3 (fun w' => w'.cell? ⟨L.bg, 10, none⟩ = some (.pointer (some ⟨L.gt, 0, none⟩)) ∧ w'.cell? ⟨g, 0, none⟩ = some (.int .i64 i))
      (first | exact HK1.out _ (Fr.refl _ W1).drew | exact HK1.out _ HF2.out | fail)
      (first | (go_at_call 145; have hq := tdrop_calls _ i L.gt mb qv W1.drew (HT1.out.fr (Fr.refl nope W1).drew (fun h => h) (fun h => h) (fun _ _ h => h)) hiw; (refine hq.mono ?_); intro e2 w2 hq2; have hq3 := HR1.out.tabQ (HT1.out.fr (Fr.refl nope W1).drew (fun h => h) (fun h => h) (fun _ _ h => h)) (Fr.refl nope W1).drew HTG.out.2.1 HTG.out.2.2 hq2; obtain ⟨he2, o2, hr2, hst2⟩ := hq3; obtain ⟨_, _, _, _, hf2⟩ := hq2; have HF2 := Aside0.mk ((Fr.refl (tbS L.gt mb) W1).drew.trans hf2 (fun _ _ h => h)); subst he2; have HR2 := Aside0.mk hr2; have HST2 := Aside0.mk hst2; clear hr2 hst2 hf2) | fail)
    all_goals
      go_wp2
      go_returns
      rw [HP.out]
      exact ⟨o2, rfl, HR2.out, HST1.out.trans HST2.out⟩
  rw [if_neg h2] at hp
  have t2 : (k == 2) = false := beq_eq_false_iff_ne.2 h2
  by_cases h3 : k = 3
  · subst h3
    rw [if_pos rfl] at hp
    have HP := Aside0.mk hp
    have hown : ownK 3 = false := by decide
    clear hp hden
    go_enter Tryz.func118, Tryz.ntmps118
    go_wp2
    rw [← HW0.out]
    go_quiet (first | (go_at_call 44; exact Calls.quiet_of_same (trole_calls S.tb i L.gt mb qv _ (HT.out.fr ((Fr.refl nope W0).drewN _) (fun h => h) (fun h => h) (fun _ _ h => h)) hiw)))
    obtain ⟨W1, hW1⟩ : ∃ W1, W1 = W0.drewN nq := ⟨_, rfl⟩
    rw [← hW1]
    have hf1 : Fr nope W0 W1 := by rw [hW1]; exact (Fr.refl nope W0).drewN nq
    have HR1 := Aside0.mk (HR0.out.quiet hf1)
    have HST1 := Aside0.mk (HR.out.step (HF0.out.trans hf1 (fun _ _ h => h)))
    have hO1 := hf1.blk HO.out (fun h => h)
    have e0 : W1.cell? ⟨w.heap.size, 0, none⟩ = some (.int .i64 3) := (blk_cell hO1 0).trans rfl
    have e1 : W1.cell? ⟨w.heap.size, 1, none⟩ = some (.int .i64 n) := (blk_cell hO1 1).trans rfl
    have hol1 := blk_lt hO1
    have HT1 := Aside0.mk (HT.out.fr hf1 (fun h => h) (fun h => h) (fun _ _ h => h))
    have HK1 := Aside0.mk (HR1.out.tabK HG.out HTG.out.1 HTG.out.2.1)
    have hbg1 := blk_lt HR1.out.brk.1
    have hgg1 := (HR1.out.stOf HG.out).2
    clear hW1 hf1 hO1 c10 cg0
    have HCC := Aside0.mk (list_calls W1 L o S i g HR1.out HW.out HG.out)
    go_wp2_with (first | (go_at_call 143; refine (own_calls _ _).mono ?_; rintro e1 w1 ⟨rfl, hw1⟩; have hw1 := hw1.symm; subst hw1; rw [hown]) | (go_at_call 146; refine HCC.out.mono ?_; rintro e2 w2 ⟨o2, rfl, hr2, hst2⟩; have HR2 := Aside0.mk hr2; have HST2 := Aside0.mk hst2; clear hr2 hst2))
    go_returns
    rw [HP.out]
    exact ⟨o2, rfl, HR2.out, HST1.out.trans HST2.out⟩
  rw [if_neg h3] at hp
  have t3 : (k == 3) = false := beq_eq_false_iff_ne.2 h3
  by_cases h4 : k = 4
  · subst h4
    rw [if_pos rfl] at hp
    have HP := Aside0.mk hp
    have hown : ownK 4 = false := by decide
    clear hp hden
    go_enter Tryz.func118, Tryz.ntmps118
    go_wp2
    rw [← HW0.out]
    go_quiet (first | (go_at_call 44; exact Calls.quiet_of_same (trole_calls S.tb i L.gt mb qv _ (HT.out.fr ((Fr.refl nope W0).drewN _) (fun h => h) (fun h => h) (fun _ _ h => h)) hiw)))
    obtain ⟨W1, hW1⟩ : ∃ W1, W1 = W0.drewN nq := ⟨_, rfl⟩
    rw [← hW1]
    have hf1 : Fr nope W0 W1 := by rw [hW1]; exact (Fr.refl nope W0).drewN nq
    have HR1 := Aside0.mk (HR0.out.quiet hf1)
    have HST1 := Aside0.mk (HR.out.step (HF0.out.trans hf1 (fun _ _ h => h)))
    have hO1 := hf1.blk HO.out (fun h => h)
    have e0 : W1.cell? ⟨w.heap.size, 0, none⟩ = some (.int .i64 4) := (blk_cell hO1 0).trans rfl
    have e1 : W1.cell? ⟨w.heap.size, 1, none⟩ = some (.int .i64 n) := (blk_cell hO1 1).trans rfl
    have hol1 := blk_lt hO1
    have HT1 := Aside0.mk (HT.out.fr hf1 (fun h => h) (fun h => h) (fun _ _ h => h))
    have HK1 := Aside0.mk (HR1.out.tabK HG.out HTG.out.1 HTG.out.2.1)
    have hbg1 := blk_lt HR1.out.brk.1
    have hgg1 := (HR1.out.stOf HG.out).2
    clear hW1 hf1 hO1 c10 cg0
    have HCC := Aside0.mk (shut_calls W1 L o S i 0 g HR1.out HW.out HG.out)
    go_wp2_with (first | (go_at_call 143; refine (own_calls _ _).mono ?_; rintro e1 w1 ⟨rfl, hw1⟩; have hw1 := hw1.symm; subst hw1; rw [hown]) | (go_at_call 61; refine HCC.out.mono ?_; rintro e2 w2 ⟨o2, rfl, hr2, hst2⟩; have HR2 := Aside0.mk hr2; have HST2 := Aside0.mk hst2; clear hr2 hst2))
    go_returns
    rw [HP.out]
    exact ⟨o2, rfl, HR2.out, HST1.out.trans HST2.out⟩
  rw [if_neg h4] at hp
  have t4 : (k == 4) = false := beq_eq_false_iff_ne.2 h4
  by_cases h5 : k = 5
  · subst h5
    rw [if_pos rfl] at hp
    have HP := Aside0.mk hp
    have hown : ownK 5 = true := by decide
    clear hp hden
    have hr2 : S.tb.role i = 2 := hrole hown
    have t21 : (S.tb.role i == 2) = true := beq_iff_eq.2 hr2
    have t22 : (S.tb.role i != 2) = false := by simp [bne, t21]
    clear hr2
    go_enter Tryz.func118, Tryz.ntmps118
    go_wp2
    rw [← HW0.out]
    go_quiet (first | (go_at_call 44; exact Calls.quiet_of_same (trole_calls S.tb i L.gt mb qv _ (HT.out.fr ((Fr.refl nope W0).drewN _) (fun h => h) (fun h => h) (fun _ _ h => h)) hiw)))
    obtain ⟨W1, hW1⟩ : ∃ W1, W1 = W0.drewN nq := ⟨_, rfl⟩
    rw [← hW1]
    have hf1 : Fr nope W0 W1 := by rw [hW1]; exact (Fr.refl nope W0).drewN nq
    have HR1 := Aside0.mk (HR0.out.quiet hf1)
    have HST1 := Aside0.mk (HR.out.step (HF0.out.trans hf1 (fun _ _ h => h)))
    have hO1 := hf1.blk HO.out (fun h => h)
    have e0 : W1.cell? ⟨w.heap.size, 0, none⟩ = some (.int .i64 5) := (blk_cell hO1 0).trans rfl
    have e1 : W1.cell? ⟨w.heap.size, 1, none⟩ = some (.int .i64 n) := (blk_cell hO1 1).trans rfl
    have hol1 := blk_lt hO1
    have HT1 := Aside0.mk (HT.out.fr hf1 (fun h => h) (fun h => h) (fun _ _ h => h))
    have HK1 := Aside0.mk (HR1.out.tabK HG.out HTG.out.1 HTG.out.2.1)
    have hbg1 := blk_lt HR1.out.brk.1
    have hgg1 := (HR1.out.stOf HG.out).2
    clear hW1 hf1 hO1 c10 cg0
    have c10 := (HK1.out W1 (Fr.refl _ _)).1
    go_wp2_with (first | (go_at_call 143; refine (own_calls _ _).mono ?_; rintro e1 w1 ⟨rfl, hw1⟩; have hw1 := hw1.symm; subst hw1; rw [hown]) | (go_at_call 147; refine (trevoke_calls _ L.gt mb qv _ HT1.out).mono ?_; intro e2 w2 hq2; have hq3 := HR1.out.tabQ HT1.out (Fr.refl nope W1) HTG.out.2.1 HTG.out.2.2 hq2; obtain ⟨he2, o2, hr2, hst2⟩ := hq3; subst he2; have HR2 := Aside0.mk hr2; have HST2 := Aside0.mk hst2; clear hr2 hst2 hq2))
    go_returns
    rw [HP.out]
    exact ⟨o2, rfl, HR2.out, HST1.out.trans HST2.out⟩
  rw [if_neg h5] at hp
  have t5 : (k == 5) = false := beq_eq_false_iff_ne.2 h5
  by_cases h10 : k = 10
  · subst h10
    rw [if_pos rfl] at hp
    have hown : ownK 10 = false := by decide
    clear hden hrole
    go_enter Tryz.func118, Tryz.ntmps118
    go_wp2
    rw [← HW0.out]
    go_quiet (first | (go_at_call 44; exact Calls.quiet_of_same (trole_calls S.tb i L.gt mb qv _ (HT.out.fr ((Fr.refl nope W0).drewN _) (fun h => h) (fun h => h) (fun _ _ h => h)) hiw)))
    obtain ⟨W1, hW1⟩ : ∃ W1, W1 = W0.drewN nq := ⟨_, rfl⟩
    rw [← hW1]
    have hf1 : Fr nope W0 W1 := by rw [hW1]; exact (Fr.refl nope W0).drewN nq
    have HR1 := Aside0.mk (HR0.out.quiet hf1)
    have HST1 := Aside0.mk (HR.out.step (HF0.out.trans hf1 (fun _ _ h => h)))
    have hO1 := hf1.blk HO.out (fun h => h)
    have e0 : W1.cell? ⟨w.heap.size, 0, none⟩ = some (.int .i64 10) := (blk_cell hO1 0).trans rfl
    have e1 : W1.cell? ⟨w.heap.size, 1, none⟩ = some (.int .i64 n) := (blk_cell hO1 1).trans rfl
    have hol1 := blk_lt hO1
    have HO1 := Aside0.mk hO1
    have HT1 := Aside0.mk (HT.out.fr hf1 (fun h => h) (fun h => h) (fun _ _ h => h))
    have HK1 := Aside0.mk (HR1.out.tabK HG.out HTG.out.1 HTG.out.2.1)
    have hbg1 := blk_lt HR1.out.brk.1
    have hgg1 := (HR1.out.stOf HG.out).2
    clear hW1 hf1 hO1 c10 cg0
    obtain ⟨c, v, fg, lg, og, gv, hcn, hst, hv, q0, q1, q2, q3, hV, hgv⟩ := HR1.out.vwOf HW.out HG.out HSO.out
    rw [hcn] at hp
    simp only [hv, Option.map_some] at hp
    have HP := Aside0.mk hp
    obtain ⟨gb, hL, hl1, hl2⟩ := HR1.out.log
    have hcb := cf_b HW.out
    have h820 := HW.out.log
    have HL := Aside0.mk hL
    have hgvl := blk_lt hV
    have hVF := fun w' (hF : Fr nope W1 w') => hF.blk hV (fun h => h)
    have hLF := fun w' (hF : Fr nope W1 w') => hL.fr hF (fun h => h) (fun h => h)
    have HVF := Aside0.mk hVF
    have HLF := Aside0.mk hLF
    have HK2 : Aside0 (∀ w', Fr (only gv) W1 w' → w'.cell? ⟨g, 7, none⟩ = some (.pointer (some ⟨gv, 0, none⟩)) ∧ w'.cell? ⟨L.bg, 8, none⟩ = some (.pointer (some ⟨L.gl, 0, none⟩)) ∧ w'.cell? ⟨w.heap.size, 1, none⟩ = some (.int .i64 n)) := ⟨fun w' hF => by
      have b1 := hF.blk q0.1 (fun hs => by have h2 := q0.2; rw [show g = gv from hs, hgv] at h2; cases h2)
      have b2 := hF.blk HR1.out.brk.1 (fun hs => by have := HR1.out.brk.2; rw [show L.bg = gv from hs, hgv] at this; cases this)
      have b3 := hF.blk HO1.out (fun hs => by have := HR.out.fresh w.heap.size (Nat.le_refl _); rw [show w.heap.size = gv from hs, hgv] at this; cases this)
      exact ⟨(blk_cell b1 7).trans rfl, (blk_cell b2 8).trans rfl, (blk_cell b3 1).trans rfl⟩⟩
    have HVW : Aside0 (∀ (x : Vw) w', IsV w' gv x → Fr (only gv) W1 w' → Rep w' L o (S.setc i (some { c with vw := some x })) ∧ Step (fun t => t ≠ .no) W1 o w' o) := ⟨fun x w' h1 h2 => HR1.out.view HG.out q0 q1 q2 q3 hgv h1 h2⟩
    obtain ⟨nn, hnn⟩ : ∃ nn, nn = S.cf.a0.toNat := ⟨_, rfl⟩
    have hna : S.cf.a0 = (nn : Int) := by omega
    have HNA := Aside0.mk hna
    rw [← hnn] at HLF
    have hnn1 : 0 < nn := by omega
    have hnn2 : nn ≤ 65536 := by omega
    have hal : S.log.length ≤ 1000000 := by omega
    clear hcn hst hv q0 q1 q2 q3 hV hgv hL hl1 hl2 hcb h820 hVF hLF hna hnn hp
    go_wp2_with (go_at_call 143; refine (own_calls _ _).mono ?_; rintro e1 w1 ⟨rfl, hw1⟩; have hw1 := hw1.symm; subst hw1; rw [hown])
    go_region_held3 (fun w' => w'.cell? ⟨g, 7, none⟩ = some (.pointer (some ⟨gv, 0, none⟩)) ∧ w'.cell? ⟨L.bg, 8, none⟩ = some (.pointer (some ⟨L.gl, 0, none⟩)) ∧ w'.cell? ⟨w.heap.size, 1, none⟩ = some (.int .i64 n))
      (first | exact HK2.out _ (Fr.refl _ W1).drew | exact HK2.out _ HF2.out | fail)
      (first | (go_at_call 148; have hq := vagain_calls S.log nn L.gl gb gv v n W1.drew (HVF.out _ (Fr.refl nope W1).drew) (HLF.out _ (Fr.refl nope W1).drew) hnn1 hnn2 hal (And.intro hn1 hn2); (refine hq.mono ?_); rintro e2 w2 ⟨rfl, hv2, hf2⟩; have hf3 := (Fr.refl (only gv) W1).drew.trans hf2 (fun _ _ h => h); have hr2 := HVW.out _ w2 hv2 hf3; have HR2 := Aside0.mk hr2; have HF2 := Aside0.mk hf3; clear hv2 hf2 hf3 hr2) | fail)
    all_goals
      go_wp2
      go_returns
      rw [HP.out, HNA.out]
      exact ⟨o, rfl, HR2.out.1, HST1.out.trans HR2.out.2⟩
  rw [if_neg h10] at hp
  have t10 : (k == 10) = false := beq_eq_false_iff_ne.2 h10
  by_cases h11 : k = 11
  · subst h11
    rw [if_pos rfl] at hp
    have hown : ownK 11 = true := by decide
    have hr2 : S.tb.role i = 2 := hrole hown
    have t21 : (S.tb.role i == 2) = true := beq_iff_eq.2 hr2
    have t22 : (S.tb.role i != 2) = false := by simp [bne, t21]
    clear hr2
    clear hden hrole
    by_cases h9 : 9 < n
    · rw [if_pos h9] at hp
      have HP := Aside0.mk hp
      have t9 : decide (9 < n) = true := decide_eq_true h9
      clear hp h9
      go_enter Tryz.func118, Tryz.ntmps118
      go_wp2
      rw [← HW0.out]
      go_quiet (first | (go_at_call 44; exact Calls.quiet_of_same (trole_calls S.tb i L.gt mb qv _ (HT.out.fr ((Fr.refl nope W0).drewN _) (fun h => h) (fun h => h) (fun _ _ h => h)) hiw)))
      obtain ⟨W1, hW1⟩ : ∃ W1, W1 = W0.drewN nq := ⟨_, rfl⟩
      rw [← hW1]
      have hf1 : Fr nope W0 W1 := by rw [hW1]; exact (Fr.refl nope W0).drewN nq
      have HR1 := Aside0.mk (HR0.out.quiet hf1)
      have HST1 := Aside0.mk (HR.out.step (HF0.out.trans hf1 (fun _ _ h => h)))
      have hO1 := hf1.blk HO.out (fun h => h)
      have e0 : W1.cell? ⟨w.heap.size, 0, none⟩ = some (.int .i64 11) := (blk_cell hO1 0).trans rfl
      have e1 : W1.cell? ⟨w.heap.size, 1, none⟩ = some (.int .i64 n) := (blk_cell hO1 1).trans rfl
      have hol1 := blk_lt hO1
      have HT1 := Aside0.mk (HT.out.fr hf1 (fun h => h) (fun h => h) (fun _ _ h => h))
      have HK1 := Aside0.mk (HR1.out.tabK HG.out HTG.out.1 HTG.out.2.1)
      have hbg1 := blk_lt HR1.out.brk.1
      have hgg1 := (HR1.out.stOf HG.out).2
      clear hW1 hf1 hO1 c10 cg0
      go_wp2_with (go_at_call 143; refine (own_calls _ _).mono ?_; rintro e1 w1 ⟨rfl, hw1⟩; have hw1 := hw1.symm; subst hw1; rw [hown])
      go_returns
      rw [HP.out]
      exact ⟨o, rfl, HR1.out, HST1.out⟩
    · rw [if_neg h9] at hp
      have HP := Aside0.mk hp
      have t9 : decide (9 < n) = false := decide_eq_false h9
      clear hp h9
      go_enter Tryz.func118, Tryz.ntmps118
      go_wp2
      rw [← HW0.out]
      go_quiet (first | (go_at_call 44; exact Calls.quiet_of_same (trole_calls S.tb i L.gt mb qv _ (HT.out.fr ((Fr.refl nope W0).drewN _) (fun h => h) (fun h => h) (fun _ _ h => h)) hiw)))
      obtain ⟨W1, hW1⟩ : ∃ W1, W1 = W0.drewN nq := ⟨_, rfl⟩
      rw [← hW1]
      have hf1 : Fr nope W0 W1 := by rw [hW1]; exact (Fr.refl nope W0).drewN nq
      have HR1 := Aside0.mk (HR0.out.quiet hf1)
      have HST1 := Aside0.mk (HR.out.step (HF0.out.trans hf1 (fun _ _ h => h)))
      have hO1 := hf1.blk HO.out (fun h => h)
      have e0 : W1.cell? ⟨w.heap.size, 0, none⟩ = some (.int .i64 11) := (blk_cell hO1 0).trans rfl
      have e1 : W1.cell? ⟨w.heap.size, 1, none⟩ = some (.int .i64 n) := (blk_cell hO1 1).trans rfl
      have hol1 := blk_lt hO1
      have HT1 := Aside0.mk (HT.out.fr hf1 (fun h => h) (fun h => h) (fun _ _ h => h))
      have HK1 := Aside0.mk (HR1.out.tabK HG.out HTG.out.1 HTG.out.2.1)
      have hbg1 := blk_lt HR1.out.brk.1
      have hgg1 := (HR1.out.stOf HG.out).2
      clear hW1 hf1 hO1 c10 cg0
      have c13 : W1.cell? ⟨L.bg, 13, none⟩ = some (.int .i64 S.strikes) := (blk_cell HR1.out.brk.1 13).trans rfl
      have f13 := blk_frozen HR1.out.brk.1 13
      have HSK := Aside0.mk (HR1.out.strk n)
      go_wp2_with (go_at_call 143; refine (own_calls _ _).mono ?_; rintro e1 w1 ⟨rfl, hw1⟩; have hw1 := hw1.symm; subst hw1; rw [hown])
      go_returns
      rw [HP.out]
      exact ⟨o, rfl, HSK.out.1, HST1.out.trans HSK.out.2⟩
  rw [if_neg h11] at hp
  have t11 : (k == 11) = false := beq_eq_false_iff_ne.2 h11
  have hown : ownK k = true := by unfold ownK; simp; omega
  have HP := Aside0.mk hp
  have hr2 : S.tb.role i = 2 := hrole hown
  have t21 : (S.tb.role i == 2) = true := beq_iff_eq.2 hr2
  have t22 : (S.tb.role i != 2) = false := by simp [bne, t21]
  clear hr2
  have hnw : (Lit.int .i64 n).wf = true := by simp [Lit.wf, IntKind.min, IntKind.max, IntKind.bits, IntKind.signed]; omega
  clear hp hden hrole h1 h2 h3 h4 h5 h10 h11
  go_enter Tryz.func118, Tryz.ntmps118
  go_wp2
  rw [← HW0.out]
  go_quiet (first | (go_at_call 44; exact Calls.quiet_of_same (trole_calls S.tb i L.gt mb qv _ (HT.out.fr ((Fr.refl nope W0).drewN _) (fun h => h) (fun h => h) (fun _ _ h => h)) hiw)))
  obtain ⟨W1, hW1⟩ : ∃ W1, W1 = W0.drewN nq := ⟨_, rfl⟩
  rw [← hW1]
  have hf1 : Fr nope W0 W1 := by rw [hW1]; exact (Fr.refl nope W0).drewN nq
  have HR1 := Aside0.mk (HR0.out.quiet hf1)
  have HST1 := Aside0.mk (HR.out.step (HF0.out.trans hf1 (fun _ _ h => h)))
  have hO1 := hf1.blk HO.out (fun h => h)
  have e0 : W1.cell? ⟨w.heap.size, 0, none⟩ = some (.int .i64 k) := (blk_cell hO1 0).trans rfl
  have e1 : W1.cell? ⟨w.heap.size, 1, none⟩ = some (.int .i64 n) := (blk_cell hO1 1).trans rfl
  have hol1 := blk_lt hO1
  have HT1 := Aside0.mk (HT.out.fr hf1 (fun h => h) (fun h => h) (fun _ _ h => h))
  have HK1 := Aside0.mk (HR1.out.tabK HG.out HTG.out.1 HTG.out.2.1)
  have hbg1 := blk_lt HR1.out.brk.1
  have hgg1 := (HR1.out.stOf HG.out).2
  clear hW1 hf1 hO1 c10 cg0
  have HCC := Aside0.mk (toOther_calls W1 L o S k n HR1.out HW.out hnw)
  go_wp2_with (first | (go_at_call 143; refine (own_calls _ _).mono ?_; rintro e1 w1 ⟨rfl, hw1⟩; have hw1 := hw1.symm; subst hw1; rw [hown]) | (go_at_call 149; refine HCC.out.mono ?_; rintro e2 w2 ⟨o2, rfl, hr2, hst2⟩; have HR2 := Aside0.mk hr2; have HST2 := Aside0.mk hst2; clear hr2 hst2))
  go_returns
  rw [HP.out]
  exact ⟨o2, rfl, HR2.out, HST1.out.trans HST2.out⟩
end Go.Proofs.YtfkamoiamebngaaGreatDoor.BroW

/- kibitzertop: WholeWaits, the plain law: who waits for the floor gets it in turn, unless somebody is sent away. Plain. -/
import Derived.Test.YtfkamoiamebngaaGreatDoorM24
import Derived.Test.YtfkamoiamebngaaGreatDoorM23
import Derived.Test.YtfkamoiamebngaaGreatDoorM22
import Derived.SevenTiedAt
import Derived.LaidMore
import Derived.Handed
import Derived.WalkKit
import Derived.ProofKit
import Derived.OpenShut
import Derived.ShutString
import Derived.ChangeOld
import Derived.Below
import Derived.SizedLaws
namespace Go.Proofs.YtfkamoiamebngaaGreatDoor.Mod
open Go.RowKit Go.Proofs.YtfkamoiamebngaaGreatDoorW.PrintWords Go.Proofs.YtfkamoiamebngaaGreatDoor.ScrP Go.Proofs.YtfkamoiamebngaaGreatDoor.LexP Go.Proofs.YtfkamoiamebngaaGreatDoor.BroW
set_option linter.unusedVariables false

/-- every open connection has a role -/
def OU (S : St) : Prop := ∀ i, isOpen S i = true → (S.tb.roles i).isSome = true
theorem OU.of {S S' : St} (h : OU S) (ho : ∀ i, isOpen S' i = true → isOpen S i = true) (hr : S'.tb.roles = S.tb.roles) : OU S' := fun i hi => by
  rw [hr]; exact h i (ho i hi)
theorem OU.setc {S : St} {i : Int} {c c' : Cn} (h : OU S) (hc : S.cn i = some c) (hs : c'.st = 1 → c.st = 1) : OU (S.setc i (some c')) :=
  h.of (sameC_setc hc hs).2.2.2 rfl
theorem OU.close {S : St} {i : Int} {c : Cn} (h : OU S) (hc : S.cn i = some c) : OU { S.setc i (some { c with st := 2 }) with tb := S.tb.leave i } := fun j hj => by
  have h1 := (sameC_setc hc (c' := { c with st := 2 }) (fun e => by cases e)).2.2.2 j hj
  have hne : j ≠ i := fun e => by
    subst e
    unfold isOpen St.setc at hj
    simp at hj
  have h2 := h j h1
  show ((S.tb.leave i).roles j).isSome = true
  unfold Tb.leave
  split
  · show (if j = i then none else (S.tb.lose i).roles j).isSome = true
    rw [if_neg hne, lose_roles]
    exact h2
  · exact h2
theorem sendW_ou {lv : St → Int → St} (H : ∀ S i, OU S → OU (lv S i)) {S : St} (h : OU S) (i : Int) (g : Mg) : OU (sendW lv S i g) := by
  unfold sendW
  cases hc : S.cn i with
  | none => exact h
  | some c =>
    simp only
    split
    · exact h
    · split
      · exact h.setc hc (fun e => e)
      · exact H S i h
theorem fold_ou {f : St → Int → St} (hf : ∀ S i, OU S → OU (f S i)) (l : List Int) : ∀ S, OU S → OU (l.foldl f S) := by
  induction l with
  | nil => intro S h; exact h
  | cons a l ih => intro S h; exact ih _ (hf S a h)
theorem tellW_ou {lv : St → Int → St} (H : ∀ S i, OU S → OU (lv S i)) {S : St} (h : OU S) (g : Mg) : OU (tellW lv S g) := by
  unfold tellW
  refine fold_ou (fun S i h => ?_) _ S h
  unfold tellOne
  split
  · exact sendW_ou H h i g
  · exact h
theorem leaveF_ou (n : Nat) : ∀ S i, OU S → OU (leaveF n S i) := by
  induction n with
  | zero => intro S i h; exact h
  | succ n ih =>
    intro S i h
    cases hc : S.cn i with
    | none => rw [leaveF_none n hc]; exact h
    | some c =>
      by_cases hs : c.st = 1
      · rw [leaveF_open n hc hs]; exact tellW_ou ih (h.close hc) _
      · rw [leaveF_shut n hc hs]; exact h.setc hc (fun e => by cases e)
theorem turnF_ou (n : Nat) : ∀ S, OU S → OU (turnF n S) := by
  induction n with
  | zero => intro S h; exact h
  | succ n ih =>
    intro S h
    unfold turnF
    split
    · exact h
    · exact ih _ (tellW_ou (leaveF_ou 17) (S := { S with told := S.tb.holder }) h _)
theorem pumpC_ou (f : Nat) : ∀ S id, OU S → OU (pumpC f S id) := by
  induction f with
  | zero => intro S id h; exact h
  | succ f ih =>
    intro S id h
    unfold pumpC
    split
    · exact h
    · rename_i c hc
      split
      · exact h
      · split
        · simp only
          split
          · refine ih _ id ?_
            split
            · exact leaveF_ou 17 _ id (h.setc hc (fun e => e))
            · exact h.setc hc (fun e => e)
          · exact h
        · exact h
theorem sweep_open {S : St} {i : Int} (h : isOpen (sweep S) i = true) : isOpen S i = true := by
  obtain ⟨c, hc, hs⟩ := isOpen_some h
  have h1 : (match S.cn i with
    | some c => if c.st = 2 ∧ c.out = [] then none else some c
    | none => none) = some c := hc
  cases hd : S.cn i with
  | none => rw [hd] at h1; cases h1
  | some d =>
    rw [hd] at h1
    simp only at h1
    split at h1
    · cases h1
    · cases h1
      unfold isOpen
      rw [hd]
      simp [hs]
theorem settle_ou {S : St} (h : OU S) : OU (settle S) := by
  unfold settle
  have h1 := turnF_ou 18 S h
  have h2 : OU (pump (turned S)) := by
    unfold pump
    refine fold_ou (fun S i h => ?_) _ _ h1
    unfold pumpOne
    split
    · exact pumpC_ou _ S i h
    · exact h
  exact (turnF_ou 18 _ h2).of (fun i hi => sweep_open hi) rfl

/-! ### the floor stays, or somebody goes -/
def Tw (S S' : St) : Prop := nOpen S' ≤ nOpen S ∧ ((S'.tb = S.tb ∧ S'.told = S.told) ∨ nOpen S' < nOpen S)
theorem Tw.refl (S : St) : Tw S S := ⟨Nat.le_refl _, .inl ⟨rfl, rfl⟩⟩
theorem Tw.trans {A B C : St} (h : Tw A B) (k : Tw B C) : Tw A C := by
  refine ⟨Nat.le_trans k.1 h.1, ?_⟩
  have h1 := h.1
  have k1 := k.1
  rcases h.2 with e | e
  · rcases k.2 with f | f
    · exact .inl ⟨f.1.trans e.1, f.2.trans e.2⟩
    · exact .inr (by omega)
  · exact .inr (by omega)
theorem Tw.of_lv {S S' : St} (h : Lv S S') : Tw S S' := ⟨h.same.nOpen, by
  rcases h.tb with e | e
  · exact .inl ⟨e, h.told⟩
  · exact .inr e⟩
theorem tw_setc {S : St} {i : Int} {c c' : Cn} (hc : S.cn i = some c) (hs : c'.st = 1 → c.st = 1) : Tw S (S.setc i (some c')) := ⟨(sameC_setc hc hs).nOpen, .inl ⟨rfl, rfl⟩⟩
theorem pumpC_tw (f : Nat) : ∀ S id, WF S → Tw S (pumpC f S id) := by
  induction f with
  | zero => intro S id h; exact Tw.refl S
  | succ f ih =>
    intro S id h
    unfold pumpC
    split
    · exact Tw.refl S
    · rename_i c hc
      split
      · exact Tw.refl S
      · rename_i v hv
        split
        · simp only
          split
          · have hk := (h.con id c hc).2.2
            have hn := next_ok v S.log S.cf.a0 (S.cf.a2 - c.out.length - 200) S.cf.a1 S.strikes (hk.vw v hv) h.str.2
            generalize v.next S.log S.cf.a0 (S.cf.a2 - c.out.length - 200) S.cf.a1 S.strikes = r at hn
            have h1 : WF (S.setc id (some { c with vw := some r.1, out := if ((mB r.2.1).length + c.out.length : Int) ≤ S.cf.a2 then c.out ++ mB r.2.1 else c.out })) := by
              refine h.setc hc ⟨hk.st, hk.name, hk.fb, hk.lx, ?_, fun v' e => by cases e; exact hn, fun _ => rfl⟩ (fun e => e)
              show (List.length (if ((mB r.2.1).length + c.out.length : Int) ≤ S.cf.a2 then c.out ++ mB r.2.1 else c.out) : Int) ≤ S.cf.a2
              split
              · rw [List.length_append]; push_cast; omega
              · exact hk.out
            have t1 : Tw S (S.setc id (some { c with vw := some r.1, out := if ((mB r.2.1).length + c.out.length : Int) ≤ S.cf.a2 then c.out ++ mB r.2.1 else c.out })) := tw_setc hc (fun e => e)
            generalize S.setc id (some { c with vw := some r.1, out := if ((mB r.2.1).length + c.out.length : Int) ≤ S.cf.a2 then c.out ++ mB r.2.1 else c.out }) = S1 at h1 t1
            have h2 : WF (if r.2.1.k = 12 then leave S1 id else S1) ∧ Tw S1 (if r.2.1.k = 12 then leave S1 id else S1) := by
              split
              · exact ⟨(k_leave h1 id).1, Tw.of_lv (leave_lv h1 id)⟩
              · exact ⟨h1, Tw.refl S1⟩
            exact (t1.trans h2.2).trans (ih _ id h2.1)
          · exact Tw.refl S
        · exact Tw.refl S
theorem fold_tw {f : St → Int → St} (hf : ∀ S i, WF S → WF (f S i) ∧ Tw S (f S i)) (l : List Int) : ∀ S, WF S → WF (l.foldl f S) ∧ Tw S (l.foldl f S) := by
  induction l with
  | nil => intro S h; exact ⟨h, Tw.refl S⟩
  | cons a l ih =>
    intro S h
    have h1 := hf S a h
    have h2 := ih _ h1.1
    exact ⟨h2.1, h1.2.trans h2.2⟩
theorem pump_tw {S : St} (h : WF S) : WF (pump S) ∧ Tw S (pump S) := by
  unfold pump
  refine fold_tw (fun S i h => ?_) _ S h
  unfold pumpOne
  split
  · exact ⟨(pumpC_ok _ S i h).1, pumpC_tw _ S i h⟩
  · exact ⟨h, Tw.refl S⟩
/-- told, or somebody goes -/
def Ts (S S' : St) : Prop := nOpen S' ≤ nOpen S ∧ ((S'.tb = S.tb ∧ S'.told = S.tb.holder) ∨ nOpen S' < nOpen S)
theorem turned_ts {S : St} (h : WF S) : Ts S (turned S) := by
  by_cases e : S.tb.holder = S.told
  · rw [show turned S = S from turnF_stop 17 e]
    exact ⟨Nat.le_refl _, .inl ⟨rfl, e.symm⟩⟩
  · have h1 : turned S = turnF 17 (turnS S) := turnF_go 17 e
    have hl := tell_lv h.told' ⟨9, S.tb.holder, 0, strL []⟩
    have hw := turnS_wf h
    have hn : nOpen (turnS S) ≤ nOpen S := hl.same.nOpen
    rcases hl.tb with f | f
    · have f1 : (turnS S).tb = S.tb := f
      have f2 : (turnS S).told = S.tb.holder := hl.told
      have f3 : turnF 17 (turnS S) = turnS S := turnF_stop 16 (by rw [f1, f2])
      rw [h1, f3]
      exact ⟨hn, .inl ⟨f1, f2⟩⟩
    · have f1 : nOpen (turnS S) < nOpen S := f
      have f2 := (turnF_ok 17 _ hw).2.nOpen
      rw [h1]
      exact ⟨by omega, .inr (by omega)⟩
theorem settle_ts {S : St} (h : WF S) : Ts S (settle S) := by
  have h1 := turned_ts h
  have w1 := (turned_wf h).1
  have h2 := pump_tw w1
  have h3 := turned_ts h2.1
  have h4 : nOpen (settle S) ≤ nOpen (turned (pump (turned S))) := filter_len_le (fun i hi => sweep_open hi)
  have e1 : (settle S).tb = (turned (pump (turned S))).tb := rfl
  have e2 : (settle S).told = (turned (pump (turned S))).told := rfl
  have n1 := h1.1
  have n2 := h2.2.1
  have n3 := h3.1
  refine ⟨by omega, ?_⟩
  rcases h1.2 with a | a
  · rcases h2.2.2 with b | b
    · rcases h3.2 with c | c
      · refine .inl ⟨by rw [e1, c.1, b.1, a.1], by rw [e2, c.2, b.1, a.1]⟩
      · exact .inr (by omega)
    · exact .inr (by omega)
  · exact .inr (by omega)
theorem users_open {S : St} (h : WF S) (ho : OU S) : S.tb.users.length = nOpen S := by
  unfold Tb.users nOpen
  congr 2
  funext i
  cases hr : (S.tb.roles i).isSome with
  | true =>
    obtain ⟨r, hr⟩ := Option.isSome_iff_exists.1 hr
    exact (h.tb.role i r hr).2.2.symm
  | false =>
    cases hi : isOpen S i with
    | false => rfl
    | true => rw [ho i hi] at hr; cases hr

/-! ### noise and ticks -/
def isNoise (e : Ev) : Bool := decide (e.k = 3 ∨ e.k = 2 ∨ e.k = 4)
theorem noise_ou {S : St} (h : OU S) {e : Ev} (he : isNoise e = true) : OU (Mod.step S e).1 := by
  have hk := of_decide_eq_true he
  unfold Mod.step
  split
  · split
    · omega
    split
    · omega
    split
    · simp only
      unfold writeM
      split
      · exact h
      · rename_i c hc; exact settle_ou (h.setc hc (fun e => e))
    split
    · simp only
      unfold outputM
      split
      · exact h
      · exact settle_ou (S := { S with log := S.log ++ bytesOf e.d }) h
    split
    · exact h
    all_goals omega
  · exact h
theorem noise_tw {S : St} (h : WF S) (ht : S.tb.holder = S.told) {e : Ev} (he : isNoise e = true) (hl : S.log.length + outLen e ≤ 8100) : Tw S (Mod.step S e).1 := by
  have hk := of_decide_eq_true he
  have key : ∀ T : St, WF T → nOpen T ≤ nOpen S → T.tb = S.tb → T.told = S.told → Tw S (settle T) := fun T hT hn htb hto => by
    have h1 := settle_ts hT
    have n1 := h1.1
    refine ⟨by omega, ?_⟩
    rcases h1.2 with a | a
    · exact .inl ⟨a.1.trans htb, by rw [a.2, htb, ht]⟩
    · exact .inr (by omega)
  unfold Mod.step
  split
  · split
    · omega
    split
    · omega
    split
    · simp only
      unfold writeM
      split
      · exact Tw.refl S
      · rename_i c hc; exact key _ (drop_ok h hc e.n.toNat).1 (sameC_setc hc (c' := { c with out := c.out.drop e.n.toNat }) (fun e => e)).nOpen rfl rfl
    split
    · rename_i h3
      simp only
      unfold outputM
      split
      · exact Tw.refl S
      · have hb : (bytesOf e.d).length = outLen e := by unfold outLen; rw [if_pos h3, bytesOf_length]
        exact key { S with log := S.log ++ bytesOf e.d } (log_ok h (by rw [hb]; exact hl)) (Nat.le_refl _) rfl rfl
    split
    · exact ⟨Nat.le_refl _, .inl ⟨rfl, rfl⟩⟩
    all_goals omega
  · exact Tw.refl S
theorem tick1_same {S : St} (h6 : S.cf.a6 = 0) (i : Int) : (tickOne S i).tb = S.tb ∧ (tickOne S i).cf = S.cf ∧ (∀ j, isOpen (tickOne S i) j = true → isOpen S j = true) := by
  unfold tickOne
  cases hd : S.cn i with
  | none => exact ⟨rfl, rfl, fun _ h => h⟩
  | some d =>
    simp only
    rw [if_neg (by omega)]
    exact ⟨rfl, rfl, (sameC_setc hd (c' := { d with idle := IntKind.i64.wrap (d.idle + 1) }) (fun e => e)).2.2.2⟩
theorem ticks_same (l : List Int) : ∀ S : St, S.cf.a6 = 0 → (l.foldl tickOne S).tb = S.tb ∧ (l.foldl tickOne S).cf = S.cf ∧ (∀ j, isOpen (l.foldl tickOne S) j = true → isOpen S j = true) := by
  induction l with
  | nil => intro S _; exact ⟨rfl, rfl, fun _ h => h⟩
  | cons a l ih =>
    intro S h6
    have h1 := tick1_same h6 a
    have h2 := ih (tickOne S a) (by rw [h1.2.1]; exact h6)
    exact ⟨h2.1.trans h1.1, h2.2.1.trans h1.2.1, fun j hj => h1.2.2 j (h2.2.2 j hj)⟩
theorem tick_ts {S : St} (h : WF S) (h6 : S.cf.a6 = 0) : nOpen (tickM S) ≤ nOpen S ∧ (((tickM S).tb = S.tb.tick ∧ (tickM S).told = (tickM S).tb.holder) ∨ nOpen (tickM S) < nOpen S) ∧ (OU S → OU (tickM S)) := by
  have w0 := k_tb h h.tb.tick
  have w1 := (k_fold (fun S i h => tick1_ok h i) ids16 _ w0.1).1
  obtain ⟨e1, e2, e3⟩ := ticks_same ids16 { S with tb := S.tb.tick } h6
  have h1 := settle_ts w1
  have n1 := h1.1
  have n2 : nOpen (ids16.foldl tickOne { S with tb := S.tb.tick }) ≤ nOpen S := filter_len_le e3
  unfold tickM
  refine ⟨by omega, ?_, fun ho => ?_⟩
  · rcases h1.2 with a | a
    · refine .inl ⟨a.1.trans e1, ?_⟩
      rw [a.2, a.1]
    · exact .inr (by omega)
  · refine settle_ou (fun i hi => ?_)
    rw [e1]
    show (S.tb.tick.roles i).isSome = true
    rw [tick_roles]
    exact ho i (e3 i hi)

/-! ### one behind the other -/
def seqF (a u : Nat) : List Int := (List.range (u + 1 - a)).map fun j => ((a + j : Nat) : Int)
theorem seqF_nil (u : Nat) : seqF (u + 1) u = [] := by simp [seqF]
theorem seqF_cons {a u : Nat} (h : a ≤ u) : seqF a u = (a : Int) :: seqF (a + 1) u := by
  unfold seqF
  rw [show u + 1 - a = (u + 1 - (a + 1)) + 1 by omega, List.range_succ_eq_map]
  simp only [List.map_cons, List.map_map, Nat.add_zero]
  congr 1
  apply List.map_congr_left
  intro j _
  simp only [Function.comp_apply, Nat.succ_eq_add_one]
  congr 1
  omega
theorem seqF_mem {a u : Nat} {x : Int} (h : x ∈ seqF a u) : (a : Int) ≤ x := by
  unfold seqF at h
  obtain ⟨j, _, rfl⟩ := List.mem_map.1 h
  omega
/-- h holds the floor, so much of the lease is over; all behind h wait in order -/
structure Wt (rl : Int → Option Int) (u lease h i : Nat) (S : St) : Prop where
  wf : WF S
  ou : OU S
  idle : S.cf.a6 = 0
  told : S.tb.holder = S.told
  tb : S.tb = ⟨lease, (lease : Int) - i, h, seqF (h + 1) u, rl⟩
  n : nOpen S = u
theorem wt_noise {rl : Int → Option Int} {u lease h i : Nat} {S : St} (hw : Wt rl u lease h i S) {e : Ev} (he : isNoise e = true) (hl : S.log.length + outLen e ≤ 8100) :
    WF (Mod.step S e).1 ∧ OU (Mod.step S e).1 ∧ (Mod.step S e).1.cf.a6 = 0 ∧ (Mod.step S e).1.log.length ≤ S.log.length + outLen e ∧ nOpen (Mod.step S e).1 ≤ u ∧ (nOpen (Mod.step S e).1 < u ∨ Wt rl u lease h i (Mod.step S e).1) := by
  have h1 := step_ok hw.wf e hl
  have h2 := noise_ou hw.ou he
  have h3 := noise_tw hw.wf hw.told he hl
  have n1 := h3.1
  have hn := hw.n
  have h6 : (Mod.step S e).1.cf.a6 = 0 := by rw [h1.2.1]; exact hw.idle
  refine ⟨h1.1, h2, h6, h1.2.2, by omega, ?_⟩
  by_cases hlt : nOpen (Mod.step S e).1 < u
  · exact .inl hlt
  · rcases h3.2 with a | a
    · exact .inr ⟨h1.1, h2, h6, by rw [a.1, a.2, hw.told], a.1.trans hw.tb, by omega⟩
    · exact absurd a (by omega)
theorem tick_log {S : St} (h : WF S) : (tickM S).log = S.log := (tick_ok h).2.2
theorem wt_tick {rl : Int → Option Int} {u lease h i : Nat} {S : St} (hw : Wt rl u lease h i S) (hh : 1 ≤ h ∧ h ≤ u) (hi : i < lease) :
    WF (tickM S) ∧ OU (tickM S) ∧ (tickM S).cf.a6 = 0 ∧ nOpen (tickM S) ≤ u ∧ (nOpen (tickM S) < u ∨ (if i + 1 < lease then Wt rl u lease h (i + 1) (tickM S) else Wt rl u lease (min (h + 1) u) 0 (tickM S))) := by
  have h1 := tick_ok hw.wf
  have h2 := tick_ts hw.wf hw.idle
  have n1 := h2.1
  have hn := hw.n
  have ho := h2.2.2 hw.ou
  have h6 : (tickM S).cf.a6 = 0 := by rw [h1.2.1]; exact hw.idle
  refine ⟨h1.1, ho, h6, by omega, ?_⟩
  by_cases hlt : nOpen (tickM S) < u
  · exact .inl hlt
  right
  rcases h2.2.1 with a | a
  · have htk : S.tb.tick = if i + 1 < lease then ⟨lease, (lease : Int) - ((i + 1 : Nat) : Int), h, seqF (h + 1) u, rl⟩ else ⟨lease, (lease : Int) - ((0 : Nat) : Int), ((min (h + 1) u : Nat) : Int), seqF (min (h + 1) u + 1) u, rl⟩ := by
      rw [hw.tb]
      unfold Tb.tick
      simp only
      rw [if_neg (by omega)]
      by_cases h3 : i + 1 < lease
      · rw [if_pos h3, if_pos (by omega)]
        congr 1
        push_cast
        omega
      · rw [if_neg h3, if_neg (by omega)]
        by_cases h4 : h < u
        · have h5 : min (h + 1) u = h + 1 := by omega
          rw [h5, seqF_cons (show h + 1 ≤ u by omega)]
          simp only
          unfold Tb.pass
          simp only
          unfold Tb.grant Tb.forget
          simp only
          have e0 : (lease : Int) = (lease : Int) - ((0 : Nat) : Int) := by push_cast; omega
          rw [← e0]
          congr 1
          · rw [List.filter_cons]
            simp only [beq_self_eq_true, Bool.not_true, Bool.false_eq_true, if_false]
            rw [List.filter_eq_self]
            intro x hx
            have := seqF_mem hx
            simp
            omega
        · have h5 : h = u := by omega
          subst h5
          have h6 : min (h + 1) h = h := by omega
          have e0 : (lease : Int) = (lease : Int) - ((0 : Nat) : Int) := by push_cast; omega
          rw [h6, seqF_nil, ← e0]
    split
    · rename_i h3
      rw [if_pos h3] at htk
      exact ⟨h1.1, ho, h6, a.2.symm, a.1.trans htk, by omega⟩
    · rename_i h3
      rw [if_neg h3] at htk
      exact ⟨h1.1, ho, h6, a.2.symm, a.1.trans htk, by omega⟩
  · exact absurd a (by omega)
theorem less_tick {u : Nat} {S : St} (h : WF S) (h6 : S.cf.a6 = 0) (ho : OU S) (hn : nOpen S < u) : WF (tickM S) ∧ OU (tickM S) ∧ nOpen (tickM S) < u := by
  have h2 := tick_ts h h6
  have n1 := h2.1
  exact ⟨(tick_ok h).1, h2.2.2 ho, by omega⟩
end Go.Proofs.YtfkamoiamebngaaGreatDoor.Mod

/- kibitzertop: WholeWaits, how it begins. -/
namespace Go.Proofs.YtfkamoiamebngaaGreatDoor.BroW
open Go.RowKit Go.Proofs.YtfkamoiamebngaaGreatDoorW.PrintWords Go.Proofs.YtfkamoiamebngaaGreatDoorW.PrintMore Go.Proofs.YtfkamoiamebngaaGreatDoor.Fr Go.Proofs.YtfkamoiamebngaaGreatDoor.ScrW Go.Proofs.YtfkamoiamebngaaGreatDoor.ScrP Go.Proofs.YtfkamoiamebngaaGreatDoor.Mod
set_option linter.unusedVariables false
set_option linter.unusedSimpArgs false

def cfW (l : Nat) : Cf := ⟨4096, 512, 60000, 256, 3, l, 0, 80⟩
def floorS : ByteArray := ⟨#[102, 108, 111, 111, 114]⟩
/-- so many come, each asks for the floor -/
def waitL (n : Nat) : List Ev := ((List.range n).map fun (i : Nat) => comesL ((i : Int) + 1) true 0 ++ [cmdE ((i : Int) + 1) floorS]).flatten
theorem waitL_succ (k : Nat) : waitL (k + 1) = (waitL k ++ comesL ((k : Int) + 1) true 0) ++ [cmdE ((k : Int) + 1) floorS] := by
  unfold waitL; rw [List.range_succ]; simp
theorem waitL_len : ∀ k, (waitL k).length = 3 * k
  | 0 => rfl
  | k + 1 => by rw [waitL_succ, List.length_append, List.length_append, waitL_len k]; show 3 * k + 2 + 1 = _; omega
def waitOK (u l : Nat) : Bool :=
  let L := waitL u
  let S := (run L (stNew (cfW l))).1
  L.all evB && decide (cfB (cfW l) = true ∧ outSum L = 0 ∧ sz L ≤ 8000 ∧ S.tb.lease = l ∧ S.tb.left = l ∧ S.tb.holder = 1 ∧ S.tb.queue = seqF 2 u ∧ S.told = 1 ∧ nOpen S = u ∧ (∀ i ∈ ids16, isOpen S i = true → (S.tb.roles i).isSome = true) ∧ S.log = [])
theorem wait_chk : ∀ u, u < 10 → 2 ≤ u → ∀ l, l < 9 → 1 ≤ l → waitOK u l = true := by decide +kernel
/-- what holds when all have come and asked -/
theorem wait_start {u l : Nat} (hu : 2 ≤ u ∧ u ≤ 9) (hl : 1 ≤ l ∧ l ≤ 8) : (∀ e ∈ waitL u, evB e = true) ∧ cfB (cfW l) = true ∧ sz (waitL u) ≤ 8000 ∧ outSum (waitL u) = 0 ∧ (run (waitL u) (stNew (cfW l))).1.log = [] ∧
    Wt (run (waitL u) (stNew (cfW l))).1.tb.roles u l 1 0 (run (waitL u) (stNew (cfW l))).1 := by
  have h := wait_chk u (by omega) hu.1 l (by omega) hl.1
  unfold waitOK at h
  simp only [Bool.and_eq_true, decide_eq_true_eq, List.all_eq_true] at h
  obtain ⟨h1, h2, h3, h4, t1, t2, t3, t4, t5, t6, t7, t8⟩ := h
  have hw := run_ok (waitL u) (stNew (cfW l)) (new_wf h2) (by rw [h3]; show 0 + 0 ≤ 8100; omega)
  refine ⟨h1, h2, h4, h3, t8, hw.1, fun i hi => ?_, ?_, ?_, ?_, t6⟩
  · have := isOpen_ids hw.1 hi
    exact t7 i (by unfold ids16; simp; omega) hi
  · rw [hw.2.1]; rfl
  · rw [t3, t5]
  · cases hA : (run (waitL u) (stNew (cfW l))).1.tb
    rw [hA] at t1 t2 t3 t4
    simp only at t1 t2 t3 t4
    rw [t1, t2, t3, t4]
    congr 1
def tickE : Ev := ⟨5, 0, 0, ⟨#[]⟩⟩
theorem step_tick (S : St) : Mod.step S tickE = (tickM S, 0, []) := by
  unfold Mod.step
  rw [if_pos (by decide)]
  rfl
def noiseL (L : List Ev) : List Ev := L.filter isNoise
theorem noise_snoc (L : List Ev) (k : Nat) (hk : k < L.length) (e : Ev) (he : L.getD k ev0 = e) : noiseL (L.take (k + 1)) = noiseL (L.take k) ++ (if isNoise e = true then [e] else []) := by
  have : L.take (k + 1) = L.take k ++ [e] := by
    rw [List.take_succ_eq_append_getElem hk, ← he]
    simp [hk]
  unfold noiseL
  rw [this, List.filter_append]
  by_cases h : isNoise e = true <;> simp [h]
theorem outSum_drop (L : List Ev) (k : Nat) (hk : k < L.length) (e : Ev) (he : L.getD k ev0 = e) : outSum (L.drop k) = outLen e + outSum (L.drop (k + 1)) := by
  have : L.drop k = e :: L.drop (k + 1) := by
    rw [List.drop_eq_getElem_cons hk, ← he]
    simp [hk]
  rw [this]
  unfold outSum
  simp
theorem isNoise_mem {L : List Ev} {k : Nat} (hk : k < (noiseL L).length) {e : Ev} (he : (noiseL L).getD k ev0 = e) : isNoise e = true := by
  have h1 : e ∈ noiseL L := by rw [← he, List.getD_eq_getElem?_getD, List.getElem?_eq_getElem hk]; exact List.getElem_mem hk
  exact (List.mem_filter.1 h1).2
/-- behind the noise, if there is any, and behind the tick -/
theorem wait_round {rl : Int → Option Int} {u l h i : Nat} {S1 : St} (hh : 1 ≤ h ∧ h ≤ u) (hi : i < l) (hw : WF S1) (ho : OU S1) (h6 : S1.cf.a6 = 0) (hn : nOpen S1 < u ∨ Wt rl u l h i S1) (hus : (tickM S1).tb.users.length = u) :
    (if i + 1 < l then Wt rl u l h (i + 1) (tickM S1) else Wt rl u l (min (h + 1) u) 0 (tickM S1)) := by
  rcases hn with hn | hn
  · obtain ⟨a, b, c⟩ := less_tick hw h6 ho hn
    have := users_open a b
    omega
  · obtain ⟨a, b, c, d, e⟩ := wt_tick hn hh hi
    have := users_open a b
    rcases e with e | e
    · omega
    · exact e
end Go.Proofs.YtfkamoiamebngaaGreatDoor.BroW

/- kibitzertop: WholeWaits, the walk. -/
namespace Go.Proofs.YtfkamoiamebngaaGreatDoor.BroW
open Go.RowKit Go.Proofs.YtfkamoiamebngaaGreatDoorW.PrintWords Go.Proofs.YtfkamoiamebngaaGreatDoorW.PrintMore Go.Proofs.YtfkamoiamebngaaGreatDoor.Fr Go.Proofs.YtfkamoiamebngaaGreatDoor.ScrW Go.Proofs.YtfkamoiamebngaaGreatDoor.ScrP Go.Proofs.YtfkamoiamebngaaGreatDoor.Mod
set_option linter.unusedVariables false
set_option linter.unusedSimpArgs false

theorem and7 (n : Int) : bits .and .i64 n 7 = n % 8 := by
  have h7 : (BitVec.ofInt 64 7).toNat = 2 ^ 3 - 1 := by decide
  have key : (BitVec.ofInt 64 n &&& BitVec.ofInt 64 7).toNat = (n % ((2 ^ 64 : Nat) : Int)).toNat % 2 ^ 3 := by
    rw [BitVec.toNat_and, BitVec.toNat_ofInt, h7, Nat.and_two_pow_sub_one_eq_mod]
  show IntKind.i64.wrap ((BitVec.ofInt 64 n &&& BitVec.ofInt 64 7).toNat : Nat) = n % 8
  rw [key, IntKind.wrap_i64]
  omega

/-! what the broker is asked, at whatever later world -/
section
variable {w0 W : World} {o0 o : Own} {bg : Nat} {L : Lay} {S : St}
theorem do_at (hr : Rep W L o S) (hb : L.bg = bg) (hst : Step (fun t => t ≠ .no) w0 o0 W o) (hw : WF S) (e : Ev) (hl : S.log.length + outLen e ≤ 8100) {S1 : St} (hs : (Mod.step S e).1 = S1) :
    Calls Tryz.prog 23 #[.pointer (some ⟨bg, 0, none⟩), .agg #[.int .i64 e.k, .int .i64 e.i, .int .i64 e.n, .string e.d]] W fun e' w' => ∃ v L1 o1, e' = .returned v ∧ Rep w' L1 o1 S1 ∧ L1.bg = bg ∧ Step (fun t => t ≠ .no) w0 o0 w' o1 := by
  subst hb hs
  refine (do_calls W L o S e hr hw hl).mono ?_
  rintro e' w' ⟨L1, o1, rfl, q1, q2, q3⟩
  exact ⟨_, L1, o1, rfl, q1, q2, hst.trans q3⟩
theorem tick_at (hr : Rep W L o S) (hb : L.bg = bg) (hst : Step (fun t => t ≠ .no) w0 o0 W o) (hw : WF S) :
    Calls Tryz.prog 23 #[.pointer (some ⟨bg, 0, none⟩), .agg #[.int .i64 5, .int .i64 0, .int .i64 0, .string ⟨#[]⟩]] W fun e' w' => ∃ v L1 o1, e' = .returned v ∧ Rep w' L1 o1 (tickM S) ∧ L1.bg = bg ∧ Step (fun t => t ≠ .no) w0 o0 w' o1 :=
  do_at hr hb hst hw tickE (by have h0 := hw.log; exact h0) (congrArg Prod.fst (step_tick S))
theorem holder_at (hr : Rep W L o S) (hb : L.bg = bg) {h : Int} (hh : S.tb.holder = h) : Calls Tryz.prog 21 #[.pointer (some ⟨bg, 0, none⟩)] W fun e w' => e = .returned (.int .i64 h) ∧ w' = W := by
  subst hb hh
  exact bholder_calls W L o S hr
theorem role_at (hr : Rep W L o S) (hb : L.bg = bg) {i : Int} (hi : 0 ≤ i ∧ i ≤ 255) {b : Bool} (hh : (S.tb.roles i).isSome = b) : Calls Tryz.prog 24 #[.pointer (some ⟨bg, 0, none⟩), .int .i64 i] W fun e w' => e = .returned (.tuple #[.int .i64 (S.tb.role i), .bool b]) ∧ w' = W := by
  subst hb hh
  exact brole_calls W L o S i hr (wf255 hi.1 hi.2)
theorem users_at (hr : Rep W L o S) (hb : L.bg = bg) (hst : Step (fun t => t ≠ .no) w0 o0 W o) {m : Nat} (hm : S.tb.users.length = m) : Calls Tryz.prog 22 #[.pointer (some ⟨bg, 0, none⟩)] W fun e w' => ∃ A c, e = .returned (.slice A m c) ∧ Rep w' L o S ∧ Step (fun t => t ≠ .no) w0 o0 w' o := by
  subst hb hm
  refine (busers_calls W L o S hr).mono ?_
  rintro e w' ⟨v, rfl, q1, q2⟩
  obtain ⟨A, c, rfl⟩ := own_slice q1
  exact ⟨A, c, rfl, hr.quiet q2, hst.more q2 (fun _ h => h.elim)⟩
end
theorem fr_cellN {N : Nat → Prop} {w w1 : World} (h : Fr N w w1) {ad : Addr} {v : Value} (hc : w.cell? ad = some v) (hn : ¬ N ad.block) : w1.cell? ad = some v := by
  rw [World.cell?_of_block (h.block _ (World.block_lt_of_cell? w _ hc) hn)]; exact hc

set_option maxRecDepth 100000 in
set_option maxHeartbeats 32000000 in
theorem waits_calls (a b : Int) (L : List Ev) (A : Option Addr) (cp : Nat) (w : World) (hlib : LibOK w) (hr : ReadsEv w A L) :
    Calls Tryz.prog 7 #[.int .i64 a, .int .i64 b, .slice A L.length cp] w fun e w' => e = .returned (.bool true) ∧ Fr nope w w' := by
  have HLIB := Aside0.mk hlib
  have HR := Aside0.mk hr
  obtain ⟨x, hx⟩ : ∃ x, bits .and .i64 a 7 = x := ⟨_, rfl⟩
  obtain ⟨y, hy⟩ : ∃ y, bits .and .i64 b 7 = y := ⟨_, rfl⟩
  have hxa := and7 a
  have hyb := and7 b
  rw [hx] at hxa
  rw [hy] at hyb
  obtain ⟨l, hl⟩ : ∃ l : Nat, l = (1 + a % 8).toNat := ⟨_, rfl⟩
  obtain ⟨u, hu⟩ : ∃ u : Nat, u = (2 + b % 8).toNat := ⟨_, rfl⟩
  have hl1 : 1 ≤ l ∧ l ≤ 8 := by omega
  have hu2 : 2 ≤ u ∧ u ≤ 9 := by omega
  have hw1 : IntKind.i64.wrap (1 + x) = (l : Int) := by rw [IntKind.wrap_i64]; omega
  have hw2 : IntKind.i64.wrap (2 + y) = (u : Int) := by rw [IntKind.wrap_i64]; omega
  clear hlib hr hl hu hxa hyb
  go_enter Tryz.func7, Tryz.ntmps7
  go_wp2_with (first | (go_at_call 9; (with_reducible refine (alive_calls _ HLIB.out).mono ?_); rintro e1 w1 ⟨rfl, hf1⟩; have HF1 := Aside0.mk hf1; clear hf1))
  go_at_call 19
  refine (few_calls L A cp w1 (readsEv_frS HR.out HF1.out (fun _ _ _ h => h))).mono ?_
  rintro e2 w2 ⟨b, rfl, hfew, hf2⟩
  have HF2 : Aside0 (Fr nope w w2) := ⟨HF1.out.trans hf2 (fun _ _ h => h)⟩
  clear hf2 HF1
  cases b
  · clear hfew
    go_wp2
    go_returns
    exact ⟨rfl, HF2.out⟩
  have H120 := Aside0.mk (hfew rfl)
  clear hfew
  go_wp2_with (first | (go_at_call 20; (with_reducible refine (default_calls _).mono ?_); unfold cfV cfD; rintro e3 w3 ⟨rfl, hf3⟩; have HF3 := Aside0.mk (HF2.out.trans (Fr.of_below (S := nope) hf3) (fun _ _ h => h)); clear hf3))
  have HC : Aside0 ((w3.alloc (.cells #[.int .i64 4096, .int .i64 512, .int .i64 60000, .int .i64 256, .int .i64 3, .int .i64 (l : Int), .int .i64 0, .int .i64 80] 23)).heap[w3.heap.size]? = some (.cells (cfCells (cfW l)) 23 (0, 0))) := ⟨blk_new _ _⟩
  obtain ⟨sa1, sa2, sa3, sa4, sa5, sa6⟩ := wait_start hu2 hl1
  have HSA := Aside0.mk (And.intro sa1 (And.intro sa2 (And.intro sa3 (And.intro sa4 (And.intro sa5 sa6)))))
  clear sa1 sa2 sa3 sa4 sa5 sa6 hw1 hw2 hx hy
  go_loopw [8, 9] (fun v8 v9 wr => ∃ (k : Nat) (A8 : Option Addr) (c8 : Nat), v9 = .int .i64 ((k : Int) + 1) ∧ k ≤ u ∧ v8 = .slice A8 (3 * k) c8 ∧ Aside0 (OwnsEv (w3.heap.size + 1) wr (.slice A8 (3 * k) c8) (waitL k)) ∧ Aside0 (Fr nope (w3.alloc (.cells #[.int .i64 4096, .int .i64 512, .int .i64 60000, .int .i64 256, .int .i64 3, .int .i64 (l : Int), .int .i64 0, .int .i64 80] 23)) wr)) (fun _ v9 _ => u + 1 - (intOf v9).toNat)
  case atStart => exact ⟨0, _, 0, rfl, Nat.zero_le _, rfl, ⟨by have h := World.ownsRow_made (e := 33) (size := 4) (w3.alloc (.cells #[.int .i64 4096, .int .i64 512, .int .i64 60000, .int .i64 256, .int .i64 3, .int .i64 (l : Int), .int .i64 0, .int .i64 80] 23)) #[] 0 (Nat.le_refl _) (by unfold maxLen; omega) rfl; rw [World.size_alloc] at h; exact h⟩, ⟨(Fr.refl nope _).alloc _⟩⟩
  case round =>
    obtain ⟨k, A8, c8, rfl, hk, rfl, HO, HF⟩ := hrel
    by_cases hlt : k < u
    · have hle : ((k : Int) + 1) ≤ (u : Int) := by omega
      have hwk : IntKind.i64.wrap ((k : Int) + 1 + 1) = (k : Int) + 1 + 1 := by rw [IntKind.wrap_i64]; omega
      have hws : w3.heap.size + 1 ≤ wr.heap.size := by have h := HF.out.size; rw [World.size_alloc] at h; exact h
      have HCM : Aside0 (∀ W, Calls Tryz.prog 12 #[.int .i64 ((k : Int) + 1), .string ⟨#[102, 108, 111, 111, 114]⟩] W (QV W (cmdE ((k : Int) + 1) floorS))) := ⟨fun W => command_calls _ floorS W (by decide)⟩
      have hln : 3 * k + 2 + 1 = 3 * (k + 1) := by omega
      go_wp2_with (first | (go_at_call 11; (with_reducible refine (comes_calls ((k : Int) + 1) true 0 _).mono ?_); rintro e4 w4 ⟨v4, rfl, ho4, hf4⟩; obtain ⟨A4, c4, rfl⟩ := own_slice ho4; have HO4 := Aside0.mk ho4; have HF4 := Aside0.mk (HF.out.trans hf4 (fun _ _ h => h)); have HO84 := Aside0.mk (hf4.own HO.out (fun _ _ h => h)); have hs4 := hf4.size; clear ho4 hf4) | ((with_reducible refine gate_builtin (b := .append) (xs := #[.tmp 41, .tmp 43]) rfl ?_); at_builtin; refine app_evs rfl (.tmp 41) (.tmp 43) rfl (w3.heap.size + 1) wr.heap.size (.slice A8 (3 * k) c8) (waitL k) (comesL ((k : Int) + 1) true 0) A4 2 c4 (3 * k + 2) rfl (by rw [List.length_append, waitL_len]; rfl) (by decide) rfl rfl HO84.out HO4.out (by rw [waitL_len]; omega) (by omega) ?_; intro A5 c5 w5 ho5 hf5; have HO5 := Aside0.mk ho5; have HF5 := Aside0.mk (HF4.out.trans hf5 (fun i hi hs => by have := (own_old HO84.out hs).1; rw [World.size_alloc] at hi; omega)); have hs5 := hf5.size; clear ho5 hf5) | (go_at_call 12; (with_reducible refine (HCM.out _).mono ?_); unfold QV evV; rintro e6 w6 ⟨rfl, hf6⟩; have HF6 := Aside0.mk (HF5.out.trans hf6 (fun _ _ h => h)); have HO56 := Aside0.mk (hf6.own HO5.out (fun _ _ h => h)); have hs6 := hf6.size; clear hf6) | ((with_reducible refine gate_builtin (b := .append) (xs := #[.tmp 45, .tmp 48]) rfl ?_); at_builtin; refine app_evs rfl (.tmp 45) (.tmp 48) rfl (w3.heap.size + 1) w6.heap.size (.slice A5 (3 * k + 2) c5) (waitL k ++ comesL ((k : Int) + 1) true 0) [cmdE ((k : Int) + 1) floorS] (some ⟨w6.heap.size, 0, none⟩) 1 1 (3 * (k + 1)) rfl (by rw [List.length_append, List.length_append, waitL_len, ← hln]; rfl) (by decide) rfl rfl (HO56.out.alloc _) (own_litE w6 w6.heap.size _ 1 _ rfl rfl (Nat.le_refl _) (by decide)) (by rw [List.length_append, waitL_len]; show 3 * k + 2 + 1 ≤ 100000; omega) (by rw [World.size_alloc]; omega) ?_; intro A7 c7 w7 ho7 hf7; have HO7 : Aside0 (OwnsEv (w3.heap.size + 1) w7 (.slice A7 (3 * (k + 1)) c7) (waitL (k + 1))) := ⟨by rw [waitL_succ]; exact ho7⟩; have HF7 := Aside0.mk ((HF6.out.alloc (.cells #[.int .i64 (cmdE ((k : Int) + 1) floorS).k, .int .i64 (cmdE ((k : Int) + 1) floorS).i, .int .i64 (cmdE ((k : Int) + 1) floorS).n, .string (cmdE ((k : Int) + 1) floorS).d] 33)).trans hf7 (fun i hi hs => by have := (own_old HO56.out hs).1; rw [World.size_alloc] at hi; omega)); clear ho7 hf7))
      refine ⟨⟨k + 1, A7, c7, ?_, by omega, rfl, HO7, HF7⟩, ?_⟩
      · first | rfl | (push_cast; rfl)
      · show u + 1 - ((k : Int) + 1 + 1).toNat < u + 1 - ((k : Int) + 1).toNat
        omega
    · have hku : k = u := by omega
      subst hku
      rename World => wA
      have hnle : ¬ ((k : Int) + 1) ≤ (k : Int) := by omega
      have hB := HF.out.blk HC.out (fun h => h)
      obtain ⟨c0, c1, c2, c3, c4, c5, c6, c7⟩ := cells8 hB
      unfold cfW at c0 c1 c2 c3 c4 c5 c6 c7
      simp only at c0 c1 c2 c3 c4 c5 c6 c7
      have HRD := Aside0.mk (reads_of_own HO.out HSA.out.1 (by rw [waitL_len]; omega))
      have HFA : Aside0 (Fr nope w wA) := ⟨(HF3.out.alloc _).trans HF.out (fun _ _ h => h)⟩
      obtain ⟨S0, hS0⟩ : ∃ S0, S0 = (run (waitL k) (stNew (cfW l))).1 := ⟨_, rfl⟩
      have hWT := HSA.out.2.2.2.2.2
      have hlog := HSA.out.2.2.2.2.1
      rw [← hS0] at hWT hlog
      have HWT := Aside0.mk hWT
      have HLOG := Aside0.mk hlog
      have HPL : Aside0 (Calls Tryz.prog 15 #[.agg #[.int .i64 4096, .int .i64 512, .int .i64 60000, .int .i64 256, .int .i64 3, .int .i64 (l : Int), .int .i64 0, .int .i64 80], .slice A8 (3 * k) c8] wA fun e w' => ∃ L o v, e = .returned (.tuple #[.pointer (some ⟨L.bg, 0, none⟩), v, .bool true]) ∧ Rep w' L o S0 ∧ Fr nope wA w' ∧ ∀ b, b < wA.heap.size → o b = .no) := ⟨by
        have hq := played_calls (cfW l) (waitL k) A8 c8 wA (HLIB.out.fr HFA.out (fun _ _ h => h)) HSA.out.2.1 HSA.out.1 (by rw [HSA.out.2.2.2.1]; omega) (by rw [waitL_len]; omega) (by have := HSA.out.2.2.1; omega) HRD.out
        rw [waitL_len] at hq
        refine hq.mono ?_
        rintro e w' ⟨L', o', v, rfl, q1, q2, q3, q4, q5⟩
        exact ⟨L', o', v, rfl, by rw [hS0]; exact q1, q2, q3⟩⟩
      have HB := Aside0.mk hB
      clear hlt hk hB hWT hlog hS0
      go_wp2_with (first | (go_at_call 15; (with_reducible refine HPL.out.mono ?_); rintro e4 w4 ⟨L4, o4, v4, rfl, hr4, hf4, hn4⟩; have HR4 := Aside0.mk hr4; have HF4 := Aside0.mk hf4; have HN4 := Aside0.mk hn4; clear hr4 hf4 hn4 c0 c1 c2 c3 c4 c5 c6 c7))
      have HFw4 : Aside0 (Fr nope w w4) := ⟨HFA.out.trans HF4.out (fun _ _ h => h)⟩
      go_loopw [13, 62] (fun v13 v62 wr => ∃ (j n g c : Nat), v62 = .int .i64 j ∧ j ≤ L.length ∧ v13 = .slice (some ⟨g, 0, none⟩) n c ∧ n ≤ j ∧ Aside0 ((noiseL (L.take j)).length = n) ∧ Aside0 (wr.ownsRow w4.heap.size 33 4 (.slice (some ⟨g, 0, none⟩) n c) n (evs (noiseL (L.take j)))) ∧ Aside0 (Fr nope w4 wr)) (fun _ v62 _ => L.length - (intOf v62).toNat)
      case atStart => exact ⟨0, 0, _, 0, rfl, Nat.zero_le _, rfl, Nat.le_refl _, ⟨rfl⟩, ⟨World.ownsRow_made w4 #[] 0 (Nat.le_refl _) (by unfold maxLen; omega) rfl⟩, ⟨(Fr.refl nope _).alloc _⟩⟩
      case round =>
        obtain ⟨j, n, g, c, rfl, hj, rfl, hnj, HN, HO8, HFj⟩ := hrel
        have HFw : Aside0 (Fr nope w wr) := ⟨HFw4.out.trans HFj.out (fun _ _ h => h)⟩
        have hws : w4.heap.size ≤ wr.heap.size := HFj.out.size
        have h120 := H120.out.2.1
        by_cases hlt : j < L.length
        · obtain ⟨e, he⟩ : ∃ e, L.getD j ev0 = e := ⟨_, rfl⟩
          obtain ⟨ae, hA, g0, g1, g2, g3, hsz⟩ := evCells HR.out j hlt e he HFw.out
          subst hA
          have hz := noise_snoc L j hlt e he
          have hkk : (j : Int) < (L.length : Int) := by omega
          have hk0 : (0 : Int) ≤ (j : Int) := by omega
          have hw2 : IntKind.i64.wrap ((j : Int) + 1) = ((j + 1 : Nat) : Int) := by rw [IntKind.wrap_i64]; push_cast; omega
          have hael := World.block_lt_of_cell? _ _ g0
          have hnl : n ≤ 120 := by omega
          by_cases hno : isNoise e = true
          · rw [if_pos hno] at hz
            have HZ := Aside0.mk hz
            have hkk3 : e.k = 3 ∨ e.k = 2 ∨ e.k = 4 := of_decide_eq_true hno
            have ht : ((e.k == 3) = true) ∨ ((e.k == 3) = false ∧ (e.k == 2) = true) ∨ ((e.k == 3) = false ∧ (e.k == 2) = false ∧ (e.k == 4) = true) := by
              rcases hkk3 with h | h | h <;> rw [h] <;> decide
            clear hz he hno hkk3
            rcases ht with t1 | ⟨t1, t2⟩ | ⟨t1, t2, t3⟩
            all_goals
              go_wp2_with (first | ((with_reducible refine gate_builtin (b := .append) (xs := #[.tmp 79, .tmp 81]) rfl ?_); at_builtin; refine app_lit rfl (.tmp 79) (.tmp 81) 27 33 (.agg #[.int .i64 0, .int .i64 0, .int .i64 0, .string ⟨#[]⟩]) 4 40 rfl Tryz.underlying27 infoEv4 (by decide) (by decide) w4.heap.size (.slice (some ⟨g, 0, none⟩) n c) n (evs (noiseL (L.take j))) (wr.heap.size + 1) 1 #[.int .i64 e.k, .int .i64 e.i, .int .i64 e.n, .string e.d] 33 rfl rfl ?aG rfl ?a1 ?aO ?aB ?aN (by decide) ?_; (case aG => exact blk_second wr _ _); (case a1 => intro u hu; simp only [List.mem_cons, List.not_mem_nil, or_false] at hu; rcases hu with rfl | rfl | rfl | rfl <;> rfl); (case aO => exact (HO8.out.alloc _).alloc _); (case aB => exact (by rw [World.size_alloc, World.size_alloc]; omega)); (case aN => exact (by omega)); intro v5 w7 ho7 hf7 hat7; obtain ⟨A7, c7', rfl⟩ := own_slice ho7; obtain ⟨g7, rfl⟩ := own_some ho7 (by omega); have HO7 := Aside0.mk ho7; have HF7 := Aside0.mk (((HFj.out.alloc (.cells #[.int .i64 e.k, .int .i64 e.i, .int .i64 e.n, .string e.d] 33)).alloc (.cells #[.int .i64 e.k, .int .i64 e.i, .int .i64 e.n, .string e.d] 33)).trans hf7 (fun i hi hs => by have := (own_old HO8.out hs).1; omega)); clear ho7 hf7 hat7))
              refine ⟨⟨j + 1, n + 1, g7, c7', ?_, by omega, rfl, by omega, ⟨by rw [HZ.out, List.length_append, HN.out]; rfl⟩, ⟨by rw [HZ.out, evs_snoc]; exact HO7.out⟩, HF7⟩, ?_⟩
              · first | rfl | (push_cast; rfl)
              · simp only [intOf]; omega
          · rw [if_neg hno, List.append_nil] at hz
            have HZ := Aside0.mk hz
            have hkk3 : ¬ (e.k = 3 ∨ e.k = 2 ∨ e.k = 4) := fun h => hno (decide_eq_true h)
            have t1 : (e.k == 3) = false := by simp; omega
            have t2 : (e.k == 2) = false := by simp; omega
            have t3 : (e.k == 4) = false := by simp; omega
            clear hz he hno hkk3
            go_wp2
            refine ⟨⟨j + 1, n, g, c, ?_, by omega, rfl, by omega, ⟨by rw [HZ.out]; exact HN.out⟩, ⟨by rw [HZ.out]; exact HO8.out.alloc _⟩, ⟨HFj.out.alloc _⟩⟩, ?_⟩
            · first | rfl | (push_cast; rfl)
            · simp only [intOf]; omega
        · have hjn : ¬ (j : Int) < (L.length : Int) := by omega
          have hjl : j = L.length := by omega
          rw [hjl, List.take_length] at HN HO8
          obtain ⟨NL, hNL⟩ : ∃ NL, NL = noiseL L := ⟨_, rfl⟩
          rw [← hNL] at HN HO8
          have hsub : NL.Sublist L := by rw [hNL]; exact List.filter_sublist
          have hNe : ∀ e ∈ NL, evB e = true := fun e he => H120.out.1 e (hsub.subset he)
          have hNo : outSum NL ≤ 6000 := Nat.le_trans (outSum_sub hsub) (Nat.le_trans (outSum_sz L) H120.out.2.2)
          have hNis : ∀ q e, q < NL.length → NL.getD q ev0 = e → isNoise e = true := fun q e hq he => by rw [hNL] at hq he; exact isNoise_mem hq he
          have hNl : NL.length = n := HN.out
          have hn120 : n ≤ 120 := by omega
          have HNIS := Aside0.mk hNis
          rename World => wN
          have HRN : Aside0 (ReadsEv wN (some ⟨g, 0, none⟩) NL) := ⟨reads_of_own (base := w4.heap.size) (m := n) (c := c) (by unfold OwnsEv; rw [hNl]; exact HO8.out) hNe (by omega)⟩
          have hg4 : w4.heap.size ≤ g := (own_old HO8.out (i := g) rfl).1
          have HGN : Aside0 (o4 g = .no) := ⟨HR4.out.fresh g hg4⟩
          have hcl := fr_cell HFj.out (fr_cell HF4.out ((blk_cell HB.out 5).trans rfl))
          have HCL : Aside0 (wN.cell? ⟨w3.heap.size, 5, none⟩ = some (.int .i64 (l : Int))) := ⟨hcl⟩
          have HCN : Aside0 (o4 w3.heap.size = .no) := ⟨HN4.out _ (blk_lt HB.out)⟩
          have HRN0 : Aside0 (Rep wN L4 o4 S0) := ⟨HR4.out.quiet HFj.out⟩
          have HST0 : Aside0 (Step (fun t => t ≠ .no) wN o4 wN o4) := ⟨HRN0.out.step (Fr.refl nope wN)⟩
          have HEND : Aside0 (∀ W o, Step (fun t => t ≠ .no) wN o4 W o → Fr nope w W) := ⟨fun W o hst => HFw.out.trans hst.fr (fun b hb hs => hs (HN4.out b (Nat.lt_of_lt_of_le hb HFA.out.size)))⟩
          have HL0 : Aside0 (S0.log.length + outSum (NL.drop 0) ≤ 8100) := ⟨by rw [HLOG.out]; show 0 + outSum NL ≤ 8100; omega⟩
          have HNLL := Aside0.mk hNl
          obtain ⟨rl, hrl⟩ : ∃ rl, rl = S0.tb.roles := ⟨_, rfl⟩
          rw [← hrl] at HWT
          clear hjl hNL hsub hNe hNo hNis hNl hg4 hcl hlt hj hnj hrl hws
          go_wp2
          go_loopw [16, 17] (fun v16 v17 wr => ∃ (h kk : Nat) (L5 : Lay) (o5 : Own) (S5 : St), v16 = .int .i64 kk ∧ v17 = .int .i64 h ∧ 1 ≤ h ∧ h ≤ k + 1 ∧ kk ≤ n ∧ Aside0 (Rep wr L5 o5 S5) ∧ Aside0 (L5.bg = L4.bg) ∧ Aside0 (Step (fun t => t ≠ .no) wN o4 wr o5) ∧ Aside0 (Wt rl k l (min h k) 0 S5) ∧ Aside0 (S5.log.length + outSum (NL.drop kk) ≤ 8100)) (fun _ v17 _ => k + 1 - (intOf v17).toNat)
          case atStart => exact ⟨1, 0, L4, o4, S0, rfl, rfl, Nat.le_refl _, by omega, Nat.zero_le _, HRN0, ⟨rfl⟩, HST0, ⟨by rw [show min 1 k = 1 by omega]; exact HWT.out⟩, HL0⟩
          case round =>
            obtain ⟨h, kk, L5, o5, S5, rfl, rfl, hh1, hh2, hkn, HR5, HB5, HS5, HW5, HL5⟩ := hrel
            by_cases hle : h ≤ k
            · have hle1 : (h : Int) ≤ (k : Int) := by omega
              rename World => wO
              go_wp2
              go_loopw [16, 18] (fun v16 v18 wr => ∃ (i kk : Nat) (L6 : Lay) (o6 : Own) (S6 : St), v16 = .int .i64 kk ∧ v18 = .int .i64 i ∧ i ≤ l ∧ kk ≤ n ∧ Aside0 (Rep wr L6 o6 S6) ∧ Aside0 (L6.bg = L4.bg) ∧ Aside0 (Step (fun t => t ≠ .no) wN o4 wr o6) ∧ Aside0 (if i < l then Wt rl k l h i S6 else Wt rl k l (min (h + 1) k) 0 S6) ∧ Aside0 (S6.log.length + outSum (NL.drop kk) ≤ 8100)) (fun _ v18 _ => l - (intOf v18).toNat)
              case atStart => exact ⟨0, kk, L5, o5, S5, rfl, rfl, Nat.zero_le _, hkn, HR5, HB5, HS5, ⟨by rw [if_pos (by omega)]; have h0 := HW5.out; rw [show min h k = h by omega] at h0; exact h0⟩, HL5⟩
              case round =>
                clear HR5 HB5 HS5 HW5 HL5 hkn
                obtain ⟨i, kk, L6, o6, S6, rfl, rfl, hil, hkn, HR6, HB6, HS6, HW6, HL6⟩ := hrel
                have c5 : wr.cell? ⟨w3.heap.size, 5, none⟩ = some (.int .i64 (l : Int)) := fr_cellN HS6.out.fr HCL.out (fun hx => hx HCN.out)
                by_cases hlt : i < l
                · have hlt1 : (i : Int) < (l : Int) := by omega
                  have hwi : IntKind.i64.wrap ((i : Int) + 1) = ((i + 1 : Nat) : Int) := by rw [IntKind.wrap_i64]; push_cast; omega
                  rw [if_pos hlt] at HW6
                  have hhold : S6.tb.holder = (h : Int) := by rw [HW6.out.tb]
                  have HHOLD := Aside0.mk hhold
                  have HLT := Aside0.mk hlt
                  clear hhold
                  by_cases hkk : kk < n
                  · have hkk1 : (kk : Int) < (n : Int) := by omega
                    have hwk : IntKind.i64.wrap ((kk : Int) + 1) = ((kk + 1 : Nat) : Int) := by rw [IntKind.wrap_i64]; push_cast; omega
                    have hk0 : (0 : Int) ≤ (kk : Int) := by omega
                    obtain ⟨e, he⟩ : ∃ e, NL.getD kk ev0 = e := ⟨_, rfl⟩
                    have hre := readsEv_frS HRN.out HS6.out.fr (fun _ ad ea hx => by cases ea; exact hx HGN.out)
                    obtain ⟨ae, hA, g0, g1, g2, g3, hsz⟩ := evCells hre kk (by rw [HNLL.out]; exact hkk) e he (Fr.refl nope wr)
                    cases hA
                    have hadd : (⟨g, 0, none⟩ : Addr).add (kk * 4) = ⟨g, kk * 4, none⟩ := by unfold Addr.add; split <;> simp_all
                    rw [hadd] at g0 g1 g2 g3
                    simp only at g1 g2 g3
                    clear hadd
                    have hael := World.block_lt_of_cell? _ _ g0
                    have hod := outSum_drop NL kk (by rw [HNLL.out]; exact hkk) e he
                    have hise := HNIS.out kk e (by rw [HNLL.out]; exact hkk) he
                    have hl6 := HL6.out
                    have hdl : S6.log.length + outLen e ≤ 8100 := by omega
                    obtain ⟨q1, q2, q3, q4, q5, q6⟩ := wt_noise HW6.out hise hdl
                    obtain ⟨S1, hS1⟩ : ∃ S1, (Mod.step S6 e).1 = S1 := ⟨_, rfl⟩
                    rw [hS1] at q1 q2 q3 q4 q5 q6
                    have HQ := Aside0.mk (And.intro q1 (And.intro q2 (And.intro q3 q6)))
                    have HL1 : Aside0 (S1.log.length + outSum (NL.drop (kk + 1)) ≤ 8100) := ⟨by omega⟩
                    have HDL := Aside0.mk (And.intro hdl hS1)
                    clear he hre hod hise hl6 hdl q1 q2 q3 q4 q5 q6 hS1 hlt hkk
                    cases hro : (S1.tb.roles (h : Int)).isSome
                    · have HRO := Aside0.mk hro
                      clear hro
                      go_wp2_with (first | (go_at_call 21; (with_reducible refine (holder_at HR6.out HB6.out HHOLD.out).mono ?_); rintro e21 w21 ⟨rfl, hw21⟩; have hw21 := hw21.symm; subst hw21) | (go_at_call 23; (with_reducible refine (do_at HR6.out HB6.out HS6.out HW6.out.wf e HDL.out.1 HDL.out.2).mono ?_); rintro e23 w23 ⟨v23, L8, o8, rfl, hr8, hb8, hs8⟩; have HR8 := Aside0.mk hr8; have HB8 := Aside0.mk hb8; have HS8 := Aside0.mk hs8; clear hr8 hb8 hs8) | (go_at_call 24; (with_reducible refine (role_at HR8.out HB8.out (i := (h : Int)) (by omega) HRO.out).mono ?_); rintro e24 w24 ⟨rfl, hw24⟩; have hw24 := hw24.symm; subst hw24))
                      go_returns
                      exact ⟨rfl, HEND.out _ _ HS8.out⟩
                    · have HRO := Aside0.mk hro
                      clear hro
                      obtain ⟨m, hm⟩ : ∃ m, (tickM S1).tb.users.length = m := ⟨_, rfl⟩
                      have HM := Aside0.mk hm
                      clear hm
                      by_cases hmk : m = k
                      · have hmk1 : ((m : Int) == (k : Int)) = true := by simp [hmk]
                        have HN1 := Aside0.mk (wait_round (i := i) ⟨hh1, hle⟩ HLT.out HQ.out.1 HQ.out.2.1 HQ.out.2.2.1 HQ.out.2.2.2 (HM.out.trans hmk))
                        have HL2 : Aside0 ((tickM S1).log.length + outSum (NL.drop (kk + 1)) ≤ 8100) := ⟨by rw [tick_log HQ.out.1]; exact HL1.out⟩
                        clear hmk
                        go_wp2_with (first | (go_at_call 21; (with_reducible refine (holder_at HR6.out HB6.out HHOLD.out).mono ?_); rintro e21 w21 ⟨rfl, hw21⟩; have hw21 := hw21.symm; subst hw21) | (go_at_call 23; (with_reducible refine (do_at HR6.out HB6.out HS6.out HW6.out.wf e HDL.out.1 HDL.out.2).mono ?_); rintro e23 w23 ⟨v23, L8, o8, rfl, hr8, hb8, hs8⟩; have HR8 := Aside0.mk hr8; have HB8 := Aside0.mk hb8; have HS8 := Aside0.mk hs8; clear hr8 hb8 hs8) | (go_at_call 24; (with_reducible refine (role_at HR8.out HB8.out (i := (h : Int)) (by omega) HRO.out).mono ?_); rintro e24 w24 ⟨rfl, hw24⟩; have hw24 := hw24.symm; subst hw24) | (go_at_call 23; (with_reducible refine (tick_at HR8.out HB8.out HS8.out HQ.out.1).mono ?_); rintro e25 w25 ⟨v25, L9, o9, rfl, hr9, hb9, hs9⟩; have HR9 := Aside0.mk hr9; have HB9 := Aside0.mk hb9; have HS9 := Aside0.mk hs9; clear hr9 hb9 hs9) | (go_at_call 22; (with_reducible refine (users_at HR9.out HB9.out HS9.out HM.out).mono ?_); rintro e26 w26 ⟨A26, c26, rfl, hr26, hs26⟩; have HR10 := Aside0.mk hr26; have HS10 := Aside0.mk hs26; clear hr26 hs26))
                        refine ⟨⟨i + 1, kk + 1, L9, o9, tickM S1, ?_, ?_, by omega, by omega, HR10, HB9, HS10, HN1, HL2⟩, ?_⟩
                        · first | rfl | (push_cast; rfl)
                        · first | rfl | (push_cast; rfl)
                        · simp only [intOf]; omega
                      · have hmk1 : ((m : Int) == (k : Int)) = false := by simp; omega
                        clear hmk
                        go_wp2_with (first | (go_at_call 21; (with_reducible refine (holder_at HR6.out HB6.out HHOLD.out).mono ?_); rintro e21 w21 ⟨rfl, hw21⟩; have hw21 := hw21.symm; subst hw21) | (go_at_call 23; (with_reducible refine (do_at HR6.out HB6.out HS6.out HW6.out.wf e HDL.out.1 HDL.out.2).mono ?_); rintro e23 w23 ⟨v23, L8, o8, rfl, hr8, hb8, hs8⟩; have HR8 := Aside0.mk hr8; have HB8 := Aside0.mk hb8; have HS8 := Aside0.mk hs8; clear hr8 hb8 hs8) | (go_at_call 24; (with_reducible refine (role_at HR8.out HB8.out (i := (h : Int)) (by omega) HRO.out).mono ?_); rintro e24 w24 ⟨rfl, hw24⟩; have hw24 := hw24.symm; subst hw24) | (go_at_call 23; (with_reducible refine (tick_at HR8.out HB8.out HS8.out HQ.out.1).mono ?_); rintro e25 w25 ⟨v25, L9, o9, rfl, hr9, hb9, hs9⟩; have HR9 := Aside0.mk hr9; have HB9 := Aside0.mk hb9; have HS9 := Aside0.mk hs9; clear hr9 hb9 hs9) | (go_at_call 22; (with_reducible refine (users_at HR9.out HB9.out HS9.out HM.out).mono ?_); rintro e26 w26 ⟨A26, c26, rfl, hr26, hs26⟩; have HR10 := Aside0.mk hr26; have HS10 := Aside0.mk hs26; clear hr26 hs26))
                        go_returns
                        exact ⟨rfl, HEND.out _ _ HS10.out⟩
                  · have hkk1 : ¬ (kk : Int) < (n : Int) := by omega
                    have HQ := Aside0.mk (And.intro HW6.out.wf (And.intro HW6.out.ou (And.intro HW6.out.idle (show nOpen S6 < k ∨ Wt rl k l h i S6 from .inr HW6.out))))
                    obtain ⟨S1, hS1⟩ : ∃ S1, S6 = S1 := ⟨_, rfl⟩
                    have HSS := Aside0.mk hS1
                    clear hlt hkk
                    subst hS1
                    cases hro : (S6.tb.roles (h : Int)).isSome
                    · have HRO := Aside0.mk hro
                      clear hro
                      go_wp2_with (first | (go_at_call 21; (with_reducible refine (holder_at HR6.out HB6.out HHOLD.out).mono ?_); rintro e21 w21 ⟨rfl, hw21⟩; have hw21 := hw21.symm; subst hw21) | (go_at_call 24; (with_reducible refine (role_at HR6.out HB6.out (i := (h : Int)) (by omega) HRO.out).mono ?_); rintro e24 w24 ⟨rfl, hw24⟩; have hw24 := hw24.symm; subst hw24))
                      go_returns
                      exact ⟨rfl, HEND.out _ _ HS6.out⟩
                    · have HRO := Aside0.mk hro
                      clear hro
                      obtain ⟨m, hm⟩ : ∃ m, (tickM S6).tb.users.length = m := ⟨_, rfl⟩
                      have HM := Aside0.mk hm
                      clear hm
                      by_cases hmk : m = k
                      · have hmk1 : ((m : Int) == (k : Int)) = true := by simp [hmk]
                        have HN1 := Aside0.mk (wait_round (i := i) ⟨hh1, hle⟩ HLT.out HQ.out.1 HQ.out.2.1 HQ.out.2.2.1 HQ.out.2.2.2 (HM.out.trans hmk))
                        have HL2 : Aside0 ((tickM S6).log.length + outSum (NL.drop kk) ≤ 8100) := ⟨by rw [tick_log HQ.out.1]; exact HL6.out⟩
                        clear hmk
                        go_wp2_with (first | (go_at_call 21; (with_reducible refine (holder_at HR6.out HB6.out HHOLD.out).mono ?_); rintro e21 w21 ⟨rfl, hw21⟩; have hw21 := hw21.symm; subst hw21) | (go_at_call 24; (with_reducible refine (role_at HR6.out HB6.out (i := (h : Int)) (by omega) HRO.out).mono ?_); rintro e24 w24 ⟨rfl, hw24⟩; have hw24 := hw24.symm; subst hw24) | (go_at_call 23; (with_reducible refine (tick_at HR6.out HB6.out HS6.out HQ.out.1).mono ?_); rintro e25 w25 ⟨v25, L9, o9, rfl, hr9, hb9, hs9⟩; have HR9 := Aside0.mk hr9; have HB9 := Aside0.mk hb9; have HS9 := Aside0.mk hs9; clear hr9 hb9 hs9) | (go_at_call 22; (with_reducible refine (users_at HR9.out HB9.out HS9.out HM.out).mono ?_); rintro e26 w26 ⟨A26, c26, rfl, hr26, hs26⟩; have HR10 := Aside0.mk hr26; have HS10 := Aside0.mk hs26; clear hr26 hs26))
                        refine ⟨⟨i + 1, kk, L9, o9, tickM S6, ?_, ?_, by omega, by omega, HR10, HB9, HS10, HN1, HL2⟩, ?_⟩
                        · first | rfl | (push_cast; rfl)
                        · first | rfl | (push_cast; rfl)
                        · simp only [intOf]; omega
                      · have hmk1 : ((m : Int) == (k : Int)) = false := by simp; omega
                        clear hmk
                        go_wp2_with (first | (go_at_call 21; (with_reducible refine (holder_at HR6.out HB6.out HHOLD.out).mono ?_); rintro e21 w21 ⟨rfl, hw21⟩; have hw21 := hw21.symm; subst hw21) | (go_at_call 24; (with_reducible refine (role_at HR6.out HB6.out (i := (h : Int)) (by omega) HRO.out).mono ?_); rintro e24 w24 ⟨rfl, hw24⟩; have hw24 := hw24.symm; subst hw24) | (go_at_call 23; (with_reducible refine (tick_at HR6.out HB6.out HS6.out HQ.out.1).mono ?_); rintro e25 w25 ⟨v25, L9, o9, rfl, hr9, hb9, hs9⟩; have HR9 := Aside0.mk hr9; have HB9 := Aside0.mk hb9; have HS9 := Aside0.mk hs9; clear hr9 hb9 hs9) | (go_at_call 22; (with_reducible refine (users_at HR9.out HB9.out HS9.out HM.out).mono ?_); rintro e26 w26 ⟨A26, c26, rfl, hr26, hs26⟩; have HR10 := Aside0.mk hr26; have HS10 := Aside0.mk hs26; clear hr26 hs26))
                        go_returns
                        exact ⟨rfl, HEND.out _ _ HS10.out⟩
                · have hill : i = l := by omega
                  subst hill
                  have hnl : ¬ (i : Int) < (i : Int) := by omega
                  rw [if_neg (by omega)] at HW6
                  have hwh : IntKind.i64.wrap ((h : Int) + 1) = ((h + 1 : Nat) : Int) := by rw [IntKind.wrap_i64]; push_cast; omega
                  clear hlt hil
                  go_wp2
                  refine ⟨⟨h + 1, kk, L6, o6, S6, ?_, ?_, by omega, by omega, hkn, HR6, HB6, HS6, HW6, HL6⟩, ?_⟩
                  · first | rfl | (push_cast; rfl)
                  · first | rfl | (push_cast; rfl)
                  · simp only [intOf]; omega
            · have hhk : h = k + 1 := by omega
              have hnle2 : ¬ (h : Int) ≤ (k : Int) := by omega
              have hho : S5.tb.holder = (k : Int) := by rw [HW5.out.tb, hhk, show min (k + 1) k = k by omega]
              have HHO := Aside0.mk hho
              clear hle hho hhk
              go_wp2_with (first | (go_at_call 21; (with_reducible refine (holder_at HR5.out HB5.out HHO.out).mono ?_); rintro e21 w21 ⟨rfl, hw21⟩; have hw21 := hw21.symm; subst hw21))
              go_returns
              exact ⟨rfl, HEND.out _ _ HS5.out⟩
end Go.Proofs.YtfkamoiamebngaaGreatDoor.BroW

/- The row of WholeWaits: for every input the law returns true, and each argument reads behind the call as it read before. No condition. -/
namespace Go.Proofs.YtfkamoiamebngaaGreatDoor.wholeWaits
open Go.Proofs.YtfkamoiamebngaaGreatDoor.BroW Go.Proofs.YtfkamoiamebngaaGreatDoor.Fr
open Go.ChangeShapes Go.WideShapes Go.ChangeAt Go.RowKit
open Go.ChangeMaps (open_string shut_string)
open Go.Proofs.YtfkamoiamebngaaGreatDoor.Openers
set_option linter.unusedVariables false
set_option maxRecDepth 100000 in
theorem lifted (os : Os) (started : os.Started) (H : Type) (enc : TypeId × Value → H) :
    ReturnsInHanded {} Tryz.checked os 7 .any (fun w args => (Rows.wholeWaitsSpec.pre enc Tryz.prog Tryz.f7 Rows.wholeWaitsRow.domain false w args ∧ laidMetH Tryz.prog laid5 w) ∧ sizedMet enc Tryz.prog Tryz.f7 (OpenSpec.ofChange Rows.wholeWaitsSpec) false w args)
      (Rows.wholeWaitsSpec.post enc Tryz.prog Tryz.f7 false true false false) := by
  refine returnsInHanded_of_change_and (C := Tryz.checked) (X := fun w _ => laidMetH Tryz.prog laid5 w) (fun _ _ _ hh h => h.of_heap hh) ownKnob_no started (by kernel_rfl) Tryz.func7
    (ChangeSpec.witness_shaped (enc := enc) (C := Tryz.checked) (os := os) (X := fun w _ => laidMetH Tryz.prog laid5 w) false (World.doorLaid Tryz.prog 62 os) #[.int .i64 0, .int .i64 0, .slice none 0 0] 8 rfl (door_shaped os _) (by kernel_rfl) (by kernel_rfl) (by kernel_rfl) (door_met os _)) ?_
  intro W base args ds gs before hval0 hW hcnd hsz0 hL _
  have hsz : (DataW.weightsEach Tryz.prog (Tryz.f7.params.toList ++ Rows.wholeWaitsSpec.plain.varTypes Tryz.prog) (ds ++ gs)).all (· ≤ reachBytes) = true := hsz0
  have hval : ∀ (j : Nat) t v, Tryz.f7.params[j]? = some t → args[j]? = some v → Value.okWide Tryz.prog W .any base t v := hval0
  have hW' := hW
  obtain ⟨p, q, hA0, hV, rfl, hfz, hnd⟩ := hW
  have hA : DataW.TrodAll enc Tryz.prog W 0 (fun _ => true) true Tryz.f7.params.toList args.toList ds p := hA0
  rw [Tryz.params7] at hA hval hsz
  obtain ⟨v0, vs0, d0, ds0, p0, q0, hargs, rfl, rfl, h0, r0⟩ := trodAll_cons hA
  obtain ⟨v1, vs1, d1, ds1, p1, q1, rfl, rfl, rfl, h1, r1⟩ := trodAll_cons r0
  obtain ⟨v2, vs2, d2, ds2, p2, q2, rfl, rfl, rfl, h2, r2⟩ := trodAll_cons r1
  obtain ⟨rfl, rfl, rfl⟩ := trodAll_nil r2
  obtain rfl : args = #[v0, v1, v2] := by cases args; simp_all
  obtain ⟨rfl, rfl⟩ := trodVars_none hV
  obtain ⟨a0, rfl, rfl, rfl, w0⟩ := open_int Tryz.underlying3 (hval 0 3 v0 rfl rfl) h0
  obtain ⟨a1, rfl, rfl, rfl, w1⟩ := open_int Tryz.underlying3 (hval 1 3 v1 rfl rfl) h1
  have k2 := h2
  have lt2 : ∀ x ∈ p2, x.block < W.heap.size := by obtain ⟨m, hm⟩ := k2; exact DataW.trod_lt m _ _ _ hm
  obtain ⟨A2, len2, cap2, rfl⟩ := okWide_slice Tryz.underlying27 (hval 2 27 v2 rfl rfl)
  obtain ⟨L2, rfl, hc2, hr2⟩ := open_events (P := Tryz.prog) Tryz.underlying27 Tryz.underlying33 (by kernel_rfl) (by kernel_rfl) (by kernel_rfl) (by kernel_rfl) (by kernel_rfl) (by kernel_rfl) (by kernel_rfl) (light_arg hsz (j := 2) (t := 27) rfl rfl) (show ∃ fuel, DataW.trod enc Tryz.prog W 0 (fun _ => true) true fuel 27 [.slice A2 len2 cap2] = some (d2, p2) from h2)
  have HLIB := libOK_of_laid hL
  clear hA0 hval0 hsz0 hL
  refine (waits_calls a0 a1 L2 A2 cap2 W HLIB hr2).mono fun e W' ⟨he, hfr⟩ => ?_
  have bel : Below W.heap.size W W' := hfr.to_below (Nat.le_refl _) (fun _ h => h.elim)
  subst he
  exact ⟨_, rfl, _, _, _, [], _, [], hW', trodAll_mk1 (shut_bool Tryz.underlying4 _), (trodAll_cons_mk (shut_int Tryz.underlying3 w0) (trodAll_cons_mk (shut_int Tryz.underlying3 w1) (trodAll_cons_mk (Below.trod laidOut (by kernel_rfl) (of_decide_eq_true (by kernel_rfl)) k2 bel lt2) trodAll_mk0))), rfl, bel.frame _, fun h => by cases h⟩
theorem over : Rows.wholeWaitsRow.holds Tryz.pinned (OpenSpec.ofChange Rows.wholeWaitsSpec) :=
  OpenClaim.holds_of_wide 7 Tryz.f7 rfl rfl rfl rfl rfl rfl rfl ⟨rfl, rfl, rfl, rfl, rfl⟩ rfl rfl rfl rfl rfl (by kernel_rfl) Tryz.func7 (by kernel_rfl)
    (of_decide_eq_true (by kernel_rfl)) (by unfold Func.isWrapper; first | (rw [if_pos (by decide +kernel)]; kernel_rfl) | (rw [if_neg (by decide +kernel)]; exact ⟨rfl, rfl⟩))
    (fun os started H enc _ => lifted os started H enc)
end Go.Proofs.YtfkamoiamebngaaGreatDoor.wholeWaits
namespace Go.Proofs.YtfkamoiamebngaaGreatDoor
/-- The row. -/
theorem wholeWaits_row : Rows.WholeWaitsSaid := wholeWaits.over
/-- The tied card: the row, with the listed variables tied to the program's text. -/
theorem wholeWaits_holds : Rows.WholeWaitsCardSaid :=
  Claim7.holds_tied_plain_at .later [] [.data, .data, .data, .sentinel, .sentinel] true (true, "b7a23f3f368572dcbfca7fbf3647117a06bbe60edbc6d71d68e3d0a3f79b162f") true
    wholeWaits_row (fun _ h => by cases h) (by kernel_rfl) (fun _ h => by cases h) wholeWaits_row_tie rfl ⟨rfl, rfl⟩ (by kernel_rfl) rfl
    (fun f fn hf hfn => by
      obtain rfl : f = 7 := Option.some.inj ((show Tryz.prog.funcNamed "kibitzer/kibitzertop.WholeWaits" = some 7 by kernel_rfl).symm.trans hf) |>.symm
      obtain rfl : fn = Tryz.f7 := (Option.some.inj (Tryz.func7.symm.trans hfn)).symm
      exact ⟨by kernel_rfl, fun j t ht => by
        rw [Tryz.params7] at ht
        have hm : t ∈ [3, 3, 27] := by simpa using Array.mem_of_getElem? ht
        have hall : ([3, 3, 27].all fun u => !Tryz.prog.wantsStandIn u) = true := by kernel_rfl
        exact (show Tryz.prog.wantsStandIn t = false by simpa using List.all_eq_true.1 hall t hm)⟩)
    (by kernel_rfl)
#print axioms wholeWaits_holds
end Go.Proofs.YtfkamoiamebngaaGreatDoor

/- broker: pump. Printed by tools/mkpump.py. -/
import Derived.Test.YtfkamoiamebngaaGreatDoorM16
namespace Go.Proofs.YtfkamoiamebngaaGreatDoor.BroW
open Go.RowKit Go.Proofs.YtfkamoiamebngaaGreatDoorW.PrintWords Go.Proofs.YtfkamoiamebngaaGreatDoorW.PrintMore Go.Proofs.YtfkamoiamebngaaGreatDoor.Fr Go.Proofs.YtfkamoiamebngaaGreatDoor.ScrW Go.Proofs.YtfkamoiamebngaaGreatDoor.ScrP Go.Proofs.YtfkamoiamebngaaGreatDoor.Mod
open Go.Shelf
attribute [local go_sem] Oper.semAt_some
set_option linter.unusedVariables false
set_option linter.unusedSimpArgs false

theorem next_size (v : Vw) (al : List Int) (n room most str : Int) : (v.next al n room most str).2.1.t.size ≤ 2042 := by
  have h0 : (strL []).size ≤ 2042 := Nat.zero_le _
  have h1 : (mg0.t).size ≤ 2042 := Nat.zero_le _
  unfold Vw.next
  split
  · simp only
    split
    · exact h0
    · exact h0
  · simp only
    split
    · exact h1
    · show (strOfNums _).size ≤ 2042
      rw [strOfNums_size, List.length_take]
      omega
theorem next_step (v : Vw) (al : List Int) (n room most str : Int) (hv : v.at_ ≤ al.length) (h : (v.next al n room most str).2.2 = true) : (v.next al n room most str).2.1.k = 12 ∨ v.at_ + 1 ≤ (v.next al n room most str).1.at_ := by
  unfold Vw.next at h ⊢
  split
  · rename_i h1
    simp only
    split
    · exact .inl rfl
    · exact .inr h1
  · rename_i h1
    rw [if_neg h1] at h
    simp only at h ⊢
    split
    · rename_i h2
      rw [if_pos h2] at h
      cases h
    · rename_i h2
      refine .inr ?_
      show v.at_ + 1 ≤ v.at_ + List.length _
      have := List.length_pos_iff.2 h2
      omega
theorem next_none (v : Vw) (al : List Int) (n room most str : Int) (h : (v.next al n room most str).2.2 = false) : (v.next al n room most str).1 = v := by
  unfold Vw.next at h ⊢
  split
  · rename_i h1
    rw [if_pos h1] at h
    simp only at h ⊢
    split
    · rfl
    · rename_i h2; rw [if_neg h2] at h; cases h
  · rename_i h1
    rw [if_neg h1] at h
    simp only at h ⊢
    split
    · rfl
    · rename_i h2; rw [if_neg h2] at h; cases h
theorem pumpC_same (f : Nat) : ∀ S id, WF S → WF (pumpC f S id) ∧ SameC S (pumpC f S id) := by
  induction f with
  | zero => intro S id h; exact ⟨h, SameC.refl S⟩
  | succ f ih =>
    intro S id h
    refine ⟨(pumpC_ok (f + 1) S id h).1, ?_⟩
    have hk := pumpC_ok 1 S id h
    unfold pumpC
    split
    · exact SameC.refl S
    · rename_i c hc
      split
      · exact SameC.refl S
      · rename_i v hv
        split
        · simp only
          split
          · have hk := (h.con id c hc).2.2
            have hn := next_ok v S.log S.cf.a0 (S.cf.a2 - c.out.length - 200) S.cf.a1 S.strikes (hk.vw v hv) h.str.2
            generalize v.next S.log S.cf.a0 (S.cf.a2 - c.out.length - 200) S.cf.a1 S.strikes = r at hn
            have h1 : WF (S.setc id (some { c with vw := some r.1, out := if ((mB r.2.1).length + c.out.length : Int) ≤ S.cf.a2 then c.out ++ mB r.2.1 else c.out })) := by
              refine h.setc hc ⟨hk.st, hk.name, hk.fb, hk.lx, ?_, fun v' e => by cases e; exact hn, fun _ => rfl⟩ (fun e => e)
              show (List.length (if ((mB r.2.1).length + c.out.length : Int) ≤ S.cf.a2 then c.out ++ mB r.2.1 else c.out) : Int) ≤ S.cf.a2
              split
              · rw [List.length_append]; push_cast; omega
              · exact hk.out
            have s1 : SameC S (S.setc id (some { c with vw := some r.1, out := if ((mB r.2.1).length + c.out.length : Int) ≤ S.cf.a2 then c.out ++ mB r.2.1 else c.out })) := sameC_setc hc (fun e => e)
            generalize S.setc id (some { c with vw := some r.1, out := if ((mB r.2.1).length + c.out.length : Int) ≤ S.cf.a2 then c.out ++ mB r.2.1 else c.out }) = S1 at h1 s1
            have h2 : WF (if r.2.1.k = 12 then leave S1 id else S1) ∧ SameC S (if r.2.1.k = 12 then leave S1 id else S1) := by
              split
              · have := leave_wf h1 id; exact ⟨this.1, s1.trans this.2⟩
              · exact ⟨h1, s1⟩
            exact h2.2.trans (ih _ id h2.1).2
          · exact SameC.refl S
        · exact SameC.refl S
theorem pumpC_shut (f : Nat) (S : St) (i : Int) (h : S.stOf i ≠ 1) : pumpC f S i = S := by
  cases f with
  | zero => rfl
  | succ f =>
    unfold pumpC
    cases hc : S.cn i with
    | none => rfl
    | some c =>
      simp only
      unfold St.stOf at h
      rw [hc] at h
      cases c.vw with
      | none => rfl
      | some v => exact if_neg h
theorem pumpC_go (f : Nat) (S : St) (i : Int) {c : Cn} {v : Vw} (hc : S.cn i = some c) (hv : c.vw = some v) (hs : c.st = 1) {v' : Vw} {m : Mg} {ok : Bool} (hr : v.next S.log S.cf.a0 (S.cf.a2 - c.out.length - 200) S.cf.a1 S.strikes = (v', m, ok)) :
    pumpC (f + 1) S i = if ok = true then pumpC f (if m.k = 12 then leave (S.setc i (some { c with vw := some v', out := if ((mB m).length + c.out.length : Int) ≤ S.cf.a2 then c.out ++ mB m else c.out })) i else S.setc i (some { c with vw := some v', out := if ((mB m).length + c.out.length : Int) ≤ S.cf.a2 then c.out ++ mB m else c.out })) i else S := by
  show (match S.cn i with
    | none => S
    | some c => _) = _
  rw [hc]
  simp only
  rw [hv]
  simp only
  rw [if_pos hs, hr]

theorem setc_twice (S : St) (i : Int) (a b : Option Cn) : (S.setc i a).setc i b = S.setc i b := by
  unfold St.setc
  congr 1
  funext j
  by_cases e : j = i <;> simp [e]
/-- between two users -/
structure PumpK (L : Lay) (w : World) (o0 : Own) (B1 Bn : Nat) (o : Own) (S : St) (W : World) : Prop where
  rep : Rep W L o S
  wf : WF S
  st : Step (fun t => t ≠ .no) w o0 W o
  b1 : W.heap[B1]? = some (.cells #[.pointer (some ⟨L.bg, 0, none⟩)] 40 (0, 0)) ∧ o B1 = .no
  bn : W.heap[Bn]? = some (.cells #[.pointer (some ⟨L.bg, 0, none⟩)] 40 (0, 0)) ∧ o Bn = .no
theorem PumpK.fr {L : Lay} {w w1 : World} {o0 o : Own} {B1 Bn : Nat} {S : St} {W W' : World} (h : PumpK L w o0 B1 Bn o S W) {N : Nat → Prop} (hw : w.heap.size ≤ w1.heap.size) (h2 : B1 < w1.heap.size) (hn : Bn < w1.heap.size) (hf : Fr N W W') (hN : ∀ b, N b → w1.heap.size ≤ b ∧ o b = .no ∧ ¬ libB b) :
    PumpK L w o0 B1 Bn o S W' := by
  refine ⟨h.rep.fr hf (fun b hb => (hN b hb).2), h.wf, ⟨h.st.old, fun b hb => h.st.new b (Nat.le_trans hf.size hb), h.st.fr.trans hf (fun b hb hs => by have := (hN b hs).1; omega)⟩, ⟨hf.blk h.b1.1 (fun hs => by have := (hN _ hs).1; omega), h.b1.2⟩, ⟨hf.blk h.bn.1 (fun hs => by have := (hN _ hs).1; omega), h.bn.2⟩⟩
theorem PumpK.go {L : Lay} {w W W2 : World} {o0 o o2 : Own} {B1 Bn : Nat} {S S2 : St} (h : PumpK L w o0 B1 Bn o S W) (hr : Rep W2 L o2 S2) (hw : WF S2) (hs : Step (fun t => t ≠ .no) W o W2 o2) : PumpK L w o0 B1 Bn o2 S2 W2 :=
  ⟨hr, hw, h.st.trans hs, ⟨hs.fr.blk h.b1.1 (fun hx => hx h.b1.2), (hs.old _ (blk_lt h.b1.1)).trans h.b1.2⟩, ⟨hs.fr.blk h.bn.1 (fun hx => hx h.bn.2), (hs.old _ (blk_lt h.bn.1)).trans h.bn.2⟩⟩
/-- how much a user may be sent yet -/
def pumpM (x : Nat) (W : World) : Nat := match W.cell? ⟨x, 1, none⟩ with
  | some (.int _ s) => if s = 1 then (match W.cell? ⟨x, 7, none⟩ with
    | some (.pointer (some p)) => (match W.cell? p with
      | some (.int _ a) => 10000 - a.toNat
      | _ => 0)
    | _ => 0) else 0
  | _ => 0
theorem pumpM_open {W : World} {x gv : Nat} {a : Int} (h1 : W.cell? ⟨x, 1, none⟩ = some (.int .i64 1)) (h2 : W.cell? ⟨x, 7, none⟩ = some (.pointer (some ⟨gv, 0, none⟩))) (h3 : W.cell? ⟨gv, 0, none⟩ = some (.int .i64 a)) : pumpM x W = 10000 - a.toNat := by
  unfold pumpM
  rw [h1]
  simp only [if_pos rfl]
  rw [h2]
  simp only
  rw [h3]
  simp
theorem pumpM_shut {W : World} {x : Nat} {s : Int} (h1 : W.cell? ⟨x, 1, none⟩ = some (.int .i64 s)) (h : s ≠ 1) : pumpM x W = 0 := by
  unfold pumpM
  rw [h1]
  simp only [if_neg h]
/-- fuel enough -/
def pumpF (S : St) (i : Int) (f : Nat) : Prop := ∀ c v, S.cn i = some c → c.st = 1 → c.vw = some v → S.log.length + 2 ≤ f + v.at_
theorem pump_meas {L : Lay} {W : World} {o : Own} {S : St} (h : Rep W L o S) (hw : WF S) {i : Int} {x : Nat} (hg : L.cp i = some x) : (S.stOf i = 1 → ∃ c v, S.cn i = some c ∧ c.st = 1 ∧ c.vw = some v ∧ pumpM x W = 10000 - v.at_) ∧ (S.stOf i ≠ 1 → pumpM x W = 0) := by
  constructor
  · intro hs
    obtain ⟨c, v, fg, lg, og, gv, hcn, hst, hv, q0, q1, q2, q3, hV, hgv⟩ := h.vwOf hw hg hs
    refine ⟨c, v, hcn, hst, hv, ?_⟩
    have := pumpM_open (W := W) (x := x) (gv := gv) (a := v.at_) (by have := (blk_cell q0.1 1).trans (show (conCells i c fg lg og (.pointer (some ⟨gv, 0, none⟩)))[1]? = some (.int .i64 c.st) from rfl); rw [hst] at this; exact this) ((blk_cell q0.1 7).trans rfl) ((blk_cell hV 0).trans rfl)
    rw [this]
    simp
  · intro hs
    obtain ⟨hs1, _⟩ := h.stOf hg
    exact pumpM_shut hs1 hs
theorem set4b {w1 : World} {g : Nat} {x0 x1 x2 x3 : Value} {T : TypeId} (hB : w1.heap[g]? = some (.cells #[x0, x1, x2, x3] T (0, 0))) (v0 v1 v2 v3 : Value) :
    ((((w1.setCell ⟨g, 0, none⟩ v0).setCell ⟨g, 1, none⟩ v1).setCell ⟨g, 2, none⟩ v2).setCell ⟨g, 3, none⟩ v3).heap[g]? = some (.cells #[v0, v1, v2, v3] T (0, 0)) ∧ Fr (only g) w1 ((((w1.setCell ⟨g, 0, none⟩ v0).setCell ⟨g, 1, none⟩ v1).setCell ⟨g, 2, none⟩ v2).setCell ⟨g, 3, none⟩ v3) :=
  ⟨blk_set (blk_set (blk_set (blk_set hB 0 v0) 1 v1) 2 v2) 3 v3, ((((Fr.refl (only g) w1).set (fun _ => rfl) 0 v0).set (fun _ => rfl) 1 v1).set (fun _ => rfl) 2 v2).set (fun _ => rfl) 3 v3⟩

set_option maxRecDepth 100000 in
set_option maxHeartbeats 16000000 in
theorem pump_calls (w : World) (L : Lay) (o : Own) (S : St) (h : Rep w L o S) (hw : WF S) :
    Calls Tryz.prog 83 #[.pointer (some ⟨L.bg, 0, none⟩)] w (QB L o w (pump S) (.tuple #[])) := by
  have HR := Aside0.mk h
  have HWF := Aside0.mk hw
  have hfold : (idsL L.cp).foldl (allStep fun S i => pumpC (S.log.length + 3) S i) S = pump S := by
    unfold idsL pump
    refine fold_ids L.cp _ (fun T => WF T ∧ ∀ i, (T.cn i).isSome = (L.cp i).isSome) (fun T hT => hT.2) (fun T i hT _ => ?_) ids16 S ⟨hw, h.dom⟩
    have := pumpC_same (T.log.length + 3) T i hT.1
    exact ⟨this.1, fun j => (this.2.1 j).trans (hT.2 j)⟩
  rw [← hfold]
  clear hfold h hw
  refine (callsIn_wide (n := 8)).1 ?_
  refine callsIn_of_wp_marks Tryz.func83 rfl trivial ?_
  simp only [Tryz.ntmps83, List.size_toArray, List.length_cons, List.length_nil, Nat.reduceAdd, Nat.reduceSub, Array.replicate_succ, Array.replicate_zero, List.push_toArray, List.append_toArray, List.nil_append, List.cons_append]
  have hfS : Fence.wide.fn 88 := trivial
  gi_wp2_with (gi_at_call 88; refine (callsIn_wide.2 (all_calls _ L.bg)).mono ?_; rintro e W1 ⟨rfl, hW1⟩; have hW1 := hW1.symm; subst hW1)
  obtain ⟨W2, hW2⟩ : ∃ W2, W2 = ((w.alloc (.cells #[.pointer (some ⟨L.bg, 0, none⟩)] 40)).alloc (.cells #[.pointer (some ⟨L.bg, 0, none⟩)] 40)) := ⟨_, rfl⟩
  rw [← hW2]
  have hf2 : Fr nope w W2 := by rw [hW2]; exact ((Fr.refl nope w).alloc _).alloc _
  have hsz : W2.heap.size = w.heap.size + 2 := by rw [hW2]; simp
  have e2 : W2.heap[w.heap.size]? = some (.cells #[.pointer (some ⟨L.bg, 0, none⟩)] 40 (0, 0)) := by rw [hW2]; exact blk_alloc (blk_new w _) _
  have e3 : W2.heap[w.heap.size + 1]? = some (.cells #[.pointer (some ⟨L.bg, 0, none⟩)] 40 (0, 0)) := by rw [hW2]; exact blk_second w _ _
  have hno : ∀ b, w.heap.size ≤ b → o b = .no := HR.out.fresh
  have h0 : PumpK L w o w.heap.size (w.heap.size + 1) o S W2 := ⟨HR.out.quiet hf2, HWF.out, HR.out.step hf2, ⟨e2, hno _ (by omega)⟩, ⟨e3, hno _ (by omega)⟩⟩
  have H0 := Aside0.mk h0
  have HSZ := Aside0.mk hsz
  clear hW2 hf2 e2 e3 h0 hno hsz
  refine rangeAll (n := 8) (by omega) (w.heap.size + 1) rfl rfl L (PumpK L w o w.heap.size (w.heap.size + 1)) (fun S i => pumpC (S.log.length + 3) S i)
    (fun o S W h => ⟨h.rep, (blk_cell h.bn.1 0).trans rfl⟩)
    (fun o1 S1 W W' N h hf hN => h.fr (w1 := W2) (by have := HSZ.out; omega) (by have := HSZ.out; omega) (by have := HSZ.out; omega) hf hN)
    o S H0.out
    (fun x => { tmps := #[.pointer (some ⟨L.bg, 0, none⟩), .pointer (some ⟨w.heap.size, 0, none⟩), .pointer (some ⟨x, 0, none⟩), undef, undef, .pointer (some ⟨L.bg, 0, none⟩), .func (.func 123) #[] #[.pointer (some ⟨w.heap.size + 1, 0, none⟩)], .pointer (some ⟨x, 0, none⟩), undef, undef, undef, undef, undef, undef, undef, undef, undef, undef, undef, undef, undef, undef, undef, undef, undef, undef, undef, undef, undef, undef, undef, undef, undef, undef, undef, undef, undef, undef, undef, undef, undef, undef, undef, undef, undef, undef, undef, undef, undef, undef, undef, undef, undef, undef, undef], defers := [] }) ?assign ?body ?done
  case assign =>
    intro l x W K hK
    gi_wp2
    exact hK
  case done =>
    intro D o1 W hk hD hoD hlD hDw
    gi_wp2
    refine ⟨by simp, .inl ⟨_, _, rfl, run_takeDeferred hD, ?_⟩⟩
    have hk2 := hk.fr (w1 := W2) (N := only D) (by have := HSZ.out; omega) (by have := HSZ.out; omega) (by have := HSZ.out; omega) (fr_putObj (ob := .deferred none)) (fun b hb => by rw [show b = D from hb]; exact ⟨hDw, hoD, hlD⟩)
    exact ⟨_, results_none rfl _ _ _, o1, rfl, hk2.rep, hk2.st⟩
  case body =>
    rintro l o1 S1 W i x hk hcp hop hlt
    have HK := Aside0.mk hk
    have HG := Aside0.mk hcp
    obtain ⟨F, hF⟩ : ∃ F, F = S1.log.length + 3 := ⟨_, rfl⟩
    rw [← hF]
    have HF := Aside0.mk hF
    clear hk hcp hop hF
    gi_wp2
    gi_loopw [8] (fun v8 wr => ∃ (f : Nat) (o2 : Own) (S2 : St), Aside0 (pumpC F S1 i = pumpC f S2 i) ∧ Aside0 (pumpF S2 i f) ∧ Aside0 (PumpK L w o w.heap.size (w.heap.size + 1) o2 S2 wr) ∧ Aside0 (Step (fun t => t ≠ .no) W o1 wr o2)) (fun v8 wr => pumpM x wr)
    case atStart =>
      exact ⟨F, o1, S1, ⟨rfl⟩, ⟨fun c v _ _ _ => by have := HF.out; omega⟩, HK, ⟨HK.out.rep.step (Fr.refl _ _)⟩⟩
    case round =>
      obtain ⟨f, o2, S2, HE, HFU, HK2, HST2⟩ := hrel
      have hst2 := HK2.out.rep.stOf HG.out
      have c1 := hst2.1
      have hxl := hst2.2
      by_cases hs : S2.stOf i = 1
      case neg =>
        have t1 : (S2.stOf i == 1) = false := beq_eq_false_iff_ne.2 hs
        obtain ⟨sv, hsv⟩ : ∃ y, y = S2.stOf i := ⟨_, rfl⟩
        rw [← hsv] at c1 t1
        have HE2 : Aside0 (pumpC F S1 i = S2) := ⟨HE.out.trans (pumpC_shut f S2 i hs)⟩
        clear hs hsv hst2
        gi_wp2
        rw [HE2.out]
        exact ⟨o2, HK2.out, HST2.out⟩
      case pos =>
        rw [hs] at c1
        obtain ⟨c, v, fg, lg, og, gv, hcn, hst, hv, q0, q1, q2, q3, hV, hgv⟩ := HK2.out.rep.vwOf HK2.out.wf HG.out hs
        obtain ⟨vq, hq, hog, hvq⟩ := q3
        have hwf2 := HK2.out.wf
        have hcb := cf_b hwf2
        have hcon := (hwf2.con i c hcn).2.2
        have hat := hcon.vw v hv
        have hout := hcon.out
        have hfu := HFU.out c v hcn hst hv
        have h810 := hwf2.log
        have hstr := hwf2.str
        obtain ⟨f1, rfl⟩ : ∃ f1, f = f1 + 1 := ⟨f - 1, by omega⟩
        obtain ⟨v', m, ok, hr⟩ : ∃ v' m ok, v.next S2.log S2.cf.a0 (S2.cf.a2 - c.out.length - 200) S2.cf.a1 S2.strikes = (v', m, ok) := ⟨_, _, _, rfl⟩
        have hgo := pumpC_go f1 S2 i hcn hv hst hr
        have hnx := next_ok v S2.log S2.cf.a0 (S2.cf.a2 - c.out.length - 200) S2.cf.a1 S2.strikes hat hstr.2
        have hnsz := next_size v S2.log S2.cf.a0 (S2.cf.a2 - c.out.length - 200) S2.cf.a1 S2.strikes
        have hnst := next_step v S2.log S2.cf.a0 (S2.cf.a2 - c.out.length - 200) S2.cf.a1 S2.strikes hat.1
        have hnno := next_none v S2.log S2.cf.a0 (S2.cf.a2 - c.out.length - 200) S2.cf.a1 S2.strikes
        rw [hr] at hnx hnsz hnst hnno
        simp only at hnx hnsz hnst hnno
        have hms := ((pump_meas HK2.out.rep hwf2 HG.out).1 hs)
        obtain ⟨c', v'', hcn', _, hv'', hms⟩ := hms
        rw [hcn] at hcn'; cases hcn'
        rw [hv] at hv''; cases hv''
        obtain ⟨gb, hL, hl1, hl2⟩ := HK2.out.rep.log
        obtain ⟨nn, hnn⟩ : ∃ nn, nn = S2.cf.a0.toNat := ⟨_, rfl⟩
        have hna : S2.cf.a0 = (nn : Int) := by omega
        rw [← hnn] at hL
        rw [hna] at hr
        obtain ⟨rm, hrm⟩ : ∃ y : Int, y = S2.cf.a2 - c.out.length := ⟨_, rfl⟩
        rw [← hrm] at hr
        obtain ⟨da, hda⟩ : ∃ y, y = S2.cf.a1 := ⟨_, rfl⟩
        obtain ⟨sk, hsk⟩ : ∃ y, y = S2.strikes := ⟨_, rfl⟩
        rw [← hda, ← hsk] at hr
        have hgvl := blk_lt hV
        have hgx : gv ≠ x := fun e => by have h2 := q0.2; rw [← e, hgv] at h2; cases h2
        have hgb : gv ≠ L.bg := fun e => by have h2 := HK2.out.rep.brk.2; rw [← e, hgv] at h2; cases h2
        have hg1 : gv ≠ w.heap.size := fun e => by have h2 := HK2.out.b1.2; rw [← e, hgv] at h2; cases h2
        have hgl : gv ≠ L.gl := fun e => by rw [← e, hgv] at hl1; cases hl1
        have hggb : gv ≠ gb := fun e => by rw [← e, hgv] at hl2; cases hl2
        have hgo4 : gv ≠ og := fun e => by rw [← e, hgv] at hog; cases hog
        have hgq : ∀ b, vq.ownBlock = some b → ¬ only gv b := fun b hb e => by have h2 := hvq b hb; rw [show b = gv from e, hgv] at h2; cases h2
        have hKK : ∀ w', Fr (only gv) wr w' → w'.cell? ⟨x, 7, none⟩ = some (.pointer (some ⟨gv, 0, none⟩)) ∧ w'.cell? ⟨w.heap.size, 0, none⟩ = some (.pointer (some ⟨L.bg, 0, none⟩)) ∧ w'.cell? ⟨L.bg, 8, none⟩ = some (.pointer (some ⟨L.gl, 0, none⟩)) ∧ w'.cell? ⟨x, 6, none⟩ = some (.pointer (some ⟨og, 0, none⟩)) ∧ w'.cell? ⟨L.bg, 1, none⟩ = some (.int .i64 da) ∧ w'.cell? ⟨L.bg, 13, none⟩ = some (.int .i64 sk) := fun w' hF => by
          have b1 := hF.blk q0.1 (fun e => hgx e.symm)
          have b2 := hF.blk HK2.out.rep.brk.1 (fun e => hgb e.symm)
          have b3 := hF.blk HK2.out.b1.1 (fun e => hg1 e.symm)
          rw [hda, hsk]
          exact ⟨(blk_cell b1 7).trans rfl, (blk_cell b3 0).trans rfl, (blk_cell b2 8).trans rfl, (blk_cell b1 6).trans rfl, (blk_cell b2 1).trans rfl, (blk_cell b2 13).trans rfl⟩
        have HKK := Aside0.mk hKK
        have hroom : ∀ W', Fr nope wr W' → Calls Tryz.prog 121 #[.pointer (some ⟨og, 0, none⟩)] W' fun e w' => e = .returned (.int .i64 rm) ∧ Fr nope W' w' := fun W' hF => by
          rw [hrm]
          exact qroom_calls c.out S2.cf.a2 vq og 0 W' (hq.fr hF (fun h => h) (fun _ _ h => h)) (by omega) (by omega) (by omega)
        have HROOM := Aside0.mk hroom
        have hnext : ∀ W', Fr nope wr W' → Calls Tryz.prog 120 #[.pointer (some ⟨gv, 0, none⟩), .pointer (some ⟨L.gl, 0, none⟩), .int .i64 (rm - 200), .int .i64 da, .int .i64 sk] W' fun e w' => e = .returned (.tuple #[.agg #[.int .i64 m.k, .int .i64 m.a, .int .i64 m.b, .string m.t], .bool ok]) ∧ IsV w' gv v' ∧ Fr (only gv) W' w' := fun W' hF => by
          have := vnext_calls S2.log nn L.gl gb gv v (rm - 200) da sk W' (hF.blk hV (fun h => h)) (hL.fr hF (fun h => h) (fun h => h)) hgl hggb (by omega) (by omega) (by omega) hat.1 ⟨hat.2.1, by omega⟩ (by omega) (by omega) (by omega)
          rw [hr] at this
          exact this
        have HNEXT := Aside0.mk hnext
        obtain ⟨S3, hS3⟩ : ∃ S3, S3 = S2.setc i (some { c with vw := some v' }) := ⟨_, rfl⟩
        have hwf3 : WF S3 := by
          rw [hS3]
          exact hwf2.setc hcn ⟨hcon.st, hcon.name, hcon.fb, hcon.lx, hcon.out, fun y e => by cases e; exact hnx, fun _ => rfl⟩ (fun e => e)
        have hfin : ∀ wx, Fr (only gv) wr wx → IsV wx gv v' → PumpK L w o w.heap.size (w.heap.size + 1) o2 S3 wx ∧ Step (fun t => t ≠ .no) wr o2 wx o2 := fun wx hF hv2 => by
          have := HK2.out.rep.view HG.out q0 q1 q2 ⟨vq, hq, hog, hvq⟩ hgv hv2 hF
          rw [← hS3] at this
          exact ⟨HK2.out.go this.1 hwf3 this.2, this.2⟩
        have HFIN := Aside0.mk hfin
        have HS3 := Aside0.mk hS3
        have HWF3 := Aside0.mk hwf3
        have HCN := Aside0.mk (And.intro hcn (And.intro hv hst))
        have HGO := Aside0.mk hgo
        have HNX := Aside0.mk (And.intro hnst hnno)
        have HMS := Aside0.mk hms
        have HFR := Aside0.mk HK2.out.rep.fresh
        have HFUU := Aside0.mk hfu
        have hrw : IntKind.i64.wrap (rm - 200) = rm - 200 := by rw [IntKind.wrap_i64]; omega
        have hrm1 : -200 ≤ rm := by omega
        have hrm2 : rm ≤ 65536 := by omega
        have hm2k := hnsz
        have HCB := Aside0.mk hcb
        have HOUT := Aside0.mk hout
        have HSTV := Aside0.mk (And.intro hq (And.intro hog hvq))
        have HAT := Aside0.mk hat
        clear hst2 hs hcn hst hv q0 q1 q2 hV hgv hq hog hvq hwf2 hcon hat hfu hr hgo hnx hnsz hnst hnno hms hL hl1 hl2 hnn hna hrm hda hsk hgx hgb hg1 hgl hggb hgo4 hgq hKK hroom hnext hS3 hwf3 hfin hcb hout h810 hstr
        have hB1l : w.heap.size < wr.heap.size := blk_lt HK2.out.b1.1
        gi_upto_region 4 with (fail)
        gi_cut [3, 4] from 8 (fun s3 s4 wx => ∃ b3 : Nat, s3 = .pointer (some ⟨b3, 0, none⟩) ∧ s4 = .bool ok ∧ Aside0 (PumpK L w o w.heap.size (w.heap.size + 1) o2 S3 wx ∧ Step (fun t => t ≠ .no) wr o2 wx o2) ∧ Aside0 (wx.heap[b3]? = some (.cells #[.int .i64 m.k, .int .i64 m.a, .int .i64 m.b, .string m.t] 39 (0, 0)) ∧ o2 b3 = .no))
        case first =>
          refine wpIn_region_held (S := fun w' => w'.cell? ⟨x, 7, none⟩ = some (.pointer (some ⟨gv, 0, none⟩)) ∧ w'.cell? ⟨w.heap.size, 0, none⟩ = some (.pointer (some ⟨L.bg, 0, none⟩)) ∧ w'.cell? ⟨L.bg, 8, none⟩ = some (.pointer (some ⟨L.gl, 0, none⟩)) ∧ w'.cell? ⟨x, 6, none⟩ = some (.pointer (some ⟨og, 0, none⟩)) ∧ w'.cell? ⟨L.bg, 1, none⟩ = some (.int .i64 da) ∧ w'.cell? ⟨L.bg, 13, none⟩ = some (.int .i64 sk)) l _ (by kernel_rfl) (by kernel_rfl) ?noOut ?hS ?go
          case noOut =>
            rintro ⟨a, W', hx⟩
            exact hx
          case hS => exact HKK.out _ (Fr.refl _ wr).drew
          case go =>
            intro hHeld
            refine wpAnyH_take (i := 0) (oi := { dst := some 14, op := Op.move (Operand.tmp 2), type := 112, pos := "broker.go:305", after := #[], guard := none }) (v := ?_) rfl (by kernel_rfl) (by kernel_rfl) (by kernel_rfl) (fun _ _ _ h => h) (Or.inl ⟨by rfl, ?_⟩) (by assumption) ?_
            rotate_left
            · intro w hSw; (try dsimp only at hSw); go_simp; try (with_reducible rfl)
            try simp only [Act.put, List.setIfInBounds_toArray, List.set_cons_zero, List.set_cons_succ]
            refine wpAnyH_take (i := 1) (oi := { dst := some 15, op := Op.nilCheck (Operand.tmp 14), type := 0, pos := "broker.go:305", after := #[{ on := 0, ground := Ground.data }], guard := none }) (v := ?_) rfl (by kernel_rfl) (by kernel_rfl) (by kernel_rfl) (fun _ _ _ h => h) (Or.inl ⟨by rfl, ?_⟩) (by assumption) ?_
            rotate_left
            · intro w hSw; (try dsimp only at hSw); go_simp; try (with_reducible rfl)
            try simp only [Act.put, List.setIfInBounds_toArray, List.set_cons_zero, List.set_cons_succ]
            refine wpAnyH_take (i := 2) (oi := { dst := some 16, op := Op.fieldAddr 121 (Operand.tmp 15) 7, type := 0, pos := "broker.go:305", after := #[{ on := 1, ground := Ground.data }], guard := none }) (v := ?_) rfl (by kernel_rfl) (by kernel_rfl) (by kernel_rfl) (fun _ _ _ h => h) (Or.inl ⟨by rfl, ?_⟩) (by assumption) ?_
            rotate_left
            · intro w hSw; (try dsimp only at hSw); go_simp; try (with_reducible rfl)
            try simp only [Act.put, List.setIfInBounds_toArray, List.set_cons_zero, List.set_cons_succ]
            refine wpAnyH_take (i := 3) (oi := { dst := some 17, op := Op.load 119 (Operand.tmp 16), type := 119, pos := "broker.go:305", after := #[{ on := 2, ground := Ground.data }], guard := none }) (v := ?_) rfl (by kernel_rfl) (by kernel_rfl) (by kernel_rfl) (fun _ _ _ h => h) (Or.inl ⟨by rfl, ?_⟩) (by assumption) ?_
            rotate_left
            · intro w hSw; (try dsimp only at hSw); go_simp; try (with_reducible rfl)
            try simp only [Act.put, List.setIfInBounds_toArray, List.set_cons_zero, List.set_cons_succ]
            refine wpAnyH_take (i := 4) (oi := { dst := some 18, op := Op.load 40 (Operand.tmp 1), type := 40, pos := "broker.go:305", after := #[], guard := none }) (v := ?_) rfl (by kernel_rfl) (by kernel_rfl) (by kernel_rfl) (fun _ _ _ h => h) (Or.inl ⟨by rfl, ?_⟩) (by assumption) ?_
            rotate_left
            · intro w hSw; (try dsimp only at hSw); go_simp; try (with_reducible rfl)
            try simp only [Act.put, List.setIfInBounds_toArray, List.set_cons_zero, List.set_cons_succ]
            refine wpAnyH_take (i := 5) (oi := { dst := some 19, op := Op.nilCheck (Operand.tmp 18), type := 0, pos := "broker.go:305", after := #[{ on := 4, ground := Ground.data }], guard := none }) (v := ?_) rfl (by kernel_rfl) (by kernel_rfl) (by kernel_rfl) (fun _ _ _ h => h) (Or.inl ⟨by rfl, ?_⟩) (by assumption) ?_
            rotate_left
            · intro w hSw; (try dsimp only at hSw); go_simp; try (with_reducible rfl)
            try simp only [Act.put, List.setIfInBounds_toArray, List.set_cons_zero, List.set_cons_succ]
            refine wpAnyH_take (i := 6) (oi := { dst := some 20, op := Op.fieldAddr 87 (Operand.tmp 19) 1, type := 0, pos := "broker.go:305", after := #[{ on := 5, ground := Ground.data }], guard := none }) (v := ?_) rfl (by kernel_rfl) (by kernel_rfl) (by kernel_rfl) (fun _ _ _ h => h) (Or.inl ⟨by rfl, ?_⟩) (by assumption) ?_
            rotate_left
            · intro w hSw; (try dsimp only at hSw); go_simp; try (with_reducible rfl)
            try simp only [Act.put, List.setIfInBounds_toArray, List.set_cons_zero, List.set_cons_succ]
            refine wpAnyH_take (i := 7) (oi := { dst := some 21, op := Op.load 81 (Operand.tmp 20), type := 81, pos := "broker.go:305", after := #[{ on := 6, ground := Ground.data }], guard := none }) (v := ?_) rfl (by kernel_rfl) (by kernel_rfl) (by kernel_rfl) (fun _ _ _ h => h) (Or.inl ⟨by rfl, ?_⟩) (by assumption) ?_
            rotate_left
            · intro w hSw; (try dsimp only at hSw); go_simp; try (with_reducible rfl)
            try simp only [Act.put, List.setIfInBounds_toArray, List.set_cons_zero, List.set_cons_succ]
            refine wpAnyH_take (i := 8) (oi := { dst := some 22, op := Op.move (Operand.tmp 2), type := 112, pos := "broker.go:305", after := #[], guard := none }) (v := ?_) rfl (by kernel_rfl) (by kernel_rfl) (by kernel_rfl) (fun _ _ _ h => h) (Or.inl ⟨by rfl, ?_⟩) (by assumption) ?_
            rotate_left
            · intro w hSw; (try dsimp only at hSw); go_simp; try (with_reducible rfl)
            try simp only [Act.put, List.setIfInBounds_toArray, List.set_cons_zero, List.set_cons_succ]
            refine wpAnyH_take (i := 9) (oi := { dst := some 23, op := Op.nilCheck (Operand.tmp 22), type := 0, pos := "broker.go:305", after := #[{ on := 8, ground := Ground.data }], guard := none }) (v := ?_) rfl (by kernel_rfl) (by kernel_rfl) (by kernel_rfl) (fun _ _ _ h => h) (Or.inl ⟨by rfl, ?_⟩) (by assumption) ?_
            rotate_left
            · intro w hSw; (try dsimp only at hSw); go_simp; try (with_reducible rfl)
            try simp only [Act.put, List.setIfInBounds_toArray, List.set_cons_zero, List.set_cons_succ]
            refine wpAnyH_take (i := 10) (oi := { dst := some 24, op := Op.fieldAddr 121 (Operand.tmp 23) 6, type := 0, pos := "broker.go:305", after := #[{ on := 9, ground := Ground.data }], guard := none }) (v := ?_) rfl (by kernel_rfl) (by kernel_rfl) (by kernel_rfl) (fun _ _ _ h => h) (Or.inl ⟨by rfl, ?_⟩) (by assumption) ?_
            rotate_left
            · intro w hSw; (try dsimp only at hSw); go_simp; try (with_reducible rfl)
            try simp only [Act.put, List.setIfInBounds_toArray, List.set_cons_zero, List.set_cons_succ]
            refine wpAnyH_take (i := 11) (oi := { dst := some 25, op := Op.load 117 (Operand.tmp 24), type := 117, pos := "broker.go:305", after := #[{ on := 10, ground := Ground.data }], guard := none }) (v := ?_) rfl (by kernel_rfl) (by kernel_rfl) (by kernel_rfl) (fun _ _ _ h => h) (Or.inl ⟨by rfl, ?_⟩) (by assumption) ?_
            rotate_left
            · intro w hSw; (try dsimp only at hSw); go_simp; try (with_reducible rfl)
            try simp only [Act.put, List.setIfInBounds_toArray, List.set_cons_zero, List.set_cons_succ]
            refine wpAnyH_take (i := 14) (oi := { dst := some 28, op := Op.load 40 (Operand.tmp 1), type := 40, pos := "broker.go:305", after := #[], guard := none }) (v := ?_) rfl (by kernel_rfl) (by kernel_rfl) (by kernel_rfl) (fun _ _ _ h => h) (Or.inl ⟨by rfl, ?_⟩) (by assumption) ?_
            rotate_left
            · intro w hSw; (try dsimp only at hSw); go_simp; try (with_reducible rfl)
            try simp only [Act.put, List.setIfInBounds_toArray, List.set_cons_zero, List.set_cons_succ]
            refine wpAnyH_take (i := 15) (oi := { dst := some 29, op := Op.nilCheck (Operand.tmp 28), type := 0, pos := "broker.go:305", after := #[{ on := 14, ground := Ground.data }], guard := none }) (v := ?_) rfl (by kernel_rfl) (by kernel_rfl) (by kernel_rfl) (fun _ _ _ h => h) (Or.inl ⟨by rfl, ?_⟩) (by assumption) ?_
            rotate_left
            · intro w hSw; (try dsimp only at hSw); go_simp; try (with_reducible rfl)
            try simp only [Act.put, List.setIfInBounds_toArray, List.set_cons_zero, List.set_cons_succ]
            refine wpAnyH_take (i := 16) (oi := { dst := some 30, op := Op.fieldAddr 87 (Operand.tmp 29) 0, type := 0, pos := "broker.go:305", after := #[{ on := 15, ground := Ground.data }], guard := none }) (v := ?_) rfl (by kernel_rfl) (by kernel_rfl) (by kernel_rfl) (fun _ _ _ h => h) (Or.inl ⟨by rfl, ?_⟩) (by assumption) ?_
            rotate_left
            · intro w hSw; (try dsimp only at hSw); go_simp; try (with_reducible rfl)
            try simp only [Act.put, List.setIfInBounds_toArray, List.set_cons_zero, List.set_cons_succ]
            refine wpAnyH_take (i := 17) (oi := { dst := some 31, op := Op.fieldAddr 23 (Operand.tmp 30) 1, type := 0, pos := "broker.go:305", after := #[{ on := 16, ground := Ground.data }], guard := none }) (v := ?_) rfl (by kernel_rfl) (by kernel_rfl) (by kernel_rfl) (fun _ _ _ h => h) (Or.inl ⟨by rfl, ?_⟩) (by assumption) ?_
            rotate_left
            · intro w hSw; (try dsimp only at hSw); go_simp; try (with_reducible rfl)
            try simp only [Act.put, List.setIfInBounds_toArray, List.set_cons_zero, List.set_cons_succ]
            refine wpAnyH_take (i := 18) (oi := { dst := some 32, op := Op.load 3 (Operand.tmp 31), type := 3, pos := "broker.go:305", after := #[{ on := 17, ground := Ground.data }], guard := none }) (v := ?_) rfl (by kernel_rfl) (by kernel_rfl) (by kernel_rfl) (fun _ _ _ h => h) (Or.inl ⟨by rfl, ?_⟩) (by assumption) ?_
            rotate_left
            · intro w hSw; (try dsimp only at hSw); go_simp; try (with_reducible rfl)
            try simp only [Act.put, List.setIfInBounds_toArray, List.set_cons_zero, List.set_cons_succ]
            refine wpAnyH_take (i := 19) (oi := { dst := some 33, op := Op.load 40 (Operand.tmp 1), type := 40, pos := "broker.go:305", after := #[], guard := none }) (v := ?_) rfl (by kernel_rfl) (by kernel_rfl) (by kernel_rfl) (fun _ _ _ h => h) (Or.inl ⟨by rfl, ?_⟩) (by assumption) ?_
            rotate_left
            · intro w hSw; (try dsimp only at hSw); go_simp; try (with_reducible rfl)
            try simp only [Act.put, List.setIfInBounds_toArray, List.set_cons_zero, List.set_cons_succ]
            refine wpAnyH_take (i := 20) (oi := { dst := some 34, op := Op.nilCheck (Operand.tmp 33), type := 0, pos := "broker.go:305", after := #[{ on := 19, ground := Ground.data }], guard := none }) (v := ?_) rfl (by kernel_rfl) (by kernel_rfl) (by kernel_rfl) (fun _ _ _ h => h) (Or.inl ⟨by rfl, ?_⟩) (by assumption) ?_
            rotate_left
            · intro w hSw; (try dsimp only at hSw); go_simp; try (with_reducible rfl)
            try simp only [Act.put, List.setIfInBounds_toArray, List.set_cons_zero, List.set_cons_succ]
            refine wpAnyH_take (i := 21) (oi := { dst := some 35, op := Op.fieldAddr 87 (Operand.tmp 34) 6, type := 0, pos := "broker.go:305", after := #[{ on := 20, ground := Ground.data }], guard := none }) (v := ?_) rfl (by kernel_rfl) (by kernel_rfl) (by kernel_rfl) (fun _ _ _ h => h) (Or.inl ⟨by rfl, ?_⟩) (by assumption) ?_
            rotate_left
            · intro w hSw; (try dsimp only at hSw); go_simp; try (with_reducible rfl)
            try simp only [Act.put, List.setIfInBounds_toArray, List.set_cons_zero, List.set_cons_succ]
            refine wpAnyH_take (i := 22) (oi := { dst := some 36, op := Op.load 3 (Operand.tmp 35), type := 3, pos := "broker.go:305", after := #[{ on := 21, ground := Ground.data }], guard := none }) (v := ?_) rfl (by kernel_rfl) (by kernel_rfl) (by kernel_rfl) (fun _ _ _ h => h) (Or.inl ⟨by rfl, ?_⟩) (by assumption) ?_
            rotate_left
            · intro w hSw; (try dsimp only at hSw); go_simp; try (with_reducible rfl)
            try simp only [Act.put, List.setIfInBounds_toArray, List.set_cons_zero, List.set_cons_succ]
            refine wpAnyH_ready (rs := [12, 27]) (by kernel_rfl) (by simp) ?_
            refine AllReadyH.cons (o := { dst := some 26, op := Op.call { callee := Callee.value (Operand.func 121), args := #[Operand.tmp 25], argTypes := #[117] }, type := 3, pos := "broker.go:305", after := #[{ on := 11, ground := Ground.data }], guard := none }) rfl (fun K hK => ?_) (AllReadyH.cons (o := { dst := some 3, op := Op.alloc 39, type := 0, pos := "broker.go:305", after := #[], guard := none }) rfl (fun K hK => ?_) AllReadyH.nil)
            · go_simp
              go_at_call 121
              refine (HROOM.out _ (Fr.refl nope wr).drew).mono ?_
              rintro e1 w1 ⟨rfl, hf1⟩
              have HF1 := Aside0.mk ((Fr.refl nope wr).drew.trans hf1 (fun _ _ h => h))
              clear hf1
              refine hK.out _ _ ?_ (fun hHeld => ?_)
              · exact HKK.out _ (frAny HF1.out)
              clear hK K
              try simp only [Act.put, List.setIfInBounds_toArray, List.set_cons_zero, List.set_cons_succ]
              refine wpAnyH_take (i := 13) (oi := { dst := some 27, op := Op.binOp BinOp.sub 3 (Operand.tmp 26) (Operand.const (Value.int IntKind.i64 200)) 3, type := 3, pos := "broker.go:305", after := #[{ on := 12, ground := Ground.data }], guard := none }) (v := ?_) rfl (by kernel_rfl) (by kernel_rfl) (by kernel_rfl) (fun _ _ _ h => h) (Or.inl ⟨by rfl, ?_⟩) (by assumption) ?_
              rotate_left
              · intro w hSw; (try dsimp only at hSw); go_simp; try (with_reducible rfl)
              try simp only [Act.put, List.setIfInBounds_toArray, List.set_cons_zero, List.set_cons_succ]
              refine wpAnyH_ready (rs := [23, 27]) (by kernel_rfl) (by simp) ?_
              refine AllReadyH.cons (o := { dst := some 37, op := Op.call { callee := Callee.value (Operand.func 120), args := #[Operand.tmp 17, Operand.tmp 21, Operand.tmp 27, Operand.tmp 32, Operand.tmp 36], argTypes := #[119, 81, 3, 3, 3] }, type := 47, pos := "broker.go:305", after := #[{ on := 3, ground := Ground.data }, { on := 7, ground := Ground.data }, { on := 13, ground := Ground.data }, { on := 18, ground := Ground.data }, { on := 22, ground := Ground.data }, { on := 12, ground := Ground.chain }], guard := none }) rfl (fun K hK => ?_) (AllReadyH.cons (o := { dst := some 3, op := Op.alloc 39, type := 0, pos := "broker.go:305", after := #[], guard := none }) rfl (fun K hK => ?_) AllReadyH.nil)
              · go_simp
                go_at_call 120
                refine (HNEXT.out _ HF1.out).mono ?_
                rintro e2 w2 ⟨rfl, hv2, hf2⟩
                have HV2 := Aside0.mk hv2
                have HF2 := Aside0.mk ((frAny (S := only gv) HF1.out).trans hf2 (fun _ _ h => h))
                clear hv2 hf2
                refine hK.out _ _ ?_ (fun hHeld => ?_)
                · exact HKK.out _ HF2.out
                clear hK K
                try simp only [Act.put, List.setIfInBounds_toArray, List.set_cons_zero, List.set_cons_succ]
                refine wpAnyH_take (i := 24) (oi := { dst := some 13, op := Op.move (Operand.tmp 37), type := 47, pos := "broker.go:305", after := #[{ on := 23, ground := Ground.data }], guard := none }) (v := ?_) rfl (by kernel_rfl) (by kernel_rfl) (by kernel_rfl) (fun _ _ _ h => h) (Or.inl ⟨by rfl, ?_⟩) (by assumption) ?_
                rotate_left
                · intro w hSw; (try dsimp only at hSw); go_simp; try (with_reducible rfl)
                try simp only [Act.put, List.setIfInBounds_toArray, List.set_cons_zero, List.set_cons_succ]
                refine wpAnyH_take (i := 25) (oi := { dst := some 38, op := Op.extract (Operand.tmp 13) 0, type := 39, pos := "broker.go:305", after := #[{ on := 24, ground := Ground.data }], guard := none }) (v := ?_) rfl (by kernel_rfl) (by kernel_rfl) (by kernel_rfl) (fun _ _ _ h => h) (Or.inl ⟨by rfl, ?_⟩) (by assumption) ?_
                rotate_left
                · intro w hSw; (try dsimp only at hSw); go_simp; try (with_reducible rfl)
                try simp only [Act.put, List.setIfInBounds_toArray, List.set_cons_zero, List.set_cons_succ]
                refine wpAnyH_take (i := 26) (oi := { dst := some 39, op := Op.extract (Operand.tmp 13) 1, type := 4, pos := "broker.go:305", after := #[{ on := 24, ground := Ground.data }, { on := 28, ground := Ground.gcOnly Departure.lateStores }], guard := none }) (v := ?_) rfl (by kernel_rfl) (by kernel_rfl) (by kernel_rfl) (fun _ _ _ h => h) (Or.inl ⟨by rfl, ?_⟩) (by assumption) ?_
                rotate_left
                · intro w hSw; (try dsimp only at hSw); go_simp; try (with_reducible rfl)
                try simp only [Act.put, List.setIfInBounds_toArray, List.set_cons_zero, List.set_cons_succ]
                refine wpAnyH_ready (rs := [27]) (by kernel_rfl) (by simp) ?_
                refine AllReadyH.cons (o := { dst := some 3, op := Op.alloc 39, type := 0, pos := "broker.go:305", after := #[], guard := none }) rfl (fun K hK => ?_) AllReadyH.nil
                go_simp

                refine hK.out _ _ ?_ (fun hHeld => ?_)
                · exact HKK.out _ (HF2.out.alloc _)
                clear hK K
                try simp only [Act.put, List.setIfInBounds_toArray, List.set_cons_zero, List.set_cons_succ]
                refine wpAnyH_ready (rs := [28]) (by kernel_rfl) (by simp) ?_
                refine AllReadyH.cons (o := { dst := none, op := Op.store 39 (Operand.tmp 3) (Operand.tmp 38), type := 0, pos := "broker.go:305", after := #[{ on := 27, ground := Ground.data }, { on := 25, ground := Ground.data }, { on := 23, ground := Ground.chain }, { on := 0, ground := Ground.phase }, { on := 1, ground := Ground.phase }, { on := 2, ground := Ground.phase }, { on := 3, ground := Ground.phase }, { on := 4, ground := Ground.phase }, { on := 5, ground := Ground.phase }, { on := 6, ground := Ground.phase }, { on := 7, ground := Ground.phase }, { on := 8, ground := Ground.phase }, { on := 9, ground := Ground.phase }, { on := 10, ground := Ground.phase }, { on := 11, ground := Ground.phase }, { on := 12, ground := Ground.phase }, { on := 13, ground := Ground.phase }, { on := 14, ground := Ground.phase }, { on := 15, ground := Ground.phase }, { on := 16, ground := Ground.phase }, { on := 17, ground := Ground.phase }, { on := 18, ground := Ground.phase }, { on := 19, ground := Ground.phase }, { on := 20, ground := Ground.phase }, { on := 21, ground := Ground.phase }, { on := 22, ground := Ground.phase }, { on := 23, ground := Ground.phase }, { on := 24, ground := Ground.phase }, { on := 25, ground := Ground.phase }, { on := 26, ground := Ground.textOnly Departure.lateStores }, { on := 27, ground := Ground.phase }], guard := none }) rfl (fun K hK => ?_) AllReadyH.nil
                go_simp

                refine hK.out _ _ ?_ (fun hHeld => ?_)
                · exact HKK.out _ (HF2.out.alloc _)
                clear hK K
                try simp only [Act.put, List.setIfInBounds_toArray, List.set_cons_zero, List.set_cons_succ]
                refine wpAnyH_take (i := 29) (oi := { dst := some 4, op := Op.assign (Operand.tmp 39), type := 4, pos := "broker.go:305", after := #[{ on := 26, ground := Ground.data }, { on := 28, ground := Ground.chain }, { on := 0, ground := Ground.phase }, { on := 1, ground := Ground.phase }, { on := 2, ground := Ground.phase }, { on := 3, ground := Ground.phase }, { on := 4, ground := Ground.phase }, { on := 5, ground := Ground.phase }, { on := 6, ground := Ground.phase }, { on := 7, ground := Ground.phase }, { on := 8, ground := Ground.phase }, { on := 9, ground := Ground.phase }, { on := 10, ground := Ground.phase }, { on := 11, ground := Ground.phase }, { on := 12, ground := Ground.phase }, { on := 13, ground := Ground.phase }, { on := 14, ground := Ground.phase }, { on := 15, ground := Ground.phase }, { on := 16, ground := Ground.phase }, { on := 17, ground := Ground.phase }, { on := 18, ground := Ground.phase }, { on := 19, ground := Ground.phase }, { on := 20, ground := Ground.phase }, { on := 21, ground := Ground.phase }, { on := 22, ground := Ground.phase }, { on := 23, ground := Ground.phase }, { on := 24, ground := Ground.phase }, { on := 25, ground := Ground.phase }, { on := 26, ground := Ground.phase }, { on := 27, ground := Ground.phase }, { on := 28, ground := Ground.phase }], guard := none }) (v := ?_) rfl (by kernel_rfl) (by kernel_rfl) (by kernel_rfl) (fun _ _ _ h => h) (Or.inl ⟨by rfl, ?_⟩) (by assumption) ?_
                rotate_left
                · intro w hSw; (try dsimp only at hSw); go_simp; try (with_reducible rfl)
                try simp only [Act.put, List.setIfInBounds_toArray, List.set_cons_zero, List.set_cons_succ]
                refine wpAnyH_done (by kernel_rfl) ?_ _
                gi_wp2
                gi_meet
                refine ⟨_, rfl, rfl, ⟨HFIN.out _ (HF2.out.alloc _) (blk_alloc HV2.out _)⟩, ⟨blk_new w2 _, HFR.out _ HF2.out.size⟩⟩
              · go_simp

                refine hK.out _ _ ?_ (fun hHeld => ?_)
                · exact HKK.out _ (frAny (HF1.out.alloc _))
                clear hK K
                try simp only [Act.put, List.setIfInBounds_toArray, List.set_cons_zero, List.set_cons_succ]
                refine wpAnyH_ready (rs := [23]) (by kernel_rfl) (by simp) ?_
                refine AllReadyH.cons (o := { dst := some 37, op := Op.call { callee := Callee.value (Operand.func 120), args := #[Operand.tmp 17, Operand.tmp 21, Operand.tmp 27, Operand.tmp 32, Operand.tmp 36], argTypes := #[119, 81, 3, 3, 3] }, type := 47, pos := "broker.go:305", after := #[{ on := 3, ground := Ground.data }, { on := 7, ground := Ground.data }, { on := 13, ground := Ground.data }, { on := 18, ground := Ground.data }, { on := 22, ground := Ground.data }, { on := 12, ground := Ground.chain }], guard := none }) rfl (fun K hK => ?_) AllReadyH.nil
                go_simp
                go_at_call 120
                refine (HNEXT.out _ (HF1.out.alloc _)).mono ?_
                rintro e2 w2 ⟨rfl, hv2, hf2⟩
                have HV2 := Aside0.mk hv2
                have HF2 := Aside0.mk ((frAny (S := only gv) (HF1.out.alloc _)).trans hf2 (fun _ _ h => h))
                have hb3 := hf2.blk (blk_new w1 (.cells #[.int .i64 0, .int .i64 0, .int .i64 0, .string ⟨#[]⟩] 39)) (fun e => by have := HF1.out.size; have e : w1.heap.size = gv := e; omega)
                have HB3 := Aside0.mk hb3
                have hb30 := (blk_cell hb3 0).trans (rfl : _ = some (Value.int .i64 0))
                have hb31 := (blk_cell hb3 1).trans (rfl : _ = some (Value.int .i64 0))
                have hb32 := (blk_cell hb3 2).trans (rfl : _ = some (Value.int .i64 0))
                have hb33 := (blk_cell hb3 3).trans (rfl : _ = some (Value.string ⟨#[]⟩))
                have fb30 := blk_frozen hb3 0
                have fb31 := blk_frozen hb3 1
                have fb32 := blk_frozen hb3 2
                have fb33 := blk_frozen hb3 3
                clear hb3
                clear hv2 hf2
                refine hK.out _ _ ?_ (fun hHeld => ?_)
                · exact HKK.out _ HF2.out
                clear hK K
                try simp only [Act.put, List.setIfInBounds_toArray, List.set_cons_zero, List.set_cons_succ]
                refine wpAnyH_take (i := 24) (oi := { dst := some 13, op := Op.move (Operand.tmp 37), type := 47, pos := "broker.go:305", after := #[{ on := 23, ground := Ground.data }], guard := none }) (v := ?_) rfl (by kernel_rfl) (by kernel_rfl) (by kernel_rfl) (fun _ _ _ h => h) (Or.inl ⟨by rfl, ?_⟩) (by assumption) ?_
                rotate_left
                · intro w hSw; (try dsimp only at hSw); go_simp; try (with_reducible rfl)
                try simp only [Act.put, List.setIfInBounds_toArray, List.set_cons_zero, List.set_cons_succ]
                refine wpAnyH_take (i := 25) (oi := { dst := some 38, op := Op.extract (Operand.tmp 13) 0, type := 39, pos := "broker.go:305", after := #[{ on := 24, ground := Ground.data }], guard := none }) (v := ?_) rfl (by kernel_rfl) (by kernel_rfl) (by kernel_rfl) (fun _ _ _ h => h) (Or.inl ⟨by rfl, ?_⟩) (by assumption) ?_
                rotate_left
                · intro w hSw; (try dsimp only at hSw); go_simp; try (with_reducible rfl)
                try simp only [Act.put, List.setIfInBounds_toArray, List.set_cons_zero, List.set_cons_succ]
                refine wpAnyH_take (i := 26) (oi := { dst := some 39, op := Op.extract (Operand.tmp 13) 1, type := 4, pos := "broker.go:305", after := #[{ on := 24, ground := Ground.data }, { on := 28, ground := Ground.gcOnly Departure.lateStores }], guard := none }) (v := ?_) rfl (by kernel_rfl) (by kernel_rfl) (by kernel_rfl) (fun _ _ _ h => h) (Or.inl ⟨by rfl, ?_⟩) (by assumption) ?_
                rotate_left
                · intro w hSw; (try dsimp only at hSw); go_simp; try (with_reducible rfl)
                try simp only [Act.put, List.setIfInBounds_toArray, List.set_cons_zero, List.set_cons_succ]
                refine wpAnyH_ready (rs := [28]) (by kernel_rfl) (by simp) ?_
                refine AllReadyH.cons (o := { dst := none, op := Op.store 39 (Operand.tmp 3) (Operand.tmp 38), type := 0, pos := "broker.go:305", after := #[{ on := 27, ground := Ground.data }, { on := 25, ground := Ground.data }, { on := 23, ground := Ground.chain }, { on := 0, ground := Ground.phase }, { on := 1, ground := Ground.phase }, { on := 2, ground := Ground.phase }, { on := 3, ground := Ground.phase }, { on := 4, ground := Ground.phase }, { on := 5, ground := Ground.phase }, { on := 6, ground := Ground.phase }, { on := 7, ground := Ground.phase }, { on := 8, ground := Ground.phase }, { on := 9, ground := Ground.phase }, { on := 10, ground := Ground.phase }, { on := 11, ground := Ground.phase }, { on := 12, ground := Ground.phase }, { on := 13, ground := Ground.phase }, { on := 14, ground := Ground.phase }, { on := 15, ground := Ground.phase }, { on := 16, ground := Ground.phase }, { on := 17, ground := Ground.phase }, { on := 18, ground := Ground.phase }, { on := 19, ground := Ground.phase }, { on := 20, ground := Ground.phase }, { on := 21, ground := Ground.phase }, { on := 22, ground := Ground.phase }, { on := 23, ground := Ground.phase }, { on := 24, ground := Ground.phase }, { on := 25, ground := Ground.phase }, { on := 26, ground := Ground.textOnly Departure.lateStores }, { on := 27, ground := Ground.phase }], guard := none }) rfl (fun K hK => ?_) AllReadyH.nil
                go_simp

                refine hK.out _ _ ?_ (fun hHeld => ?_)
                · exact HKK.out _ (HF2.out.trans ((set4b HB3.out _ _ _ _).2) (fun b hb e => by have := HF1.out.size; have e : b = w1.heap.size := e; omega))
                clear hK K
                try simp only [Act.put, List.setIfInBounds_toArray, List.set_cons_zero, List.set_cons_succ]
                refine wpAnyH_take (i := 29) (oi := { dst := some 4, op := Op.assign (Operand.tmp 39), type := 4, pos := "broker.go:305", after := #[{ on := 26, ground := Ground.data }, { on := 28, ground := Ground.chain }, { on := 0, ground := Ground.phase }, { on := 1, ground := Ground.phase }, { on := 2, ground := Ground.phase }, { on := 3, ground := Ground.phase }, { on := 4, ground := Ground.phase }, { on := 5, ground := Ground.phase }, { on := 6, ground := Ground.phase }, { on := 7, ground := Ground.phase }, { on := 8, ground := Ground.phase }, { on := 9, ground := Ground.phase }, { on := 10, ground := Ground.phase }, { on := 11, ground := Ground.phase }, { on := 12, ground := Ground.phase }, { on := 13, ground := Ground.phase }, { on := 14, ground := Ground.phase }, { on := 15, ground := Ground.phase }, { on := 16, ground := Ground.phase }, { on := 17, ground := Ground.phase }, { on := 18, ground := Ground.phase }, { on := 19, ground := Ground.phase }, { on := 20, ground := Ground.phase }, { on := 21, ground := Ground.phase }, { on := 22, ground := Ground.phase }, { on := 23, ground := Ground.phase }, { on := 24, ground := Ground.phase }, { on := 25, ground := Ground.phase }, { on := 26, ground := Ground.phase }, { on := 27, ground := Ground.phase }, { on := 28, ground := Ground.phase }], guard := none }) (v := ?_) rfl (by kernel_rfl) (by kernel_rfl) (by kernel_rfl) (fun _ _ _ h => h) (Or.inl ⟨by rfl, ?_⟩) (by assumption) ?_
                rotate_left
                · intro w hSw; (try dsimp only at hSw); go_simp; try (with_reducible rfl)
                try simp only [Act.put, List.setIfInBounds_toArray, List.set_cons_zero, List.set_cons_succ]
                refine wpAnyH_done (by kernel_rfl) ?_ _
                gi_wp2
                gi_meet
                refine ⟨_, rfl, rfl, ⟨HFIN.out _ (HF2.out.trans ((set4b HB3.out _ _ _ _).2) (fun b hb e => by have := HF1.out.size; have e : b = w1.heap.size := e; omega)) ((set4b HB3.out _ _ _ _).2.blk HV2.out (fun e => by have := HF1.out.size; have e : gv = w1.heap.size := e; omega))⟩, ⟨(set4b HB3.out _ _ _ _).1, HFR.out _ HF1.out.size⟩⟩
            · go_simp

              refine hK.out _ _ ?_ (fun hHeld => ?_)
              · exact HKK.out _ (frAny ((Fr.refl nope wr).alloc _).drew)
              clear hK K
              try simp only [Act.put, List.setIfInBounds_toArray, List.set_cons_zero, List.set_cons_succ]
              refine wpAnyH_ready (rs := [12]) (by kernel_rfl) (by simp) ?_
              refine AllReadyH.cons (o := { dst := some 26, op := Op.call { callee := Callee.value (Operand.func 121), args := #[Operand.tmp 25], argTypes := #[117] }, type := 3, pos := "broker.go:305", after := #[{ on := 11, ground := Ground.data }], guard := none }) rfl (fun K hK => ?_) AllReadyH.nil
              go_simp
              go_at_call 121
              refine (HROOM.out _ ((Fr.refl nope wr).alloc _).drew).mono ?_
              rintro e1 w1 ⟨rfl, hf1⟩
              have hbA := hf1.blk (blk_new wr (.cells #[.int .i64 0, .int .i64 0, .int .i64 0, .string ⟨#[]⟩] 39)) (fun e => e)
              have HBA := Aside0.mk hbA
              clear hbA
              have HF1 := Aside0.mk (((Fr.refl nope wr).alloc (.cells #[.int .i64 0, .int .i64 0, .int .i64 0, .string ⟨#[]⟩] 39)).drew.trans hf1 (fun _ _ h => h))
              clear hf1
              refine hK.out _ _ ?_ (fun hHeld => ?_)
              · exact HKK.out _ (frAny HF1.out)
              clear hK K
              try simp only [Act.put, List.setIfInBounds_toArray, List.set_cons_zero, List.set_cons_succ]
              refine wpAnyH_take (i := 13) (oi := { dst := some 27, op := Op.binOp BinOp.sub 3 (Operand.tmp 26) (Operand.const (Value.int IntKind.i64 200)) 3, type := 3, pos := "broker.go:305", after := #[{ on := 12, ground := Ground.data }], guard := none }) (v := ?_) rfl (by kernel_rfl) (by kernel_rfl) (by kernel_rfl) (fun _ _ _ h => h) (Or.inl ⟨by rfl, ?_⟩) (by assumption) ?_
              rotate_left
              · intro w hSw; (try dsimp only at hSw); go_simp; try (with_reducible rfl)
              try simp only [Act.put, List.setIfInBounds_toArray, List.set_cons_zero, List.set_cons_succ]
              refine wpAnyH_ready (rs := [23]) (by kernel_rfl) (by simp) ?_
              refine AllReadyH.cons (o := { dst := some 37, op := Op.call { callee := Callee.value (Operand.func 120), args := #[Operand.tmp 17, Operand.tmp 21, Operand.tmp 27, Operand.tmp 32, Operand.tmp 36], argTypes := #[119, 81, 3, 3, 3] }, type := 47, pos := "broker.go:305", after := #[{ on := 3, ground := Ground.data }, { on := 7, ground := Ground.data }, { on := 13, ground := Ground.data }, { on := 18, ground := Ground.data }, { on := 22, ground := Ground.data }, { on := 12, ground := Ground.chain }], guard := none }) rfl (fun K hK => ?_) AllReadyH.nil
              go_simp
              go_at_call 120
              refine (HNEXT.out _ HF1.out).mono ?_
              rintro e2 w2 ⟨rfl, hv2, hf2⟩
              have HV2 := Aside0.mk hv2
              have HF2 := Aside0.mk ((frAny (S := only gv) HF1.out).trans hf2 (fun _ _ h => h))
              have hb3 := hf2.blk HBA.out (fun e => by have e : wr.heap.size = gv := e; omega)
              have HB3 := Aside0.mk hb3
              have hb30 := (blk_cell hb3 0).trans (rfl : _ = some (Value.int .i64 0))
              have hb31 := (blk_cell hb3 1).trans (rfl : _ = some (Value.int .i64 0))
              have hb32 := (blk_cell hb3 2).trans (rfl : _ = some (Value.int .i64 0))
              have hb33 := (blk_cell hb3 3).trans (rfl : _ = some (Value.string ⟨#[]⟩))
              have fb30 := blk_frozen hb3 0
              have fb31 := blk_frozen hb3 1
              have fb32 := blk_frozen hb3 2
              have fb33 := blk_frozen hb3 3
              clear hb3
              clear hv2 hf2
              refine hK.out _ _ ?_ (fun hHeld => ?_)
              · exact HKK.out _ HF2.out
              clear hK K
              try simp only [Act.put, List.setIfInBounds_toArray, List.set_cons_zero, List.set_cons_succ]
              refine wpAnyH_take (i := 24) (oi := { dst := some 13, op := Op.move (Operand.tmp 37), type := 47, pos := "broker.go:305", after := #[{ on := 23, ground := Ground.data }], guard := none }) (v := ?_) rfl (by kernel_rfl) (by kernel_rfl) (by kernel_rfl) (fun _ _ _ h => h) (Or.inl ⟨by rfl, ?_⟩) (by assumption) ?_
              rotate_left
              · intro w hSw; (try dsimp only at hSw); go_simp; try (with_reducible rfl)
              try simp only [Act.put, List.setIfInBounds_toArray, List.set_cons_zero, List.set_cons_succ]
              refine wpAnyH_take (i := 25) (oi := { dst := some 38, op := Op.extract (Operand.tmp 13) 0, type := 39, pos := "broker.go:305", after := #[{ on := 24, ground := Ground.data }], guard := none }) (v := ?_) rfl (by kernel_rfl) (by kernel_rfl) (by kernel_rfl) (fun _ _ _ h => h) (Or.inl ⟨by rfl, ?_⟩) (by assumption) ?_
              rotate_left
              · intro w hSw; (try dsimp only at hSw); go_simp; try (with_reducible rfl)
              try simp only [Act.put, List.setIfInBounds_toArray, List.set_cons_zero, List.set_cons_succ]
              refine wpAnyH_take (i := 26) (oi := { dst := some 39, op := Op.extract (Operand.tmp 13) 1, type := 4, pos := "broker.go:305", after := #[{ on := 24, ground := Ground.data }, { on := 28, ground := Ground.gcOnly Departure.lateStores }], guard := none }) (v := ?_) rfl (by kernel_rfl) (by kernel_rfl) (by kernel_rfl) (fun _ _ _ h => h) (Or.inl ⟨by rfl, ?_⟩) (by assumption) ?_
              rotate_left
              · intro w hSw; (try dsimp only at hSw); go_simp; try (with_reducible rfl)
              try simp only [Act.put, List.setIfInBounds_toArray, List.set_cons_zero, List.set_cons_succ]
              refine wpAnyH_ready (rs := [28]) (by kernel_rfl) (by simp) ?_
              refine AllReadyH.cons (o := { dst := none, op := Op.store 39 (Operand.tmp 3) (Operand.tmp 38), type := 0, pos := "broker.go:305", after := #[{ on := 27, ground := Ground.data }, { on := 25, ground := Ground.data }, { on := 23, ground := Ground.chain }, { on := 0, ground := Ground.phase }, { on := 1, ground := Ground.phase }, { on := 2, ground := Ground.phase }, { on := 3, ground := Ground.phase }, { on := 4, ground := Ground.phase }, { on := 5, ground := Ground.phase }, { on := 6, ground := Ground.phase }, { on := 7, ground := Ground.phase }, { on := 8, ground := Ground.phase }, { on := 9, ground := Ground.phase }, { on := 10, ground := Ground.phase }, { on := 11, ground := Ground.phase }, { on := 12, ground := Ground.phase }, { on := 13, ground := Ground.phase }, { on := 14, ground := Ground.phase }, { on := 15, ground := Ground.phase }, { on := 16, ground := Ground.phase }, { on := 17, ground := Ground.phase }, { on := 18, ground := Ground.phase }, { on := 19, ground := Ground.phase }, { on := 20, ground := Ground.phase }, { on := 21, ground := Ground.phase }, { on := 22, ground := Ground.phase }, { on := 23, ground := Ground.phase }, { on := 24, ground := Ground.phase }, { on := 25, ground := Ground.phase }, { on := 26, ground := Ground.textOnly Departure.lateStores }, { on := 27, ground := Ground.phase }], guard := none }) rfl (fun K hK => ?_) AllReadyH.nil
              go_simp

              refine hK.out _ _ ?_ (fun hHeld => ?_)
              · exact HKK.out _ (HF2.out.trans ((set4b HB3.out _ _ _ _).2) (fun b hb e => by have := HF1.out.size; have e : b = wr.heap.size := e; omega))
              clear hK K
              try simp only [Act.put, List.setIfInBounds_toArray, List.set_cons_zero, List.set_cons_succ]
              refine wpAnyH_take (i := 29) (oi := { dst := some 4, op := Op.assign (Operand.tmp 39), type := 4, pos := "broker.go:305", after := #[{ on := 26, ground := Ground.data }, { on := 28, ground := Ground.chain }, { on := 0, ground := Ground.phase }, { on := 1, ground := Ground.phase }, { on := 2, ground := Ground.phase }, { on := 3, ground := Ground.phase }, { on := 4, ground := Ground.phase }, { on := 5, ground := Ground.phase }, { on := 6, ground := Ground.phase }, { on := 7, ground := Ground.phase }, { on := 8, ground := Ground.phase }, { on := 9, ground := Ground.phase }, { on := 10, ground := Ground.phase }, { on := 11, ground := Ground.phase }, { on := 12, ground := Ground.phase }, { on := 13, ground := Ground.phase }, { on := 14, ground := Ground.phase }, { on := 15, ground := Ground.phase }, { on := 16, ground := Ground.phase }, { on := 17, ground := Ground.phase }, { on := 18, ground := Ground.phase }, { on := 19, ground := Ground.phase }, { on := 20, ground := Ground.phase }, { on := 21, ground := Ground.phase }, { on := 22, ground := Ground.phase }, { on := 23, ground := Ground.phase }, { on := 24, ground := Ground.phase }, { on := 25, ground := Ground.phase }, { on := 26, ground := Ground.phase }, { on := 27, ground := Ground.phase }, { on := 28, ground := Ground.phase }], guard := none }) (v := ?_) rfl (by kernel_rfl) (by kernel_rfl) (by kernel_rfl) (fun _ _ _ h => h) (Or.inl ⟨by rfl, ?_⟩) (by assumption) ?_
              rotate_left
              · intro w hSw; (try dsimp only at hSw); go_simp; try (with_reducible rfl)
              try simp only [Act.put, List.setIfInBounds_toArray, List.set_cons_zero, List.set_cons_succ]
              refine wpAnyH_done (by kernel_rfl) ?_ _
              gi_wp2
              gi_meet
              refine ⟨_, rfl, rfl, ⟨HFIN.out _ (HF2.out.trans ((set4b HB3.out _ _ _ _).2) (fun b hb e => by have := HF1.out.size; have e : b = wr.heap.size := e; omega)) ((set4b HB3.out _ _ _ _).2.blk HV2.out (fun e => by have := HF1.out.size; have e : gv = wr.heap.size := e; omega))⟩, ⟨(set4b HB3.out _ _ _ _).1, HFR.out _ (Nat.le_refl _)⟩⟩
        case rest =>
          obtain ⟨b3, rfl, rfl, HK3, HB3⟩ := hcut
          have hrep3 := HK3.out.1.rep
          have hst3 := hrep3.stOf HG.out
          have hs3c : S3.cn i = some { c with vw := some v' } := by rw [HS3.out]; unfold St.setc; simp
          have hso3 : S3.stOf i = 1 := by unfold St.stOf; rw [hs3c]; exact HCN.out.2.2
          cases ok with
          | false =>
            have hv' := HNX.out.2 (by simp)
            have hS32 : S3 = S2 := by
              rw [HS3.out, hv']
              have : ({ c with vw := some v } : Cn) = c := by rw [← HCN.out.2.1]
              rw [this]
              exact setc_self HCN.out.1
            have HE2 : Aside0 (pumpC F S1 i = S3) := ⟨by rw [HE.out, HGO.out, if_neg (by decide), hS32]⟩
            clear hrep3 hst3 hs3c hso3 hv' hS32
            gi_wp2
            rw [HE2.out]
            exact ⟨o2, HK3.out.1, HST2.out.trans HK3.out.2⟩
          | true =>
            obtain ⟨c3, hc3, fg3, lg3, og3, vv3, r0, r1, r2, ⟨vq3, hq3, hog3, hvq3⟩, r4⟩ := hrep3.cnOf HG.out
            rw [hs3c] at hc3
            cases hc3
            have hcf3 : S3.cf = S2.cf := by rw [HS3.out]; rfl
            have hcb := HCB.out
            have hout := HOUT.out
            have hb3l := blk_lt HB3.out.1
            have hKK : ∀ w', Fr (qS og3 vq3) wc w' → w'.cell? ⟨x, 6, none⟩ = some (.pointer (some ⟨og3, 0, none⟩)) ∧ w'.cell? ⟨b3, 0, none⟩ = some (.int .i64 m.k) ∧ w'.cell? ⟨b3, 1, none⟩ = some (.int .i64 m.a) ∧ w'.cell? ⟨b3, 2, none⟩ = some (.int .i64 m.b) ∧ w'.cell? ⟨b3, 3, none⟩ = some (.string m.t) := fun w' hF => by
              have b1 := hF.blk r0.1 (fun hs => by
                have h2 := r0.2
                rcases hs with hs | hs
                · rw [hs, hog3] at h2; cases h2
                · rw [hvq3 _ hs] at h2; cases h2)
              have b2 := hF.blk HB3.out.1 (fun hs => by
                have h2 := HB3.out.2
                rcases hs with hs | hs
                · rw [hs, hog3] at h2; cases h2
                · rw [hvq3 _ hs] at h2; cases h2)
              exact ⟨(blk_cell b1 6).trans rfl, (blk_cell b2 0).trans rfl, (blk_cell b2 1).trans rfl, (blk_cell b2 2).trans rfl, (blk_cell b2 3).trans rfl⟩
            obtain ⟨bs, hbs⟩ : ∃ b, b = mB m := ⟨_, rfl⟩
            have hbl : bs.length ≤ 2053 := by rw [hbs]; exact mB_len m
            obtain ⟨S4, hS4⟩ : ∃ S4, S4 = S2.setc i (some { c with vw := some v', out := if ((mB m).length + c.out.length : Int) ≤ S2.cf.a2 then c.out ++ mB m else c.out }) := ⟨_, rfl⟩
            have hgo := HGO.out
            rw [if_pos rfl, ← hS4] at hgo
            have hwf4 : WF S4 := by
              rw [hS4]
              have hk3 := (HWF3.out.con i _ hs3c).2.2
              rw [hcf3] at hk3
              refine HK2.out.wf.setc HCN.out.1 ⟨hk3.st, hk3.name, hk3.fb, hk3.lx, ?_, ?_, hk3.op⟩ (fun e => e)
              · show (List.length (if ((mB m).length + c.out.length : Int) ≤ S2.cf.a2 then c.out ++ mB m else c.out) : Int) ≤ S2.cf.a2
                split
                · rw [List.length_append]; push_cast; omega
                · exact hout
              · have h9 := hk3.vw
                have : S3.log = S2.log := by rw [HS3.out]; rfl
                rw [this] at h9
                exact h9
            have hput : ∀ w1 A1 cp1, Fr nope wc w1 → ReadsInt w1 .u8 A1 bs.length bs → Calls Tryz.prog 119 #[.pointer (some ⟨og3, 0, none⟩), .slice A1 bs.length cp1] w1 fun e w2 => ∃ ok2, e = .returned (.bool ok2) ∧ Fr (qS og3 vq3) wc w2 ∧ ∃ o3, PumpK L w o w.heap.size (w.heap.size + 1) o3 S4 w2 ∧ Step (fun t => t ≠ .no) wc o2 w2 o3 := fun w1 A1 cp1 hF hR => by
              refine (qput_calls c.out bs S2.cf.a2 vq3 og3 0 A1 cp1 w1 (by have := hq3.fr hF (fun h => h) (fun _ _ h => h); rw [hcf3] at this; exact this) (Nat.zero_le _) (by omega) (by omega) (by omega) (by omega) hR).mono ?_
              rintro e w2 ⟨v2, ok2, bs2, rfl, hok, hq2, hat2, hf2⟩
              have hbs2 : bs2 = if ((mB m).length + c.out.length : Int) ≤ S2.cf.a2 then c.out ++ mB m else c.out := by rw [hok.out.2, hbs]
              have hF2 : Fr (qS og3 vq3) wc w2 := (hF.mono (fun _ _ (h : False) => h.elim)).trans hf2 (fun _ _ h => h)
              have st := (Step.quiet hrep3.fresh hF).loose
              obtain ⟨o3, r3, s3⟩ := (hrep3.quiet hF).outq HG.out hs3c (r0.ext st (fun h => h)) (r1.ext st (fun h => h)) (r2.ext st (fun h => h)) (r4.ext st (fun h => h)) (hq3.fr hF (fun h => h) (fun _ _ h => h)) hog3 hvq3 (by rw [hcf3]; exact hq2) (AtRow.newOr hat2) hf2
              have hsc : S3.setc i (some { c with vw := some v', out := bs2 }) = S4 := by rw [HS3.out, setc_twice, hS4, hbs2]
              rw [hsc] at r3
              have s4 := (hrep3.step hF).trans s3
              exact ⟨ok2, rfl, hF2, o3, HK3.out.1.go r3 hwf4 s4, s4⟩
            have HPUT := Aside0.mk hput
            have HKK3 := Aside0.mk hKK
            have HBS := Aside0.mk hbs
            have HS4 := Aside0.mk hS4
            have HGO4 := Aside0.mk hgo
            have HWF4 := Aside0.mk hwf4
            clear hrep3 hst3 hs3c hso3 r0 r1 r2 hq3 hog3 hvq3 r4 hcf3 hcb hout hKK hbs hS4 hgo hwf4 hput
            gi_upto_region 6 with (fail)
            refine wpIn_region_held (S := fun w' => w'.cell? ⟨x, 6, none⟩ = some (.pointer (some ⟨og3, 0, none⟩)) ∧ w'.cell? ⟨b3, 0, none⟩ = some (.int .i64 m.k) ∧ w'.cell? ⟨b3, 1, none⟩ = some (.int .i64 m.a) ∧ w'.cell? ⟨b3, 2, none⟩ = some (.int .i64 m.b) ∧ w'.cell? ⟨b3, 3, none⟩ = some (.string m.t)) l _ (by kernel_rfl) (by kernel_rfl) ?noOut ?hS ?go
            case noOut =>
              rintro ⟨a, W', hx⟩
              exact hx
            case hS => exact HKK3.out _ (Fr.refl _ wc).drew
            case go =>
              intro hHeld
              refine wpAnyH_take (i := 0) (oi := { dst := some 42, op := Op.move (Operand.tmp 2), type := 112, pos := "broker.go:309", after := #[], guard := none }) (v := ?_) rfl (by kernel_rfl) (by kernel_rfl) (by kernel_rfl) (fun _ _ _ h => h) (Or.inl ⟨by rfl, ?_⟩) (by assumption) ?_
              rotate_left
              · intro w hSw; (try dsimp only at hSw); go_simp; try (with_reducible rfl)
              try simp only [Act.put, List.setIfInBounds_toArray, List.set_cons_zero, List.set_cons_succ]
              refine wpAnyH_take (i := 1) (oi := { dst := some 43, op := Op.nilCheck (Operand.tmp 42), type := 0, pos := "broker.go:309", after := #[{ on := 0, ground := Ground.data }], guard := none }) (v := ?_) rfl (by kernel_rfl) (by kernel_rfl) (by kernel_rfl) (fun _ _ _ h => h) (Or.inl ⟨by rfl, ?_⟩) (by assumption) ?_
              rotate_left
              · intro w hSw; (try dsimp only at hSw); go_simp; try (with_reducible rfl)
              try simp only [Act.put, List.setIfInBounds_toArray, List.set_cons_zero, List.set_cons_succ]
              refine wpAnyH_take (i := 2) (oi := { dst := some 44, op := Op.fieldAddr 121 (Operand.tmp 43) 6, type := 0, pos := "broker.go:309", after := #[{ on := 1, ground := Ground.data }], guard := none }) (v := ?_) rfl (by kernel_rfl) (by kernel_rfl) (by kernel_rfl) (fun _ _ _ h => h) (Or.inl ⟨by rfl, ?_⟩) (by assumption) ?_
              rotate_left
              · intro w hSw; (try dsimp only at hSw); go_simp; try (with_reducible rfl)
              try simp only [Act.put, List.setIfInBounds_toArray, List.set_cons_zero, List.set_cons_succ]
              refine wpAnyH_take (i := 3) (oi := { dst := some 45, op := Op.load 117 (Operand.tmp 44), type := 117, pos := "broker.go:309", after := #[{ on := 2, ground := Ground.data }], guard := none }) (v := ?_) rfl (by kernel_rfl) (by kernel_rfl) (by kernel_rfl) (fun _ _ _ h => h) (Or.inl ⟨by rfl, ?_⟩) (by assumption) ?_
              rotate_left
              · intro w hSw; (try dsimp only at hSw); go_simp; try (with_reducible rfl)
              try simp only [Act.put, List.setIfInBounds_toArray, List.set_cons_zero, List.set_cons_succ]
              refine wpAnyH_take (i := 4) (oi := { dst := some 46, op := Op.load 39 (Operand.tmp 3), type := 39, pos := "broker.go:309", after := #[], guard := none }) (v := ?_) rfl (by kernel_rfl) (by kernel_rfl) (by kernel_rfl) (fun _ _ _ h => h) (Or.inl ⟨by rfl, ?_⟩) (by assumption) ?_
              rotate_left
              · intro w hSw; (try dsimp only at hSw); go_simp; try (with_reducible rfl)
              try simp only [Act.put, List.setIfInBounds_toArray, List.set_cons_zero, List.set_cons_succ]
              refine wpAnyH_ready (rs := [5]) (by kernel_rfl) (by simp) ?_
              refine AllReadyH.cons (o := { dst := some 47, op := Op.call { callee := Callee.value (Operand.func 29), args := #[Operand.const (Value.slice none 0 0), Operand.tmp 46], argTypes := #[29, 39] }, type := 29, pos := "broker.go:309", after := #[{ on := 4, ground := Ground.data }], guard := none }) rfl (fun K hK => ?_) AllReadyH.nil
              go_simp
              go_at_call 29
              have hq := mput_calls m wc.drew (by omega)
              unfold mgV OwnB at hq
              rw [← HBS.out] at hq
              refine hq.mono ?_
              rintro e1 w1 ⟨v1, rfl, ho1, hf1⟩
              obtain ⟨A1, cp1, rfl⟩ := own_slice ho1
              have HO1 := Aside0.mk ho1
              have HF5 := Aside0.mk ((Fr.refl nope wc).drew.trans hf1 (fun _ _ h => h))
              clear hq ho1 hf1
              refine hK.out _ _ ?_ (fun hHeld => ?_)
              · exact HKK3.out _ (frAny HF5.out)
              clear hK K
              try simp only [Act.put, List.setIfInBounds_toArray, List.set_cons_zero, List.set_cons_succ]
              refine wpAnyH_ready (rs := [6]) (by kernel_rfl) (by simp) ?_
              refine AllReadyH.cons (o := { dst := some 48, op := Op.call { callee := Callee.value (Operand.func 119), args := #[Operand.tmp 45, Operand.tmp 47], argTypes := #[117, 29] }, type := 4, pos := "broker.go:309", after := #[{ on := 3, ground := Ground.data }, { on := 5, ground := Ground.data }, { on := 5, ground := Ground.chain }], guard := none }) rfl (fun K hK => ?_) AllReadyH.nil
              go_simp
              go_at_call 119
              refine (HPUT.out w1 A1 cp1 HF5.out (own_reads' HO1.out)).mono ?_
              rintro e2 w2 ⟨ok2, rfl, hf2, o3, hk4, hst4⟩
              have HF6 := Aside0.mk hf2
              have HK4 := Aside0.mk hk4
              have HST4 := Aside0.mk hst4
              clear hf2 hk4 hst4
              refine hK.out _ _ ?_ (fun hHeld => ?_)
              · exact HKK3.out _ HF6.out
              clear hK K
              try simp only [Act.put, List.setIfInBounds_toArray, List.set_cons_zero, List.set_cons_succ]
              refine wpAnyH_done (by kernel_rfl) ?_ _
              have hk4 := HK4.out
              have hB4 := HST4.out.fr.blk HB3.out.1 (fun hx => hx HB3.out.2)
              have hm0 : w2.cell? ⟨b3, 0, none⟩ = some (.int .i64 m.k) := (blk_cell hB4 0).trans rfl
              have hb3l2 := blk_lt hB4
              have hbx : w2.cell? ⟨w.heap.size, 0, none⟩ = some (.pointer (some ⟨L.bg, 0, none⟩)) := (blk_cell hk4.b1.1 0).trans rfl
              have hbxl := blk_lt hk4.b1.1
              have hat9 := HAT.out
              have hfu9 := HFUU.out
              have hms9 := HMS.out
              clear hk4 hB4
              by_cases h12 : m.k = 12
              · have t12 : (m.k == 12) = true := beq_iff_eq.2 h12
                have hcall := bleave_calls w2 L o3 S4 i x HK4.out.rep HWF4.out HG.out
                have hlw := leave_wf HWF4.out i
                have hls := leave_shut S4 HWF4.out i
                have HL9 := Aside0.mk (And.intro hlw.1 hls)
                have HE4 : Aside0 (pumpC F S1 i = pumpC f1 (leave S4 i) i) := ⟨by rw [HE.out, HGO4.out, if_pos h12]⟩
                have HC9 := Aside0.mk hcall
                have HM9 : Aside0 (v.at_ ≤ 8100 ∧ pumpM x wr = 10000 - v.at_) := ⟨by have := HK2.out.wf.log; omega, hms9⟩
                have hfS2 : (Fence.wide.inRound l).fn 69 := trivial
                clear h12 hcall hlw hls hat9 hfu9 hms9
                gi_wp2_with (refine ⟨trivial, ?_⟩; gi_at_call 69; refine (CallsIn.inRound l (callsIn_wide.2 HC9.out)).mono ?_; rintro e W3 ⟨o4, rfl, hr4, hst4⟩; have HR4 := Aside0.mk hr4; have HST5 := Aside0.mk hst4; clear hr4 hst4)
                go_roundw
                case rel =>
                  refine ⟨f1, o4, leave S4 i, HE4, ⟨fun c9 v9 e1 e2 _ => ?_⟩, ⟨HK4.out.go HR4.out HL9.out.1 HST5.out⟩, ⟨((HST2.out.trans HK3.out.2).trans HST4.out).trans HST5.out⟩⟩
                  have h8 := HL9.out.2
                  unfold isOpen at h8
                  rw [e1] at h8
                  simp [e2] at h8
                case measure =>
                  have h8 := HL9.out.2
                  have : pumpM x W3 = 0 := (pump_meas HR4.out HL9.out.1 HG.out).2 (fun e => by
                    unfold isOpen at h8
                    unfold St.stOf at e
                    cases hc9 : (leave S4 i).cn i with
                    | none => rw [hc9] at e; simp at e
                    | some c9 => rw [hc9] at e h8; simp at e; simp [e] at h8)
                  have := HM9.out
                  omega
              · have t12 : (m.k == 12) = false := beq_eq_false_iff_ne.2 h12
                have hn1 := HNX.out.1 (by simp)
                have hn2 : v.at_ + 1 ≤ v'.at_ := hn1.resolve_left h12
                have HE4 : Aside0 (pumpC F S1 i = pumpC f1 S4 i) := ⟨by rw [HE.out, HGO4.out, if_neg h12]⟩
                have hs4c : ∀ c9, S4.cn i = some c9 → c9.st = 1 ∧ c9.vw = some v' := fun c9 e => by
                  rw [HS4.out] at e
                  unfold St.setc at e
                  simp at e
                  rw [← e]
                  exact ⟨HCN.out.2.2, rfl⟩
                have hs41 : S4.stOf i = 1 := by
                  rw [HS4.out]; unfold St.stOf St.setc; simp; exact HCN.out.2.2
                have hlog4 : S4.log = S2.log := by rw [HS4.out]; rfl
                have HX := Aside0.mk (And.intro hn2 (And.intro hs4c (And.intro hs41 hlog4)))
                have HM9 : Aside0 (S2.log.length + 2 ≤ f1 + 1 + v.at_ ∧ v.at_ ≤ 8100 ∧ pumpM x wr = 10000 - v.at_) := ⟨by have := HK2.out.wf.log; omega⟩
                clear h12 hn1 hn2 hs4c hs41 hlog4 hat9 hfu9 hms9
                gi_wp2
                go_roundw
                case rel =>
                  refine ⟨f1, o3, S4, HE4, ⟨fun c9 v9 e1 e2 e3 => ?_⟩, HK4, ⟨(HST2.out.trans HK3.out.2).trans HST4.out⟩⟩
                  have h8 := (HX.out.2.1 c9 e1).2
                  rw [e3] at h8
                  cases h8
                  rw [HX.out.2.2.2]
                  have := HX.out.1
                  have := HM9.out
                  omega
                case measure =>
                  obtain ⟨c9, v9, e1, e2, e3, e4⟩ := (pump_meas HK4.out.rep HWF4.out HG.out).1 HX.out.2.2.1
                  have h8 := (HX.out.2.1 c9 e1).2
                  rw [e3] at h8
                  cases h8
                  have := HX.out.1
                  have := HM9.out
                  omega
end Go.Proofs.YtfkamoiamebngaaGreatDoor.BroW

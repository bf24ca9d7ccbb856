/- broker: leave. -/
import Derived.Test.YtfkamoiamebngaaGreatDoorM13
namespace Go.Proofs.YtfkamoiamebngaaGreatDoor.BroW
open Go.RowKit Go.Proofs.YtfkamoiamebngaaGreatDoorW.PrintWords Go.Proofs.YtfkamoiamebngaaGreatDoorW.PrintMore Go.Proofs.YtfkamoiamebngaaGreatDoor.Fr Go.Proofs.YtfkamoiamebngaaGreatDoor.ScrW Go.Proofs.YtfkamoiamebngaaGreatDoor.ScrP Go.Proofs.YtfkamoiamebngaaGreatDoor.Mod
set_option linter.unusedVariables false
set_option linter.unusedSimpArgs false

/-- a connection's own block turns -/
theorem Rep.conC {w w1 : World} {L : Lay} {o : Own} {S : St} (h : Rep w L o S) {i : Int} {g : Nat} (hg : L.cp i = some g) {c : Cn} {fg lg og : Nat} {vv : Value} (p0 : PCb w o i g (conCells i c fg lg og vv)) (p1 : PFd w o i fg c.fb c.fe) (p2 : PLx w o i lg c.lx) (p3 : POu w o i og c.out S.cf.a2) (p4 : PVw w o i vv c.vw)
    (s : Int) (nm : ByteArray) (id : Int) (hb : w1.heap[g]? = some (.cells (conCells i { c with st := s, name := nm, idle := id } fg lg og vv) 121 (0, 0))) (hf : Fr (only g) w w1) :
    Rep w1 L o (S.setc i (some { c with st := s, name := nm, idle := id })) ∧ Step (fun t => t ≠ .no) w o w1 o := by
  have st : Step (fun t => t = .con i 0) w o w1 o := ⟨fun _ _ => rfl, fun b hb => h.fresh b (Nat.le_trans hf.size hb), hf.mono (fun b _ hb => by rw [show b = g from hb]; exact p0.2)⟩
  refine ⟨h.con' hg (st.mono (fun t ht => ⟨0, ht⟩)) ⟨fg, lg, og, vv, ⟨hb, p0.2⟩, p1.ext st.loose (by simp), p2.ext st.loose (by simp), p3.ext st.loose (by simp), p4.ext st.loose (by simp)⟩, st.mono (fun t ht => by rw [ht]; simp)⟩
/-- the table turns -/
theorem Rep.tabq {w w1 : World} {L : Lay} {o : Own} {S : St} (h : Rep w L o S) {mb : Nat} {qv qv1 : Value} (hT : IsTb w L.gt mb qv S.tb) (hm : o mb = .tab) (hq : ∀ b, qv.ownBlock = some b → o b = .tab) {t : Tb} (hT1 : IsTb w1 L.gt mb qv1 t) (hn : NewOr w qv qv1) (hf : Fr (tbS L.gt mb) w w1) :
    ∃ o', Rep w1 L o' { S with tb := t } ∧ Step (fun t => t ≠ .no) w o w1 o' := by
  obtain ⟨_, _, _, hgt, _⟩ := h.tab
  have st : Step (fun t => t = .tab) w o w1 (tagN w o .tab (fun b => qv1.ownBlock = some b)) :=
    step_tagN h.fresh (fun b hb => (own_old hT1.2.2.1 hb).2) (hf.mono (fun b _ hb => by
      rcases hb with hb | hb
      · rw [hb]; exact hgt
      · rw [hb]; exact hm))
  exact ⟨_, h.tab' st ⟨mb, qv1, hT1, (st.old _ hT.lt.1).trans hgt, (st.old _ hT.lt.2.1).trans hm, fun b hb => tagN_or (by
    rcases hn b hb with h1 | h1
    · exact .inl ⟨hT.lt.2.2 b h1, hq b h1⟩
    · exact .inr ⟨h1, hb⟩)⟩, st.mono (fun t ht => by rw [ht]; simp)⟩
theorem dig_dec (k : Nat) (hk : k < 100) : dig (k : Int) = Lib.decDigits k := by
  unfold dig
  by_cases h : k < 10
  · rw [if_pos (by omega), Lib.decDigits_one h]
    simp
  · rw [if_neg (by omega), Lib.decDigits_two h hk]
    simp
theorem dig_len (k : Int) : (dig k).length ≤ 2 := by unfold dig; split <;> simp
theorem itoa_calls (k : Nat) (hk : k < 100) (w : World) : Calls Tryz.prog 91 #[.int .i64 k] w fun e w' => e = .returned (.string (strL (dig k))) ∧ w' = w := by
  have := Tryz.strconv_Itoa_small k hk w
  rw [← dig_dec k hk] at this
  exact this

set_option maxRecDepth 100000 in
set_option maxHeartbeats 4000000 in
theorem leave_step (m : Nat) (ih : ∀ k, k < m → HLeave k) : HLeave m := by
  intro w L o S i g h hw hg hn
  have HR := Aside0.mk h
  have HG := Aside0.mk hg
  have HWF := Aside0.mk hw
  obtain ⟨c, hc, fg, lg, og, vv, p0, p1, p2, p3, p4⟩ := h.cnOf hg
  have HC := Aside0.mk hc
  have HP := Aside0.mk (And.intro p0 (And.intro p1 (And.intro p2 (And.intro p3 p4))))
  have hid := hw.con i c hc
  have g0 : w.cell? ⟨g, 0, none⟩ = some (.int .i64 i) := (blk_cell p0.1 0).trans rfl
  have g1 : w.cell? ⟨g, 1, none⟩ = some (.int .i64 c.st) := (blk_cell p0.1 1).trans rfl
  have gf := blk_frozen p0.1 1
  have hgg := blk_lt p0.1
  have b10 : w.cell? ⟨L.bg, 10, none⟩ = some (.pointer (some ⟨L.gt, 0, none⟩)) := (blk_cell h.brk.1 10).trans rfl
  have hbg := blk_lt h.brk.1
  have hne : L.bg ≠ g := fun e => by have := h.brk.2; rw [e, p0.2] at this; cases this
  have hR1 := h.conC hg p0 p1 p2 p3 p4 2 c.name c.idle (w1 := w.setCell ⟨g, 1, none⟩ (.int .i64 2)) (blk_set p0.1 1 _) ((Fr.refl (only g) w).set (fun _ => rfl) 1 _)
  have HR1 := Aside0.mk hR1
  have HB1 := Aside0.mk (blk_set p0.1 1 (.int .i64 2))
  obtain ⟨S', hS'⟩ : ∃ S', S' = leaveF (m + 1) S i := ⟨_, rfl⟩
  rw [← hS']
  have hi1 := hid.1
  have hi2 := hid.2.1
  by_cases hs : c.st = 1
  case neg =>
    rw [leaveF_shut m hc hs] at hS'
    have HS := Aside0.mk hS'
    have t1 : (c.st == 1) = false := beq_eq_false_iff_ne.2 hs
    clear h hw hg hc p0 p1 p2 p3 p4 hid hS' hs hR1
    go_enter Tryz.func69, Tryz.ntmps69
    go_wp2
    go_end0
    rw [HS.out]
    exact ⟨o, rfl, HR1.out.1, HR1.out.2⟩
  case pos =>
    have hlt := nOpen_close hw hc hs
    have hwf2 := hw.close hc
    rw [leaveF_open m hc hs] at hS'
    obtain ⟨m', rfl⟩ : ∃ k, m = k + 1 := ⟨m - 1, by omega⟩
    rw [hs] at g1
    have HS := Aside0.mk hS'
    have HW2 := Aside0.mk hwf2
    have HLT := Aside0.mk hlt
    have HIH := Aside0.mk (ih m' (by omega))
    obtain ⟨k, rfl⟩ : ∃ k : Nat, i = (k : Int) := ⟨i.toNat, by omega⟩
    clear h hw hg hc p0 p1 p2 p3 p4 hid hS' hs hR1 hwf2 hlt ih
    obtain ⟨W1, hW1⟩ : ∃ W1, W1 = w.setCell ⟨g, 1, none⟩ (.int .i64 2) := ⟨_, rfl⟩
    have HW1 := Aside0.mk hW1
    rw [← hW1] at HR1 HB1
    clear hW1
    obtain ⟨mb, qv, hT, hgt, hmb, hqv⟩ := HR1.out.1.tab
    have HT := Aside0.mk hT
    have HTG := Aside0.mk (And.intro hmb hqv)
    have HK : Aside0 (∀ w', Fr (tbS L.gt mb) W1 w' → w'.cell? ⟨L.bg, 10, none⟩ = some (.pointer (some ⟨L.gt, 0, none⟩)) ∧ w'.cell? ⟨g, 0, none⟩ = some (.int .i64 (k : Int))) := ⟨fun w' hF => by
      have hB := hF.blk HR1.out.1.brk.1 (fun hs => by
        have h0 := HR1.out.1.brk.2
        rcases hs with hs | hs
        · rw [hs, hgt] at h0; cases h0
        · rw [hs, hmb] at h0; cases h0)
      have hM := hF.blk HB1.out (fun hs => by
        have h0 := HP.out.1.2
        rcases hs with hs | hs
        · rw [hs, hgt] at h0; cases h0
        · rw [hs, hmb] at h0; cases h0)
      exact ⟨(blk_cell hB 10).trans rfl, (blk_cell hM 0).trans rfl⟩⟩
    clear hT hgt hmb hqv b10 g0
    have hkw : (Lit.int .i64 (k : Int)).wf = true := mpWf hi1 hi2
    have hdl : (strL (dig k)).size ≤ 2 := dig_len k
    have hcc : ¬ 9223372036854775807 < 5 + (strL (dig k)).size := by omega
    go_enter Tryz.func69, Tryz.ntmps69
    go_wp2
    rw [← HW1.out]
    go_region_held3 (fun w' => w'.cell? ⟨L.bg, 10, none⟩ = some (.pointer (some ⟨L.gt, 0, none⟩)) ∧ w'.cell? ⟨g, 0, none⟩ = some (.int .i64 (k : Int)))
      (first | exact HK.out _ (Fr.refl _ W1).drew | exact HK.out _ HF2.out | fail)
      (first | (go_at_call 90; have hq := tleave_calls _ (k : Int) L.gt mb qv W1.drew (HT.out.fr (Fr.refl nope W1).drew (fun h => h) (fun h => h) (fun _ _ h => h)) hkw; (refine hq.mono ?_); rintro e2 w2 ⟨qv2, rfl, hT2, hn2, hf2⟩; have hn3 : NewOr W1 qv qv2 := (fun b hb => (hn2 b hb).imp id (fun h => (by rw [drew_size] at h; exact h))); have hf3 : Fr (tbS L.gt mb) W1 w2 := (Fr.refl _ W1).drew.trans hf2 (fun _ _ h => h); have hrr := HR1.out.1.tabq HT.out HTG.out.1 HTG.out.2 hT2 hn3 hf3; obtain ⟨o2, hr2, hst2⟩ := hrr; have HR2 := Aside0.mk hr2; have HST2 := Aside0.mk hst2; have HF2 := Aside0.mk hf3; have hk2 := HK.out _ hf3; have hg2 := hk2.2; have hgl : g < w2.heap.size := (by have := hf3.size; have := blk_lt HB1.out; omega); clear hT2 hn2 hf2 hn3 hf3 hr2 hst2 hk2) | fail)
    all_goals
      have hstr : strL (leftL (k : Int)) = ⟨#[108, 101, 102, 116, 32]⟩ ++ strL (dig k) := strL_append _ _
      have hcall := tell_calls m' HIH.out w2 L o2 _ (note (leftL (k : Int))) HR2.out HW2.out (Nat.le_of_lt_succ (Nat.lt_of_lt_of_le HLT.out hn)) (by show (strL (leftL (k : Int))).size ≤ 1000000; rw [hstr, ByteArray.size_append]; have : (⟨#[108, 101, 102, 116, 32]⟩ : ByteArray).size = 5 := rfl; omega)
      unfold mgV note at hcall
      simp only at hcall
      rw [hstr] at hcall
      have HCALL := Aside0.mk hcall
      have HSTR := Aside0.mk hstr
      clear hcall hstr
      go_wp2_with (first | (go_at_call 91; refine (itoa_calls k (by omega) _).mono ?_; rintro e3 w3 ⟨rfl, hw3⟩; have hw3 := hw3.symm; subst hw3) | (go_at_call 67; refine HCALL.out.mono ?_; rintro e4 w4 ⟨o4, rfl, hr4, hst4⟩; have HR4 := Aside0.mk hr4; have HST4 := Aside0.mk hst4; clear hr4 hst4))
      go_end0
      rw [HS.out]
      refine ⟨o4, rfl, ?_, (HR1.out.2.trans HST2.out).trans HST4.out⟩
      have := HR4.out
      rw [← HSTR.out] at this
      exact this
theorem leave_all (m : Nat) : HLeave m := by
  induction m using Nat.strongRecOn with
  | ind m ih => exact leave_step m ih
end Go.Proofs.YtfkamoiamebngaaGreatDoor.BroW

/- broker: shut, turned. -/
namespace Go.Proofs.YtfkamoiamebngaaGreatDoor.BroW
open Go.RowKit Go.Proofs.YtfkamoiamebngaaGreatDoorW.PrintWords Go.Proofs.YtfkamoiamebngaaGreatDoorW.PrintMore Go.Proofs.YtfkamoiamebngaaGreatDoor.Fr Go.Proofs.YtfkamoiamebngaaGreatDoor.ScrW Go.Proofs.YtfkamoiamebngaaGreatDoor.ScrP Go.Proofs.YtfkamoiamebngaaGreatDoor.Mod
set_option linter.unusedVariables false
set_option linter.unusedSimpArgs false

theorem bleave_calls (w : World) (L : Lay) (o : Own) (S : St) (i : Int) (g : Nat) (h : Rep w L o S) (hw : WF S) (hg : L.cp i = some g) :
    Calls Tryz.prog 69 #[.pointer (some ⟨L.bg, 0, none⟩), .pointer (some ⟨g, 0, none⟩)] w (QB L o w (leave S i) (.tuple #[])) := leave_all 16 w L o S i g h hw hg (nOpen_le S)
theorem bsend_calls (w : World) (L : Lay) (o : Own) (S : St) (i : Int) (g : Nat) (mg : Mg) (h : Rep w L o S) (hw : WF S) (hg : L.cp i = some g) (ht : mg.t.size ≤ 1000000) :
    Calls Tryz.prog 82 #[.pointer (some ⟨L.bg, 0, none⟩), .pointer (some ⟨g, 0, none⟩), .agg #[.int .i64 mg.k, .int .i64 mg.a, .int .i64 mg.b, .string mg.t]] w (QB L o w (send S i mg) (.tuple #[])) := send_calls 16 (leave_all 16) w L o S i g mg h hw hg (nOpen_le S) ht
theorem btell_calls (w : World) (L : Lay) (o : Own) (S : St) (mg : Mg) (h : Rep w L o S) (hw : WF S) (ht : mg.t.size ≤ 1000000) :
    Calls Tryz.prog 67 #[.pointer (some ⟨L.bg, 0, none⟩), .agg #[.int .i64 mg.k, .int .i64 mg.a, .int .i64 mg.b, .string mg.t]] w (QB L o w (tell S mg) (.tuple #[])) := tell_calls 16 (leave_all 16) w L o S mg h hw (nOpen_le S) ht
theorem send_wf {S : St} (h : WF S) (i : Int) (mg : Mg) : WF (send S i mg) ∧ SameC S (send S i mg) := sendW_ok leave_ok h (nOpen_le S) i mg
theorem tell_wf {S : St} (h : WF S) (mg : Mg) : WF (tell S mg) ∧ SameC S (tell S mg) := tellW_ok leave_ok h (nOpen_le S) mg
theorem leave_wf {S : St} (h : WF S) (i : Int) : WF (leave S i) ∧ SameC S (leave S i) := ⟨leave_ok.wf S i h (nOpen_le S), leave_ok.same S i h (nOpen_le S)⟩
theorem shut_wf {S : St} (h : WF S) (i why : Int) : WF (shut S i why) ∧ SameC S (shut S i why) := by
  unfold shut
  have h1 := send_wf h i ⟨13, why, 0, strL []⟩
  simp only
  split
  · exact h1
  · have h2 := leave_wf h1.1 i
    exact ⟨h2.1, h1.2.trans h2.2⟩
theorem Rep.stOf {w : World} {L : Lay} {o : Own} {S : St} (h : Rep w L o S) {i : Int} {g : Nat} (hg : L.cp i = some g) : w.cell? ⟨g, 1, none⟩ = some (.int .i64 (S.stOf i)) ∧ g < w.heap.size := by
  obtain ⟨c, hc, fg, lg, og, vv, p0, _⟩ := h.cnOf hg
  unfold St.stOf
  rw [hc]
  exact ⟨(blk_cell p0.1 1).trans rfl, blk_lt p0.1⟩

set_option maxRecDepth 100000 in
set_option maxHeartbeats 4000000 in
theorem shut_calls (w : World) (L : Lay) (o : Own) (S : St) (i why : Int) (g : Nat) (h : Rep w L o S) (hw : WF S) (hg : L.cp i = some g) :
    Calls Tryz.prog 61 #[.pointer (some ⟨L.bg, 0, none⟩), .pointer (some ⟨g, 0, none⟩), .int .i64 why] w (QB L o w (shut S i why) (.tuple #[])) := by
  have HG := Aside0.mk hg
  have HC := Aside0.mk (bsend_calls w L o S i g ⟨13, why, 0, strL []⟩ h hw hg (show (0 : Nat) ≤ 1000000 by omega))
  have HW1 := Aside0.mk (send_wf hw i ⟨13, why, 0, strL []⟩).1
  obtain ⟨S1, hS1⟩ : ∃ S1, S1 = send S i ⟨13, why, 0, strL []⟩ := ⟨_, rfl⟩
  obtain ⟨S2, hS2⟩ : ∃ S2, S2 = shut S i why := ⟨_, rfl⟩
  rw [← hS2]
  unfold shut at hS2
  simp only at hS2
  rw [← hS1] at HW1 hS2 HC
  have hstr : (strL [] : ByteArray) = ⟨#[]⟩ := rfl
  rw [hstr] at HC
  clear h hw hg hS1 hstr
  by_cases h2 : S1.stOf i = 2
  · rw [if_pos h2] at hS2
    have HS2 := Aside0.mk hS2
    have H2 := Aside0.mk h2
    clear hS2 h2
    go_enter Tryz.func61, Tryz.ntmps61
    go_wp2_with (go_at_call 82; refine HC.out.mono ?_; rintro e1 w1 ⟨o1, rfl, hr1, hst1⟩; have hs1 := hr1.stOf HG.out; rw [H2.out] at hs1; obtain ⟨hs1, hgl⟩ := hs1; have HR1 := Aside0.mk hr1; have HST1 := Aside0.mk hst1; clear hr1 hst1)
    go_end0
    rw [HS2.out]
    exact ⟨o1, rfl, HR1.out, HST1.out⟩
  · rw [if_neg h2] at hS2
    have HS2 := Aside0.mk hS2
    obtain ⟨sv, hsv⟩ : ∃ s, S1.stOf i = s := ⟨_, rfl⟩
    have HSV := Aside0.mk hsv
    have t2 : (sv == 2) = false := by rw [← hsv]; exact beq_eq_false_iff_ne.2 h2
    have t3 : (sv != 2) = true := by simp [bne, t2]
    clear hS2 h2 hsv
    go_enter Tryz.func61, Tryz.ntmps61
    go_wp2_with (first | (go_at_call 82; refine HC.out.mono ?_; rintro e1 w1 ⟨o1, rfl, hr1, hst1⟩; have hs1 := hr1.stOf HG.out; rw [HSV.out] at hs1; obtain ⟨hs1, hgl⟩ := hs1; have HR1 := Aside0.mk hr1; have HST1 := Aside0.mk hst1; clear hr1 hst1) | (go_at_call 69; refine (bleave_calls w1 L o1 S1 i g HR1.out HW1.out HG.out).mono ?_; rintro e2 w2 ⟨o2, rfl, hr2, hst2⟩; have HR2 := Aside0.mk hr2; have HST2 := Aside0.mk hst2; clear hr2 hst2))
    go_end0
    rw [HS2.out]
    exact ⟨o2, rfl, HR2.out, HST1.out.trans HST2.out⟩
end Go.Proofs.YtfkamoiamebngaaGreatDoor.BroW

/- What telling does to the floor; turned. Plain. -/
namespace Go.Proofs.YtfkamoiamebngaaGreatDoor.Mod
open Go.RowKit Go.Proofs.YtfkamoiamebngaaGreatDoorW.PrintWords Go.Proofs.YtfkamoiamebngaaGreatDoor.ScrP Go.Proofs.YtfkamoiamebngaaGreatDoor.LexP Go.Proofs.YtfkamoiamebngaaGreatDoor.BroW
set_option linter.unusedVariables false

/-- what is sent does not touch, but by leavings -/
structure Lv (S S' : St) : Prop where
  same : SameC S S'
  told : S'.told = S.told
  inp : S'.inp = S.inp
  inE : S'.inE = S.inE
  strikes : S'.strikes = S.strikes
  ended : S'.ended = S.ended
  code : S'.code = S.code
  tb : S'.tb = S.tb ∨ nOpen S' < nOpen S
theorem Lv.refl (S : St) : Lv S S := ⟨SameC.refl S, rfl, rfl, rfl, rfl, rfl, rfl, .inl rfl⟩
theorem Lv.trans {A B C : St} (h : Lv A B) (k : Lv B C) : Lv A C := by
  refine ⟨h.same.trans k.same, k.told.trans h.told, k.inp.trans h.inp, k.inE.trans h.inE, k.strikes.trans h.strikes, k.ended.trans h.ended, k.code.trans h.code, ?_⟩
  have h1 := h.same.nOpen
  have h2 := k.same.nOpen
  rcases k.tb with e | e
  · rcases h.tb with e2 | e2
    · exact .inl (e.trans e2)
    · exact .inr (by omega)
  · exact .inr (by omega)
theorem sendW_lv {m : Nat} {lv : St → Int → St} (hlv : ∀ S i, WF S → nOpen S ≤ m → Lv S (lv S i)) {S : St} (h : WF S) (hn : nOpen S ≤ m) (i : Int) (g : Mg) : Lv S (sendW lv S i g) := by
  unfold sendW
  cases hc : S.cn i with
  | none => exact Lv.refl S
  | some c =>
    simp only
    split
    · exact Lv.refl S
    · split
      · exact ⟨sameC_setc hc (fun e => e), rfl, rfl, rfl, rfl, rfl, rfl, .inl rfl⟩
      · exact hlv S i h hn
theorem tellW_lv {m : Nat} {lv : St → Int → St} (H : LvOK m lv) (hlv : ∀ S i, WF S → nOpen S ≤ m → Lv S (lv S i)) {S : St} (h : WF S) (hn : nOpen S ≤ m) (g : Mg) : Lv S (tellW lv S g) := by
  unfold tellW
  have key : ∀ (l : List Int) (S : St), WF S → nOpen S ≤ m → Lv S (l.foldl (tellOne lv g) S) := by
    intro l
    induction l with
    | nil => intro S h _; exact Lv.refl S
    | cons a l ih =>
      intro S h hn
      simp only [List.foldl_cons]
      have h1 : WF (tellOne lv g S a) ∧ Lv S (tellOne lv g S a) := by
        unfold tellOne
        split
        · exact ⟨(sendW_ok H h hn a g).1, sendW_lv hlv h hn a g⟩
        · exact ⟨h, Lv.refl S⟩
      exact h1.2.trans (ih _ h1.1 (Nat.le_trans h1.2.same.nOpen hn))
  exact key ids16 S h hn
theorem leaveF_lv (m : Nat) : ∀ S i, WF S → nOpen S ≤ m → Lv S (leaveF (m + 1) S i) := by
  induction m using Nat.strongRecOn with
  | ind m ih =>
    intro S i h hn
    cases hc : S.cn i with
    | none => rw [leaveF_none m hc]; exact Lv.refl S
    | some c =>
      by_cases hs : c.st = 1
      · have h1 := nOpen_close h hc hs
        cases m with
        | zero => omega
        | succ k =>
          rw [leaveF_open _ hc hs]
          have h2 := tellW_lv (leaveF_ok k) (ih k (by omega)) (h.close hc) (by omega) (note (leftL i))
          have h3 : Lv S { S.setc i (some { c with st := 2 }) with tb := S.tb.leave i } := ⟨sameC_close hc, rfl, rfl, rfl, rfl, rfl, rfl, .inr h1⟩
          exact h3.trans h2
      · rw [leaveF_shut m hc hs]
        exact ⟨sameC_setc hc (fun e => by cases e), rfl, rfl, rfl, rfl, rfl, rfl, .inl rfl⟩
theorem tell_lv {S : St} (h : WF S) (g : Mg) : Lv S (tell S g) := tellW_lv leave_ok (leaveF_lv 16) h (nOpen_le S) g
theorem leave_lv {S : St} (h : WF S) (i : Int) : Lv S (leave S i) := leaveF_lv 16 S i h (nOpen_le S)
theorem hold_bd {S : St} (h : WF S) : 0 ≤ S.tb.holder ∧ S.tb.holder ≤ 16 := by
  rcases h.tb.hold with e | e
  · omega
  · have := role_ids h e
    omega
theorem WF.told' {S : St} (h : WF S) : WF { S with told := S.tb.holder } := ⟨h.cf, h.con, h.tb, h.inp, h.log, hold_bd h, h.code, h.str⟩
/-- what is told when the floor has turned -/
def turnS (S : St) : St := tell { S with told := S.tb.holder } ⟨9, S.tb.holder, 0, strL []⟩
theorem turnS_wf {S : St} (h : WF S) : WF (turnS S) := (tellW_ok leave_ok h.told' (nOpen_le _) _).1
/-- rounds enough -/
def fuelOK (f : Nat) (S : St) : Prop := nOpen S + (if S.tb.holder = S.told then 1 else 2) ≤ f
theorem fuel_turnS {f : Nat} {S : St} (h : WF S) (hh : S.tb.holder ≠ S.told) (hf : fuelOK (f + 1) S) : fuelOK f (turnS S) := by
  unfold fuelOK at *
  rw [if_neg hh] at hf
  have hl := tell_lv h.told' ⟨9, S.tb.holder, 0, strL []⟩
  have h1 : nOpen (turnS S) ≤ nOpen S := hl.same.nOpen
  rcases hl.tb with e | e
  · have e2 : (turnS S).tb.holder = (turnS S).told := by
      show (tell _ _).tb.holder = (tell _ _).told
      rw [e, hl.told]
    rw [if_pos e2]; omega
  · have e3 : nOpen (turnS S) < nOpen S := e
    split <;> omega
theorem turnF_stop (f : Nat) {S : St} (hh : S.tb.holder = S.told) : turnF (f + 1) S = S := by
  show (if S.tb.holder = S.told then S else _) = S
  exact if_pos hh
theorem turnF_go (f : Nat) {S : St} (hh : S.tb.holder ≠ S.told) : turnF (f + 1) S = turnF f (turnS S) := by
  show (if S.tb.holder = S.told then S else turnF f (turnS S)) = _
  exact if_neg hh
theorem turnF_ok : ∀ (f : Nat) (S : St), WF S → WF (turnF f S) ∧ SameC S (turnF f S) := by
  intro f
  induction f with
  | zero => intro S h; exact ⟨h, SameC.refl S⟩
  | succ f ih =>
    intro S h
    by_cases hh : S.tb.holder = S.told
    · rw [turnF_stop f hh]; exact ⟨h, SameC.refl S⟩
    · rw [turnF_go f hh]
      have h1 := ih _ (turnS_wf h)
      refine ⟨h1.1, SameC.trans ?_ h1.2⟩
      have := (tell_lv h.told' ⟨9, S.tb.holder, 0, strL []⟩).same
      exact ⟨this.1, this.2.1, this.2.2.1, this.2.2.2⟩
theorem turned_wf {S : St} (h : WF S) : WF (turned S) ∧ SameC S (turned S) := turnF_ok 18 S h
theorem fuel_start (S : St) : fuelOK 18 S := by
  unfold fuelOK
  have := nOpen_le S
  split <;> omega
end Go.Proofs.YtfkamoiamebngaaGreatDoor.Mod

/- broker: turned. -/
namespace Go.Proofs.YtfkamoiamebngaaGreatDoor.BroW
open Go.RowKit Go.Proofs.YtfkamoiamebngaaGreatDoorW.PrintWords Go.Proofs.YtfkamoiamebngaaGreatDoorW.PrintMore Go.Proofs.YtfkamoiamebngaaGreatDoor.Fr Go.Proofs.YtfkamoiamebngaaGreatDoor.ScrW Go.Proofs.YtfkamoiamebngaaGreatDoor.ScrP Go.Proofs.YtfkamoiamebngaaGreatDoor.Mod
set_option linter.unusedVariables false
set_option linter.unusedSimpArgs false

theorem least_nat {p : Nat → Prop} (h : ∃ n, p n) : ∃ n, p n ∧ ∀ m, p m → n ≤ m := by
  obtain ⟨n, hn⟩ := h
  induction n using Nat.strongRecOn with
  | ind n ih =>
    by_cases hx : ∃ m, m < n ∧ p m
    · obtain ⟨m, hm, hp⟩ := hx
      exact ih m hm hp
    · exact ⟨n, hn, fun m hp => by
        rcases Nat.lt_or_ge m n with h | h
        · exact absurd ⟨m, h, hp⟩ hx
        · exact h⟩
open Classical in
/-- a scope whose passes use up fuel -/
theorem wp_scope_fuel {P : Program} {a : Act} {w : World} {Q : Exit → Act → World → Prop} {c rest : Code} (l : Nat) (J : Nat → Act → World → Prop) (hf : findLabel c l = some (Code.skip.seq rest))
    (pass : ∀ f a w, J f a w → rest.wp P (Exit.jump l (fun a' w' => ∃ f', f' < f ∧ J f' a' w') Q) a w)
    (first : (∀ f a w, J f a w → rest.wp P (Exit.jump l (fun a w => ∃ f, J f a w) Q) a w) → c.wp P (Exit.jump l (fun a w => ∃ f, J f a w) Q) a w) : (Code.scope c).wp P Q a w := by
  let μ : Act → World → Nat := fun a w => if h : ∃ f, J f a w then Classical.choose (least_nat h) else 0
  have hμ : ∀ a w (h : ∃ f, J f a w), J (μ a w) a w ∧ ∀ f, J f a w → μ a w ≤ f := fun a w h => by
    have e : μ a w = Classical.choose (least_nat h) := dif_pos h
    rw [e]
    exact Classical.choose_spec (least_nat h)
  refine wp_scope_pass l (fun a w => ∃ f, J f a w) μ hf (fun a w h => ?_) (fun hp => first (fun f a w h => ?_))
  · obtain ⟨hj, _⟩ := hμ a w h
    refine wp_mono (pass _ a w hj) (fun e a' w' he => ?_)
    cases e with
    | goto l2 =>
      obtain ⟨e1, f', hlt, hj'⟩ := he
      have h2 : ∃ f, J f a' w' := ⟨f', hj'⟩
      exact ⟨e1, h2, Nat.lt_of_le_of_lt ((hμ a' w' h2).2 f' hj') hlt⟩
    | _ => exact he
  · refine wp_mono (hp a w ⟨f, h⟩) (fun e a' w' he => ?_)
    cases e with
    | goto l2 => exact he
    | _ => exact he

def FrTurn (x : Value) (a : Act) : Prop := ∃ u1 u2 u3 u4 u5 u6 u7 u8 u9 u10 u11 u12 u13 u14 u15 u16 u17 u18 u19 u20 u21 : Value, a = { tmps := #[x, u1, u2, u3, u4, u5, u6, u7, u8, u9, u10, u11, u12, u13, u14, u15, u16, u17, u18, u19, u20, u21], defers := [] }
def TurnJ (L : Lay) (S : St) (o : Own) (w : World) (f : Nat) (a : Act) (wr : World) : Prop :=
  ∃ o1 S1, FrTurn (.pointer (some ⟨L.bg, 0, none⟩)) a ∧ turned S = turnF f S1 ∧ fuelOK f S1 ∧ Rep wr L o1 S1 ∧ WF S1 ∧ Step (fun t => t ≠ .no) w o wr o1
theorem Rep.told {w : World} {L : Lay} {o : Own} {S : St} (h : Rep w L o S) (x : Int) : Rep (w.setCell ⟨L.bg, 16, none⟩ (.int .i64 x)) L o { S with told := x } ∧ Step (fun t => t ≠ .no) w o (w.setCell ⟨L.bg, 16, none⟩ (.int .i64 x)) o := by
  have hf : Fr (only L.bg) w (w.setCell ⟨L.bg, 16, none⟩ (.int .i64 x)) := (Fr.refl (only L.bg) w).set (fun _ => rfl) 16 _
  have st : Step (fun t => t = .brk) w o (w.setCell ⟨L.bg, 16, none⟩ (.int .i64 x)) o := ⟨fun _ _ => rfl, fun b hb => h.fresh b (Nat.le_trans hf.size hb), hf.mono (fun b _ hb => by rw [show b = L.bg from hb]; exact h.brk.2)⟩
  exact ⟨h.brk' st S.strikes S.ended S.code x ⟨blk_set h.brk.1 16 _, h.brk.2⟩, st.mono (fun t ht => by rw [ht]; simp)⟩

set_option maxRecDepth 100000 in
set_option maxHeartbeats 4000000 in
theorem turned_calls (w : World) (L : Lay) (o : Own) (S : St) (h : Rep w L o S) (hw : WF S) :
    Calls Tryz.prog 59 #[.pointer (some ⟨L.bg, 0, none⟩)] w (QB L o w (turned S) (.tuple #[])) := by
  have HR := Aside0.mk h
  have HW := Aside0.mk hw
  clear h hw
  go_enter Tryz.func59, Tryz.ntmps59
  refine wp_scope_fuel 0 (TurnJ L S o w) rfl ?pass ?first
  case first =>
    intro hp
    have h1 := hp 18 { tmps := #[.pointer (some ⟨L.bg, 0, none⟩), undef, undef, undef, undef, undef, undef, undef, undef, undef, undef, undef, undef, undef, undef, undef, undef, undef, undef, undef, undef, undef], defers := [] } w ⟨o, S, ⟨_, _, _, _, _, _, _, _, _, _, _, _, _, _, _, _, _, _, _, _, _, rfl⟩, rfl, fuel_start S, HR.out, HW.out, HR.out.step (Fr.refl _ _)⟩
    refine wp_seq ?_
    go_step3
    exact h1
  case pass =>
    rintro f a wr ⟨o1, S1, ⟨u1, u2, u3, u4, u5, u6, u7, u8, u9, u10, u11, u12, u13, u14, u15, u16, u17, u18, u19, u20, u21, rfl⟩, hE, hfu, hr, hwf, hst⟩
    have HE := Aside0.mk hE
    have HR1 := Aside0.mk hr
    have HW1 := Aside0.mk hwf
    have HST := Aside0.mk hst
    have HFU := Aside0.mk hfu
    obtain ⟨mb, qv, hT, _⟩ := hr.tab
    have HT := Aside0.mk hT
    have b10 : wr.cell? ⟨L.bg, 10, none⟩ = some (.pointer (some ⟨L.gt, 0, none⟩)) := (blk_cell hr.brk.1 10).trans rfl
    have b16 : wr.cell? ⟨L.bg, 16, none⟩ = some (.int .i64 S1.told) := (blk_cell hr.brk.1 16).trans rfl
    have bf := blk_frozen hr.brk.1 16
    have hbg := blk_lt hr.brk.1
    obtain ⟨f1, rfl⟩ : ∃ f1, f = f1 + 1 := ⟨f - 1, by unfold fuelOK at hfu; split at hfu <;> omega⟩
    clear hE hr hwf hst hfu hT
    by_cases hh : S1.tb.holder = S1.told
    · have HS : Aside0 (turned S = S1) := ⟨by rw [HE.out, turnF_stop f1 hh]⟩
      have t1 : (S1.tb.holder == S1.told) = true := beq_iff_eq.2 hh
      have t2 : (S1.tb.holder != S1.told) = false := by simp [bne, t1]
      clear hh
      go_wp2_with (go_at_call 34; refine (tholder_calls _ L.gt mb qv _ HT.out).mono ?_; rintro e1 w1 ⟨rfl, hw1⟩; have hw1 := hw1.symm; subst hw1)
      change bodyPost Tryz.prog Tryz.f59 _ Exit.normal _ _
      refine bodyPost_end (results_none rfl _ _ _) rfl ?_
      rw [HS.out]
      exact ⟨o1, rfl, HR1.out, HST.out⟩
    · have hs2 := fuel_turnS (f := f1) HW1.out hh HFU.out
      have HF2 := Aside0.mk hs2
      have HE2 : Aside0 (turned S = turnF f1 (turnS S1)) := ⟨by rw [HE.out, turnF_go f1 hh]⟩
      have t1 : (S1.tb.holder == S1.told) = false := beq_eq_false_iff_ne.2 hh
      have t2 : (S1.tb.holder != S1.told) = true := by simp [bne, t1]
      obtain ⟨hd, hhd⟩ : ∃ x, x = S1.tb.holder := ⟨_, rfl⟩
      have hto := HR1.out.told S1.tb.holder
      have hcl := btell_calls _ L o1 _ ⟨9, S1.tb.holder, 0, strL []⟩ hto.1 HW1.out.told' (show (0 : Nat) ≤ 1000000 by omega)
      have hem : (strL [] : ByteArray) = ⟨#[]⟩ := rfl
      rw [hem] at hcl
      have HTO := Aside0.mk hto.2
      have HCL := Aside0.mk hcl
      clear hh hs2 hto hcl hem
      go_wp2_with (first | (go_at_call 34; refine (tholder_calls _ L.gt mb qv _ HT.out).mono ?_; rintro e1 w1 ⟨rfl, hw1⟩; have hw1 := hw1.symm; subst hw1) | (go_at_call 67; refine HCL.out.mono ?_; rintro e2 w2 ⟨o2, rfl, hr2, hst2⟩; have HR2 := Aside0.mk hr2; have HST2 := Aside0.mk hst2; clear hr2 hst2))
      go_step3
      refine ⟨rfl, f1, by omega, o2, turnS S1, ⟨_, _, _, _, _, _, _, _, _, _, _, _, _, _, _, _, _, _, _, _, _, rfl⟩, HE2.out, HF2.out, HR2.out, turnS_wf HW1.out, (HST.out.trans HTO.out).trans HST2.out⟩
end Go.Proofs.YtfkamoiamebngaaGreatDoor.BroW

/- broker: word, named, role. -/
namespace Go.Proofs.YtfkamoiamebngaaGreatDoor.BroW
open Go.RowKit Go.Proofs.YtfkamoiamebngaaGreatDoorW.PrintWords Go.Proofs.YtfkamoiamebngaaGreatDoorW.PrintMore Go.Proofs.YtfkamoiamebngaaGreatDoor.Fr Go.Proofs.YtfkamoiamebngaaGreatDoor.ScrW Go.Proofs.YtfkamoiamebngaaGreatDoor.ScrP Go.Proofs.YtfkamoiamebngaaGreatDoor.Mod
set_option linter.unusedVariables false
set_option linter.unusedSimpArgs false

theorem run_idx3 (a b c : Value) (r : Int) (h : r = 0 ∨ r = 1 ∨ r = 2) (W : World) : (Instr.index 211 (.agg #[a, b, c]) (.int .i64 r)).run Tryz.prog W = .ok (if r = 0 then a else if r = 1 then b else c) W := by
  have hu := Tryz.underlying211
  rcases h with rfl | rfl | rfl <;> simp [Instr.index, run_underlying hu, asIntOf, Result.andThen, go_sem]
theorem run_idxs (s : ByteArray) (k : Nat) (hk : k < s.size) (W : World) : (Instr.index 9 (.string s) (.int .i64 (k : Int))).run Tryz.prog W = .ok (.int .u8 ((s.data.toList.getD k 0).toNat : Int)) W := by
  have hu := Tryz.underlying9
  have h1 : s[k]? = some (s.data.toList.getD k 0) := by
    rw [getElem?_pos s k hk, List.getD_eq_getElem?_getD, List.getElem?_eq_getElem (by simpa using hk)]
    rfl
  simp [Instr.index, run_underlying hu, asIntOf, Result.andThen, go_sem, h1]
set_option maxRecDepth 100000 in
theorem word_calls (r : Int) (h0 : 0 ≤ r) (h1 : r ≤ 2) (w : World) : Calls Tryz.prog 114 #[.int .i64 r] w fun e w' => e = .returned (.string (strL (wordR r))) ∧ w' = w := by
  have : r = 0 ∨ r = 1 ∨ r = 2 := by omega
  have k0 := fun W => run_idx3 (.string ⟨#[111, 98, 115, 101, 114, 118, 101, 114]⟩) (.string ⟨#[119, 114, 105, 116, 101, 114]⟩) (.string ⟨#[111, 119, 110, 101, 114]⟩) r this W
  rcases this with rfl | rfl | rfl
  all_goals
    simp only [if_true, if_false, Int.reduceEq] at k0
    go_enter Tryz.func114, Tryz.ntmps114
    go_wp2
    go_returns
    exact ⟨rfl, rfl⟩

set_option maxRecDepth 100000 in
set_option maxHeartbeats 4000000 in
theorem named_calls (s : ByteArray) (hs : s.size ≤ 1000000) (w : World) : Calls Tryz.prog 109 #[.string s] w fun e w' => e = .returned (.bool (namedL s.data.toList)) ∧ w' = w := by
  obtain ⟨l, hl⟩ : ∃ l, l = s.data.toList := ⟨_, rfl⟩
  have hll : l.length = s.size := by rw [hl]; simp
  have hix : ∀ k, k < s.size → ∀ W, (Instr.index 9 (.string s) (.int .i64 (k : Int))).run Tryz.prog W = .ok (.int .u8 ((l.getD k 0).toNat : Int)) W := fun k hk W => by rw [hl]; exact run_idxs s k hk W
  have HIX := Aside0.mk hix
  have HL := Aside0.mk hl
  rw [← hl]
  clear hl hix
  go_enter Tryz.func109, Tryz.ntmps109
  go_wp2
  go_loopw [6] (fun v6 wr => ∃ k : Nat, v6 = .int .i64 k ∧ k ≤ s.size ∧ wr = w ∧ Aside0 (∀ j, j < k → 32 < (l.getD j 0).toNat ∧ (l.getD j 0).toNat ≤ 126)) (fun v6 _ => s.size - (intOf v6).toNat)
  case atStart => exact ⟨0, rfl, Nat.zero_le _, rfl, ⟨fun j hj => by omega⟩⟩
  case round =>
    obtain ⟨k, rfl, hk, hwr, HJ⟩ := hrel
    have hwr := hwr.symm
    subst hwr
    by_cases hlt : k < s.size
    · have k0 := fun W => HIX.out k hlt W
      obtain ⟨c, hc⟩ : ∃ c : Nat, (l.getD k 0).toNat = c := ⟨_, rfl⟩
      have HC := Aside0.mk hc
      rw [hc] at k0
      have hkl : (k : Int) < (s.size : Int) := by omega
      have hwk : IntKind.i64.wrap ((k : Int) + 1) = (k : Int) + 1 := by rw [IntKind.wrap_i64]; omega
      clear hc
      by_cases hg : 32 < c ∧ c ≤ 126
      · have t1 : decide ((c : Int) ≤ 32) = false := decide_eq_false (by omega)
        have t2 : decide ((126 : Int) < (c : Int)) = false := decide_eq_false (by omega)
        have t3 : decide (c ≤ 32) = false := decide_eq_false (by omega)
        have t4 : decide (126 < c) = false := decide_eq_false (by omega)
        have HGG := Aside0.mk hg
        clear hg
        go_wp2
        case roundEnd =>
          refine ⟨⟨k + 1, by push_cast; rfl, hlt, trivial, ⟨fun j hj => ?_⟩⟩, by simp only [intOf]; omega⟩
          by_cases e : j = k
          · rw [e, HC.out]; exact HGG.out
          · exact HJ.out j (by omega)
      · have HN : Aside0 (namedL l = false) := ⟨by
          unfold namedL
          rw [Bool.and_eq_false_iff]
          refine .inr ?_
          rw [List.all_eq_false]
          refine ⟨l.getD k 0, ?_, ?_⟩
          · rw [List.getD_eq_getElem?_getD, List.getElem?_eq_getElem (by omega)]
            exact List.getElem_mem _
          · rw [HC.out]; simpa using hg⟩
        by_cases h32 : c ≤ 32
        · have t1 : decide ((c : Int) ≤ 32) = true := decide_eq_true (by omega)
          have t3 : decide (c ≤ 32) = true := decide_eq_true h32
          clear hg h32
          go_wp2
          go_returns
          rw [HN.out]
          exact ⟨rfl, rfl⟩
        · have t1 : decide ((c : Int) ≤ 32) = false := decide_eq_false (by omega)
          have t3 : decide (c ≤ 32) = false := decide_eq_false (by omega)
          have t2 : decide ((126 : Int) < (c : Int)) = true := decide_eq_true (by omega)
          have t4 : decide (126 < c) = true := decide_eq_true (by omega)
          clear hg h32
          go_wp2
          go_returns
          rw [HN.out]
          exact ⟨rfl, rfl⟩
    · have hkn : k = s.size := by omega
      have hall : (l.all fun c => decide (32 < c.toNat ∧ c.toNat ≤ 126)) = true := by
        rw [List.all_eq_true]
        intro c hc
        obtain ⟨j, hj, rfl⟩ := List.getElem_of_mem hc
        have := HJ.out j (by omega)
        rw [List.getD_eq_getElem?_getD, List.getElem?_eq_getElem hj] at this
        simpa using this
      have hem : s.toList.isEmpty = l.isEmpty := by rw [ByteArray.toList_eq, HL.out]
      have HN : Aside0 (namedL l = !l.isEmpty) := ⟨by unfold namedL; rw [hall, Bool.and_true]⟩
      obtain ⟨b, hb⟩ : ∃ b, l.isEmpty = b := ⟨_, rfl⟩
      rw [hb] at hem HN
      have hlt2 : ¬ (k : Int) < (s.size : Int) := by omega
      clear hkn hall hlt hb
      go_wp2
      go_returns
      rw [HN.out]
      exact ⟨by simp [hem], rfl⟩
theorem role_any (t : Tb) (l : List Int) : l.any (fun i => t.role i == 2) = true ↔ ∃ i ∈ l, t.role i = 2 := by simp
set_option maxRecDepth 100000 in
set_option maxHeartbeats 4000000 in
theorem role_calls (w : World) (L : Lay) (o : Own) (S : St) (b : Bool) (h : Rep w L o S) (hw : WF S) :
    Calls Tryz.prog 111 #[.pointer (some ⟨L.bg, 0, none⟩), .bool b] w fun e w' => e = .returned (.int .i64 (roleFor S b)) ∧ Fr nope w w' := by
  have b10 : w.cell? ⟨L.bg, 10, none⟩ = some (.pointer (some ⟨L.gt, 0, none⟩)) := (blk_cell h.brk.1 10).trans rfl
  have HB := Aside0.mk h.brk.1
  have hbg := blk_lt h.brk.1
  obtain ⟨mb, qv, hT, _⟩ := h.tab
  have HT := Aside0.mk hT
  have HW := Aside0.mk hw
  cases b with
  | false =>
    have hr : roleFor S false = 0 := rfl
    rw [hr]
    clear hr h hw hT
    go_enter Tryz.func111, Tryz.ntmps111
    go_wp2
    go_returns
    exact ⟨rfl, Fr.refl _ _⟩
  | true =>
    obtain ⟨us, hus⟩ : ∃ l, l = S.tb.users := ⟨_, rfl⟩
    have hr : roleFor S true = if us.any (fun i => S.tb.role i == 2) = true then 1 else 2 := by rw [hus]; rfl
    have HRR := Aside0.mk hr
    have HUS := Aside0.mk hus
    have hul : us.length ≤ 16 := by rw [hus]; exact List.length_filter_le _ _
    have hwf : ∀ i ∈ us, (Lit.int .i64 i).wf = true := fun i hi => by
      rw [hus] at hi
      have := (ids16_mem i).1 (List.mem_filter.1 hi).1
      exact mpWf this.1 this.2
    have HWF := Aside0.mk hwf
    clear hr hus h hw hT hwf
    go_enter Tryz.func111, Tryz.ntmps111
    go_wp2_with (go_at_call 35; refine (tusers_calls _ L.gt mb qv _ HT.out).mono ?_; rintro e1 w1 ⟨v1, rfl, ho1, hf1⟩; rw [← HUS.out] at ho1; have hv := own_slice ho1; obtain ⟨A1, c1, rfl⟩ := hv; have HO1 := Aside0.mk ho1; have HF1 := Aside0.mk hf1; have hB1 := hf1.blk HB.out (fun h => h); have c10 : w1.cell? ⟨L.bg, 10, none⟩ = some (.pointer (some ⟨L.gt, 0, none⟩)) := (blk_cell hB1 10).trans rfl; have hbg1 := blk_lt hB1; have HT1 := Aside0.mk (HT.out.fr hf1 (fun h => h) (fun h => h) (fun _ _ h => h)); clear ho1 hf1 hB1)
    clear b10
    go_loopw [17] (fun v17 wr => ∃ k : Nat, v17 = .int .i64 k ∧ k ≤ us.length ∧ wr = w1 ∧ Aside0 (∀ j, j < k → S.tb.role (us.getD j 0) ≠ 2)) (fun v17 _ => us.length - (intOf v17).toNat)
    case atStart => exact ⟨0, rfl, Nat.zero_le _, rfl, ⟨fun j hj => by omega⟩⟩
    case round =>
      obtain ⟨k, rfl, hk, hwr, HJ⟩ := hrel
      have hwr := hwr.symm
      subst hwr
      by_cases hlt : k < us.length
      · have hr := own_readsInt HO1.out
        obtain ⟨aq, e2, hc⟩ := hr.2.2 (by omega)
        cases e2
        obtain ⟨id, hid⟩ : ∃ id, us.getD k 0 = id := ⟨_, rfl⟩
        have hcell := hc k hlt
        rw [hid] at hcell
        have hmem : id ∈ us := by
          rw [← hid, List.getD_eq_getElem?_getD, List.getElem?_eq_getElem hlt]
          exact List.getElem_mem hlt
        have hidw := HWF.out id hmem
        have HID := Aside0.mk hid
        have HME := Aside0.mk hmem
        have hkl : (k : Int) < (us.length : Int) := by omega
        have hk0 : (0 : Int) ≤ (k : Int) := by omega
        have hwk : IntKind.i64.wrap ((k : Int) + 1) = (k : Int) + 1 := by rw [IntKind.wrap_i64]; omega
        obtain ⟨r, hr2⟩ : ∃ r, S.tb.role id = r := ⟨_, rfl⟩
        have HR2 := Aside0.mk hr2
        clear hc hr hid hmem hr2
        by_cases h2 : r = 2
        · subst h2
          go_wp2_with (go_at_call 44; refine (trole_calls _ id L.gt mb qv _ HT1.out hidw).mono ?_; rintro e2 w2 ⟨rfl, hw2⟩; have hw2 := hw2.symm; subst hw2; rw [HR2.out])
          go_returns
          have he : roleFor S true = 1 := by rw [HRR.out, if_pos ((role_any _ _).2 ⟨id, HME.out, HR2.out⟩)]
          rw [he]
          exact ⟨rfl, HF1.out⟩
        · have t2 : (r == 2) = false := beq_eq_false_iff_ne.2 h2
          go_wp2_with (go_at_call 44; refine (trole_calls _ id L.gt mb qv _ HT1.out hidw).mono ?_; rintro e2 w2 ⟨rfl, hw2⟩; have hw2 := hw2.symm; subst hw2; rw [HR2.out])
          refine ⟨⟨k + 1, by push_cast; rfl, hlt, trivial, ⟨fun j hj => ?_⟩⟩, by simp only [intOf]; omega⟩
          by_cases e : j = k
          · rw [e, HID.out, HR2.out]; exact h2
          · exact HJ.out j (by omega)
      · have hkn : k = us.length := by omega
        have he : roleFor S true = 2 := by
          rw [HRR.out, if_neg]
          intro hx
          obtain ⟨i, hi, hr⟩ := (role_any _ _).1 hx
          obtain ⟨j, hj, rfl⟩ := List.getElem_of_mem hi
          refine HJ.out j (by omega) ?_
          rw [List.getD_eq_getElem?_getD, List.getElem?_eq_getElem hj]
          exact hr
        have HE := Aside0.mk he
        have hlt2 : ¬ (k : Int) < (us.length : Int) := by omega
        clear hkn hlt he
        go_wp2
        go_returns
        rw [HE.out]
        exact ⟨rfl, HF1.out⟩
end Go.Proofs.YtfkamoiamebngaaGreatDoor.BroW

/- broker: own, user. -/
namespace Go.Proofs.YtfkamoiamebngaaGreatDoor.BroW
open Go.RowKit Go.Proofs.YtfkamoiamebngaaGreatDoorW.PrintWords Go.Proofs.YtfkamoiamebngaaGreatDoorW.PrintMore Go.Proofs.YtfkamoiamebngaaGreatDoor.Fr Go.Proofs.YtfkamoiamebngaaGreatDoor.ScrW Go.Proofs.YtfkamoiamebngaaGreatDoor.ScrP Go.Proofs.YtfkamoiamebngaaGreatDoor.Mod
set_option linter.unusedVariables false
set_option linter.unusedSimpArgs false

set_option maxRecDepth 100000 in
theorem own_calls (k : Int) (w : World) : Calls Tryz.prog 143 #[.int .i64 k] w fun e w' => e = .returned (.bool (ownK k)) ∧ w' = w := by
  obtain ⟨b, hb⟩ : ∃ b, b = ownK k := ⟨_, rfl⟩
  rw [← hb]
  have HB := Aside0.mk hb
  clear hb
  go_enter Tryz.func143, Tryz.ntmps143
  go_wp2
  all_goals
    go_returns
    refine ⟨?_, rfl⟩
    show Ending.returned (Value.bool _) = Ending.returned (Value.bool _)
    congr 2
    rw [HB.out, Bool.eq_iff_iff]
    simp [ownK]
    first | omega | (simp_all; omega) | simp_all

theorem Rep.lookN {w : World} {L : Lay} {o : Own} {S : St} (h : Rep w L o S) {i : Int} (hi : (Lit.int .i64 i).wf = true) (hg : L.cp i = none) :
    (Instr.lookup 85 (.map (some L.mc)) (.int .i64 i) false).run Tryz.prog w = .ok (.pointer none) w := by
  have := (h.map.1.look Tryz.underlying85 zero112 (zd := .lit (.int .u64 0)) rfl hi).1
  rw [this, hg]
  rfl
/-- whom a number names -/
def userV (L : Lay) (S : St) (n : Int) : Value := if userM S n = true then .pointer ((L.cp n).map fun g => ⟨g, 0, none⟩) else .pointer none
set_option maxRecDepth 100000 in
set_option maxHeartbeats 2000000 in
theorem user_calls (w : World) (L : Lay) (o : Own) (S : St) (n : Int) (h : Rep w L o S) (hi : (Lit.int .i64 n).wf = true) :
    Calls Tryz.prog 166 #[.pointer (some ⟨L.bg, 0, none⟩), .int .i64 n] w fun e w' => e = .returned (userV L S n) ∧ w' = w := by
  have b12 : w.cell? ⟨L.bg, 12, none⟩ = some (.map (some L.mc)) := (blk_cell h.brk.1 12).trans rfl
  have hbg := blk_lt h.brk.1
  by_cases h16 : 16 < n
  · have hu : userV L S n = .pointer none := by
      unfold userV userM
      rw [if_neg (by simp; omega)]
    rw [hu]
    have t1 : decide ((16 : Int) < n) = true := decide_eq_true h16
    clear h hu h16
    go_enter Tryz.func166, Tryz.ntmps166
    go_wp2
    go_returns
    exact ⟨rfl, rfl⟩
  · have t1 : decide ((16 : Int) < n) = false := decide_eq_false h16
    have hd := h.dom n
    cases hg : L.cp n with
    | none =>
      have hl := h.lookN hi hg
      have hu : userV L S n = .pointer none := by
        unfold userV userM isOpen
        rw [hg] at hd
        have : S.cn n = none := by cases hc : S.cn n with
          | none => rfl
          | some c => rw [hc] at hd; cases hd
        rw [this]
        simp
      rw [hu]
      clear h hu h16 hd hg
      go_enter Tryz.func166, Tryz.ntmps166
      go_wp2
      go_returns
      exact ⟨rfl, rfl⟩
    | some g =>
      have hl := h.look hg
      obtain ⟨c, hc, fg, lg, og, vv, p0, _⟩ := h.cnOf hg
      have hcc : w.cell? ⟨g, 1, none⟩ = some (.int .i64 c.st) := (blk_cell p0.1 1).trans rfl
      have hgg := blk_lt p0.1
      by_cases hs : c.st = 1
      · have hu : userV L S n = .pointer (some ⟨g, 0, none⟩) := by
          unfold userV userM isOpen
          rw [hc, if_pos (by simp [hs]; omega), hg]
          rfl
        rw [hu]
        rw [hs] at hcc
        clear h hu h16 hd hg hc p0 hs
        go_enter Tryz.func166, Tryz.ntmps166
        go_wp2
        go_returns
        exact ⟨rfl, rfl⟩
      · have hu : userV L S n = .pointer none := by
          unfold userV userM isOpen
          rw [hc, if_neg (by simp [hs])]
        rw [hu]
        have t2 : (c.st == 1) = false := beq_eq_false_iff_ne.2 hs
        clear h hu h16 hd hg hc p0 hs
        go_enter Tryz.func166, Tryz.ntmps166
        go_wp2
        go_returns
        exact ⟨rfl, rfl⟩
end Go.Proofs.YtfkamoiamebngaaGreatDoor.BroW

/- broker: list. -/
namespace Go.Proofs.YtfkamoiamebngaaGreatDoor.BroW
open Go.RowKit Go.Proofs.YtfkamoiamebngaaGreatDoorW.PrintWords Go.Proofs.YtfkamoiamebngaaGreatDoorW.PrintMore Go.Proofs.YtfkamoiamebngaaGreatDoor.Fr Go.Proofs.YtfkamoiamebngaaGreatDoor.ScrW Go.Proofs.YtfkamoiamebngaaGreatDoor.ScrP Go.Proofs.YtfkamoiamebngaaGreatDoor.Mod
set_option linter.unusedVariables false
set_option linter.unusedSimpArgs false

/-- one line of a list is sent -/
def listStep (id : Int) (S : St) (u : Int) : St := send S id (note (listLine S u))
theorem role_bd {S : St} (h : WF S) (u : Int) : 0 ≤ S.tb.role u ∧ S.tb.role u ≤ 2 := by
  unfold Tb.role
  cases hr : S.tb.roles u with
  | none => simp
  | some r => have := h.tb.role u r hr; simp; omega
theorem strL_data (s : ByteArray) : strL s.data.toList = s := by
  apply ByteArray.ext
  simp [strL]
theorem word_len (r : Int) : (wordR r).length ≤ 8 := by unfold wordR; split; decide; split; decide; decide
set_option maxRecDepth 100000 in
set_option maxHeartbeats 4000000 in
theorem list_calls (w : World) (L : Lay) (o : Own) (S : St) (i : Int) (g : Nat) (h : Rep w L o S) (hw : WF S) (hg : L.cp i = some g) :
    Calls Tryz.prog 146 #[.pointer (some ⟨L.bg, 0, none⟩), .pointer (some ⟨g, 0, none⟩)] w (QB L o w (listM S i) (.tuple #[])) := by
  have b10 : w.cell? ⟨L.bg, 10, none⟩ = some (.pointer (some ⟨L.gt, 0, none⟩)) := (blk_cell h.brk.1 10).trans rfl
  have hbg := blk_lt h.brk.1
  obtain ⟨mb, qv, hT, _⟩ := h.tab
  have HT := Aside0.mk hT
  have HR := Aside0.mk h
  have HW := Aside0.mk hw
  have HG := Aside0.mk hg
  obtain ⟨us, hus⟩ : ∃ l, l = S.tb.users := ⟨_, rfl⟩
  have HUS := Aside0.mk hus
  have hul : us.length ≤ 16 := by rw [hus]; exact List.length_filter_le _ _
  have hmem : ∀ u ∈ us, 1 ≤ u ∧ u ≤ 16 ∧ ∃ g, L.cp u = some g := fun u hu => by
    rw [hus] at hu
    have hu2 := List.mem_filter.1 hu
    have h2 := role_ids hw hu2.2
    obtain ⟨r, hr⟩ := Option.isSome_iff_exists.1 hu2.2
    have ho := (hw.tb.role u r hr).2.2
    unfold isOpen at ho
    cases hc : S.cn u with
    | none => rw [hc] at ho; cases ho
    | some c =>
      have := h.dom u
      rw [hc] at this
      exact ⟨h2.1, h2.2, Option.isSome_iff_exists.1 this.symm⟩
  have HM := Aside0.mk hmem
  have hlm : listM S i = us.foldl (listStep i) S := by rw [hus]; rfl
  rw [hlm]
  clear h hw hg hT hus hmem hlm
  go_enter Tryz.func146, Tryz.ntmps146
  go_wp2_with (go_at_call 35; refine (tusers_calls _ L.gt mb qv _ HT.out).mono ?_; rintro e1 w1 ⟨v1, rfl, ho1, hf1⟩; rw [← HUS.out] at ho1; have hv := own_slice ho1; obtain ⟨A1, c1, rfl⟩ := hv; have HO1 := Aside0.mk ho1; have HF1 := Aside0.mk hf1; clear ho1 hf1)
  clear b10
  go_loopw [15] (fun v15 wr => ∃ (k : Nat) (o1 : Own) (S1 : St), v15 = .int .i64 k ∧ k ≤ us.length ∧ Aside0 (S1 = (us.take k).foldl (listStep i) S) ∧ Aside0 (Rep wr L o1 S1) ∧ Aside0 (WF S1) ∧ Aside0 (Step (fun t => t ≠ .no) w o wr o1) ∧
      Aside0 (wr.ownsRow w.heap.size 3 1 (.slice A1 us.length c1) us.length (nums .i64 us)) ∧ Aside0 (∀ b, (Value.slice A1 us.length c1).ownBlock = some b → o1 b = .no)) (fun v15 _ => us.length - (intOf v15).toNat)
  case atStart => exact ⟨0, o, S, rfl, Nat.zero_le _, ⟨rfl⟩, ⟨HR.out.quiet HF1.out⟩, HW, ⟨HR.out.step HF1.out⟩, HO1, ⟨fun b hb => HR.out.fresh b (own_old HO1.out hb).1⟩⟩
  case round =>
    obtain ⟨k, o1, S1, rfl, hk, HS, HR1, HW1, HST, HO, HB⟩ := hrel
    by_cases hlt : k < us.length
    · have hr := own_readsInt HO.out
      obtain ⟨aq, e2, hc⟩ := hr.2.2 (by omega)
      cases e2
      obtain ⟨u, hu⟩ : ∃ u, us.getD k 0 = u := ⟨_, rfl⟩
      have hcell := hc k hlt
      rw [hu] at hcell
      have hmu : u ∈ us := by
        rw [← hu, List.getD_eq_getElem?_getD, List.getElem?_eq_getElem hlt]
        exact List.getElem_mem hlt
      obtain ⟨hu1, hu2, gu, hgu⟩ := HM.out u hmu
      have HN : Aside0 ((us.take (k + 1)).foldl (listStep i) S = listStep i S1 u) := ⟨by
        rw [List.take_add_one, List.getElem?_eq_getElem hlt, HS.out]
        have : us[k] = u := by rw [← hu, List.getD_eq_getElem?_getD, List.getElem?_eq_getElem hlt]; rfl
        simp [this]⟩
      obtain ⟨n, rfl⟩ : ∃ n : Nat, u = (n : Int) := ⟨u.toNat, by omega⟩
      have huw := mpWf hu1 hu2
      have c10 : wr.cell? ⟨L.bg, 10, none⟩ = some (.pointer (some ⟨L.gt, 0, none⟩)) := (blk_cell HR1.out.brk.1 10).trans rfl
      have c12 : wr.cell? ⟨L.bg, 12, none⟩ = some (.map (some L.mc)) := (blk_cell HR1.out.brk.1 12).trans rfl
      have hbg1 := blk_lt HR1.out.brk.1
      obtain ⟨mb1, qv1, hT1, _⟩ := HR1.out.tab
      have HT1 := Aside0.mk hT1
      obtain ⟨c, hcn, fg, lg, og, vv, p0, _⟩ := HR1.out.cnOf hgu
      have hnm : wr.cell? ⟨gu, 2, none⟩ = some (.string c.name) := (blk_cell p0.1 2).trans rfl
      have hgul := blk_lt p0.1
      have hlook : ∀ q, (Instr.lookup 85 (.map (some L.mc)) (.int .i64 (n : Int)) false).run Tryz.prog (wr.drewN q) = .ok (.pointer (some ⟨gu, 0, none⟩)) (wr.drewN q) := fun q => (HR1.out.quiet ((Fr.refl nope wr).drewN q)).look hgu
      have hns := (HW1.out.con _ c hcn).2.2.name
      obtain ⟨r, hr2⟩ : ∃ r, S1.tb.role (n : Int) = r := ⟨_, rfl⟩
      have hrb := role_bd HW1.out (n : Int)
      rw [hr2] at hrb
      have HRL := Aside0.mk hr2
      have HCN := Aside0.mk hcn
      have hkl : (k : Int) < (us.length : Int) := by omega
      have hk0 : (0 : Int) ≤ (k : Int) := by omega
      have hwk : IntKind.i64.wrap ((k : Int) + 1) = (k : Int) + 1 := by rw [IntKind.wrap_i64]; omega
      have hd1 : (strL (dig (n : Int))).size ≤ 2 := dig_len _
      have hd2 : (strL (wordR r)).size ≤ 8 := word_len r
      have z1 : ¬ 9223372036854775807 < (strL (dig (n : Int))).size + 1 := by omega
      have z2 : ¬ 9223372036854775807 < (strL (dig (n : Int))).size + 1 + (strL (wordR r)).size := by omega
      have z3 : ¬ 9223372036854775807 < (strL (dig (n : Int))).size + 1 + (strL (wordR r)).size + 1 := by omega
      have z4 : ¬ 9223372036854775807 < (strL (dig (n : Int))).size + 1 + (strL (wordR r)).size + 1 + c.name.size := by omega
      have z5 : ¬ 9223372036854775807 < (strL (dig (n : Int))).size + 1 + (strL (wordR r)).size + 1 + c.name.size + 2 := by omega
      clear hc hr hu hmu hT1 p0 hcn hr2
      go_wp2_with (go_at_call 44; refine (trole_calls _ (n : Int) L.gt mb1 qv1 _ HT1.out huw).mono ?_; rintro e2 w2 ⟨rfl, hw2⟩; have hw2 := hw2.symm; subst hw2; rw [HRL.out])
      go_quiet (first | (go_at_call 91; exact Calls.quiet_of_same (itoa_calls n (by omega) _)) | (go_at_call 114; exact Calls.quiet_of_same (word_calls r hrb.1 hrb.2 _)))
      obtain ⟨W2, hW2⟩ : ∃ W2, W2 = wr.drewN nq := ⟨_, rfl⟩
      rw [← hW2]
      have hf2 : Fr nope wr W2 := by rw [hW2]; exact (Fr.refl nope wr).drewN nq
      have HR2 := Aside0.mk (HR1.out.quiet hf2)
      have HT2 := Aside0.mk (HT1.out.fr hf2 (fun h => h) (fun h => h) (fun _ _ h => h))
      have HF2 := Aside0.mk hf2
      have d10 : W2.cell? ⟨L.bg, 10, none⟩ = some (.pointer (some ⟨L.gt, 0, none⟩)) := (blk_cell HR2.out.brk.1 10).trans rfl
      have hbg2 := blk_lt HR2.out.brk.1
      have hno : nameOf S1 (n : Int) = c.name.data.toList := by unfold nameOf; rw [HCN.out]
      clear hW2 hf2 hlook c10 c12 hnm
      by_cases hh : (n : Int) = S1.tb.holder
      · have t1 : ((n : Int) == S1.tb.holder) = true := beq_iff_eq.2 hh
        have hstr : strL (listLine S1 (n : Int)) = strL (dig (n : Int)) ++ ⟨#[32]⟩ ++ strL (wordR r) ++ ⟨#[32]⟩ ++ c.name ++ ⟨#[32, 42]⟩ := by
          unfold listLine
          rw [if_pos hh, hno, HRL.out]
          simp only [strL_append, strL_data]
          rfl
        have HH := Aside0.mk hh
        have hcall := bsend_calls W2 L o1 S1 i g (note (listLine S1 (n : Int))) HR2.out HW1.out HG.out (by show (strL (listLine S1 (n : Int))).size ≤ 1000000; rw [hstr]; simp only [ByteArray.size_append]; have e1 : (⟨#[32]⟩ : ByteArray).size = 1 := rfl; have e2 : (⟨#[32, 42]⟩ : ByteArray).size = 2 := rfl; omega)
        unfold note at hcall
        simp only at hcall
        rw [hstr] at hcall
        have HCALL := Aside0.mk hcall
        have hok := (send_wf HW1.out i (note (listLine S1 (n : Int)))).1
        have HOK := Aside0.mk hok
        have HSTR := Aside0.mk hstr
        clear hcall hok hstr hh
        go_wp2_with (first | (go_at_call 34; refine (tholder_calls _ L.gt mb1 qv1 _ HT2.out).mono ?_; rintro e3 w3 ⟨rfl, hw3⟩; have hw3 := hw3.symm; subst hw3) | (go_at_call 82; refine HCALL.out.mono ?_; rintro e4 w4 ⟨o4, rfl, hr4, hst4⟩; have HR4 := Aside0.mk hr4; have HST4 := Aside0.mk hst4; clear hr4 hst4))
        have HRF : Aside0 (Rep w4 L o4 (listStep i S1 (n : Int))) := ⟨by have h9 := HR4.out; rw [← HSTR.out] at h9; exact h9⟩
        have hrow2 := HF2.out.own HO.out (fun _ _ h => h)
        exact ⟨⟨k + 1, o4, listStep i S1 (n : Int), by push_cast; rfl, hlt, ⟨HN.out.symm⟩, HRF, HOK, ⟨(HST.out.trans (HR1.out.step HF2.out)).trans HST4.out⟩, ⟨HST4.out.fr.own hrow2 (fun b hb hs => hs (HB.out b hb))⟩, ⟨fun b hb => (HST4.out.old b (own_old hrow2 hb).2).trans (HB.out b hb)⟩⟩, by simp only [intOf]; omega⟩
      · have t1 : ((n : Int) == S1.tb.holder) = false := beq_eq_false_iff_ne.2 hh
        have hstr : strL (listLine S1 (n : Int)) = strL (dig (n : Int)) ++ ⟨#[32]⟩ ++ strL (wordR r) ++ ⟨#[32]⟩ ++ c.name := by
          unfold listLine
          rw [if_neg hh, hno, HRL.out]
          simp only [strL_append, strL_data, List.append_nil]
          rfl
        have HH := Aside0.mk hh
        have hcall := bsend_calls W2 L o1 S1 i g (note (listLine S1 (n : Int))) HR2.out HW1.out HG.out (by show (strL (listLine S1 (n : Int))).size ≤ 1000000; rw [hstr]; simp only [ByteArray.size_append]; have e1 : (⟨#[32]⟩ : ByteArray).size = 1 := rfl; omega)
        unfold note at hcall
        simp only at hcall
        rw [hstr] at hcall
        have HCALL := Aside0.mk hcall
        have hok := (send_wf HW1.out i (note (listLine S1 (n : Int)))).1
        have HOK := Aside0.mk hok
        have HSTR := Aside0.mk hstr
        clear hcall hok hstr hh
        go_wp2_with (first | (go_at_call 34; refine (tholder_calls _ L.gt mb1 qv1 _ HT2.out).mono ?_; rintro e3 w3 ⟨rfl, hw3⟩; have hw3 := hw3.symm; subst hw3) | (go_at_call 82; refine HCALL.out.mono ?_; rintro e4 w4 ⟨o4, rfl, hr4, hst4⟩; have HR4 := Aside0.mk hr4; have HST4 := Aside0.mk hst4; clear hr4 hst4))
        have HRF : Aside0 (Rep w4 L o4 (listStep i S1 (n : Int))) := ⟨by have h9 := HR4.out; rw [← HSTR.out] at h9; exact h9⟩
        have hrow2 := HF2.out.own HO.out (fun _ _ h => h)
        exact ⟨⟨k + 1, o4, listStep i S1 (n : Int), by push_cast; rfl, hlt, ⟨HN.out.symm⟩, HRF, HOK, ⟨(HST.out.trans (HR1.out.step HF2.out)).trans HST4.out⟩, ⟨HST4.out.fr.own hrow2 (fun b hb hs => hs (HB.out b hb))⟩, ⟨fun b hb => (HST4.out.old b (own_old hrow2 hb).2).trans (HB.out b hb)⟩⟩, by simp only [intOf]; omega⟩
    · have hkn : k = us.length := by omega
      have HS2 : Aside0 (us.foldl (listStep i) S = S1) := ⟨by rw [HS.out, hkn, List.take_length]⟩
      have hlt2 : ¬ (k : Int) < (us.length : Int) := by omega
      clear hkn hlt
      go_wp2
      go_end0
      rw [HS2.out]
      exact ⟨o1, rfl, HR1.out, HST.out⟩
end Go.Proofs.YtfkamoiamebngaaGreatDoor.BroW

/- broker: toOther. -/
namespace Go.Proofs.YtfkamoiamebngaaGreatDoor.BroW
open Go.RowKit Go.Proofs.YtfkamoiamebngaaGreatDoorW.PrintWords Go.Proofs.YtfkamoiamebngaaGreatDoorW.PrintMore Go.Proofs.YtfkamoiamebngaaGreatDoor.Fr Go.Proofs.YtfkamoiamebngaaGreatDoor.ScrW Go.Proofs.YtfkamoiamebngaaGreatDoor.ScrP Go.Proofs.YtfkamoiamebngaaGreatDoor.Mod
set_option linter.unusedVariables false
set_option linter.unusedSimpArgs false

/-- what a call on the table leaves of the broker -/
theorem Rep.tabQ {w w1 w2 : World} {L : Lay} {o : Own} {S : St} (h : Rep w L o S) {mb : Nat} {qv : Value} (hT : IsTb w1 L.gt mb qv S.tb) (hf : Fr nope w w1) (hm : o mb = .tab) (hq : ∀ b, qv.ownBlock = some b → o b = .tab) {t : Tb} {r : Value} {e : Ending} (q : QTb t r L.gt mb qv w1 e w2) :
    e = .returned r ∧ ∃ o', Rep w2 L o' { S with tb := t } ∧ Step (fun t => t ≠ .no) w o w2 o' := by
  obtain ⟨qv2, he, hT2, hn2, hf2⟩ := q
  obtain ⟨o', hr, hs⟩ := (h.quiet hf).tabq hT hm hq hT2 hn2 hf2
  exact ⟨he, o', hr, (h.step hf).trans hs⟩
/-- the cells that a call on the table with a connection's number reads -/
theorem Rep.tabK {w : World} {L : Lay} {o : Own} {S : St} (h : Rep w L o S) {i : Int} {g : Nat} (hg : L.cp i = some g) {mb : Nat} (hgt : o L.gt = .tab) (hmb : o mb = .tab) : ∀ w', Fr (tbS L.gt mb) w w' → w'.cell? ⟨L.bg, 10, none⟩ = some (.pointer (some ⟨L.gt, 0, none⟩)) ∧ w'.cell? ⟨g, 0, none⟩ = some (.int .i64 i) := by
  intro w' hF
  obtain ⟨c, hc, fg, lg, og, vv, p0, _⟩ := h.cnOf hg
  have hB := hF.blk h.brk.1 (fun hs => by
    have h0 := h.brk.2
    rcases hs with hs | hs
    · rw [hs, hgt] at h0; cases h0
    · rw [hs, hmb] at h0; cases h0)
  have hM := hF.blk p0.1 (fun hs => by
    have h0 := p0.2
    rcases hs with hs | hs
    · rw [hs, hgt] at h0; cases h0
    · rw [hs, hmb] at h0; cases h0)
  exact ⟨(blk_cell hB 10).trans rfl, (blk_cell hM 0).trans rfl⟩

set_option maxRecDepth 100000 in
set_option maxHeartbeats 4000000 in
theorem toOther_calls (w : World) (L : Lay) (o : Own) (S : St) (k n : Int) (h : Rep w L o S) (hw : WF S) (hi : (Lit.int .i64 n).wf = true) :
    Calls Tryz.prog 149 #[.pointer (some ⟨L.bg, 0, none⟩), .agg #[.int .i64 k, .int .i64 n]] w (QB L o w (toOther S k n).1 (.bool (toOther S k n).2)) := by
  obtain ⟨W0, hW0⟩ : ∃ W0, W0 = w.alloc (.cells #[.int .i64 k, .int .i64 n] 195) := ⟨_, rfl⟩
  have hf0 : Fr nope w W0 := by rw [hW0]; exact (Fr.refl nope w).alloc _
  have h0 := h.quiet hf0
  have HST0 := Aside0.mk (h.step hf0)
  have HR0 := Aside0.mk h0
  have HW := Aside0.mk hw
  have HU := Aside0.mk (user_calls W0 L o S n h0 hi)
  have hO : W0.heap[w.heap.size]? = some (.cells #[.int .i64 k, .int .i64 n] 195 (0, 0)) := by rw [hW0]; exact blk_new w _
  have o0 : W0.cell? ⟨w.heap.size, 0, none⟩ = some (.int .i64 k) := (blk_cell hO 0).trans rfl
  have o1 : W0.cell? ⟨w.heap.size, 1, none⟩ = some (.int .i64 n) := (blk_cell hO 1).trans rfl
  have hol := blk_lt hO
  have HW0 := Aside0.mk hW0
  obtain ⟨p, hp⟩ : ∃ p, p = toOther S k n := ⟨_, rfl⟩
  rw [← hp]
  unfold toOther at hp
  clear h h0 hf0 hO hW0 hw
  by_cases hu : userM S n = true
  case neg =>
    rw [if_neg hu] at hp
    have hv : userV L S n = .pointer none := by unfold userV; rw [if_neg hu]
    have HP := Aside0.mk hp
    rw [hv] at HU
    clear hp hu hv
    go_enter Tryz.func149, Tryz.ntmps149
    go_wp2_with (go_at_call 166; rw [← HW0.out]; refine HU.out.mono ?_; rintro e1 w1 ⟨rfl, hw1⟩; have hw1 := hw1.symm; subst hw1)
    go_returns
    rw [HP.out]
    exact ⟨o, rfl, HR0.out, HST0.out⟩
  case pos =>
    rw [if_pos hu] at hp
    have hex : ∃ g, L.cp n = some g := by
      unfold userM isOpen at hu
      have := HR0.out.dom n
      cases hc : S.cn n with
      | none => rw [hc] at hu; simp at hu
      | some c => rw [hc] at this; exact Option.isSome_iff_exists.1 this.symm
    obtain ⟨g, hg⟩ := hex
    have hv : userV L S n = .pointer (some ⟨g, 0, none⟩) := by unfold userV; rw [if_pos hu, hg]; rfl
    rw [hv] at HU
    have HG := Aside0.mk hg
    have hd := HR0.out.map.1.1 n (by simp [hg])
    obtain ⟨mb, qv, hT, hgt, hmb, hqv⟩ := HR0.out.tab
    have HT := Aside0.mk hT
    have HTG := Aside0.mk (And.intro hmb hqv)
    have HK := Aside0.mk (HR0.out.tabK hg hgt hmb)
    clear hu hv hg hT hgt hmb hqv
    by_cases h6 : k = 6
    · rw [if_pos h6] at hp
      have HP := Aside0.mk hp
      rw [h6] at o0
      clear hp h6
      go_enter Tryz.func149, Tryz.ntmps149
      go_wp2_with (go_at_call 166; rw [← HW0.out]; refine HU.out.mono ?_; rintro e1 w1 ⟨rfl, hw1⟩; have hw1 := hw1.symm; subst hw1)
      go_region_held3 (fun w' => w'.cell? ⟨L.bg, 10, none⟩ = some (.pointer (some ⟨L.gt, 0, none⟩)) ∧ w'.cell? ⟨g, 0, none⟩ = some (.int .i64 n))
        (first | exact HK.out _ (Fr.refl _ W0).drew | exact HK.out _ HF2.out | fail)
        (first | (go_at_call 167; have hq := tgive_calls _ n L.gt mb qv W0.drew (HT.out.fr (Fr.refl nope W0).drew (fun h => h) (fun h => h) (fun _ _ h => h)) hi; (refine hq.mono ?_); intro e2 w2 hq2; have hq3 := HR0.out.tabQ (HT.out.fr (Fr.refl nope W0).drew (fun h => h) (fun h => h) (fun _ _ h => h)) (Fr.refl nope W0).drew HTG.out.1 HTG.out.2 hq2; obtain ⟨he2, o2, hr2, hst2⟩ := hq3; obtain ⟨_, _, _, _, hf2⟩ := hq2; have HF2 := Aside0.mk ((Fr.refl (tbS L.gt mb) W0).drew.trans hf2 (fun _ _ h => h)); subst he2; have HR2 := Aside0.mk hr2; have HST2 := Aside0.mk hst2; clear hr2 hst2 hf2) | fail)
      all_goals
        go_wp2
        go_returns
        rw [HP.out]
        exact ⟨o2, rfl, HR2.out, HST0.out.trans HST2.out⟩
    rw [if_neg h6] at hp
    have t6 : (k == 6) = false := beq_eq_false_iff_ne.2 h6
    clear h6
    by_cases h7 : k = 7
    · rw [if_pos h7] at hp
      have HP := Aside0.mk hp
      rw [h7] at o0
      have HSH := Aside0.mk (shut_calls W0 L o S n 5 g HR0.out HW.out HG.out)
      clear hp h7 t6
      go_enter Tryz.func149, Tryz.ntmps149
      go_wp2_with (first | (go_at_call 166; rw [← HW0.out]; refine HU.out.mono ?_; rintro e1 w1 ⟨rfl, hw1⟩; have hw1 := hw1.symm; subst hw1) | (go_at_call 61; refine HSH.out.mono ?_; rintro e2 w2 ⟨o2, rfl, hr2, hst2⟩; have HR2 := Aside0.mk hr2; have HST2 := Aside0.mk hst2; clear hr2 hst2))
      go_returns
      rw [HP.out]
      exact ⟨o2, rfl, HR2.out, HST0.out.trans HST2.out⟩
    rw [if_neg h7] at hp
    have t7 : (k == 7) = false := beq_eq_false_iff_ne.2 h7
    clear h7
    by_cases h8 : k = 8
    · rw [if_pos h8] at hp
      have HP := Aside0.mk hp
      rw [h8] at o0
      clear hp h8 t6 t7
      go_enter Tryz.func149, Tryz.ntmps149
      go_wp2_with (go_at_call 166; rw [← HW0.out]; refine HU.out.mono ?_; rintro e1 w1 ⟨rfl, hw1⟩; have hw1 := hw1.symm; subst hw1)
      go_region_held3 (fun w' => w'.cell? ⟨L.bg, 10, none⟩ = some (.pointer (some ⟨L.gt, 0, none⟩)) ∧ w'.cell? ⟨g, 0, none⟩ = some (.int .i64 n))
        (first | exact HK.out _ (Fr.refl _ W0).drew | exact HK.out _ HF2.out | fail)
        (first | (go_at_call 168; have hq := tsetRole_calls _ n 1 L.gt mb qv W0.drew (HT.out.fr (Fr.refl nope W0).drew (fun h => h) (fun h => h) (fun _ _ h => h)) hd.1 hd.2 (.inr rfl); (refine hq.mono ?_); intro e2 w2 hq2; have hq3 := HR0.out.tabQ (HT.out.fr (Fr.refl nope W0).drew (fun h => h) (fun h => h) (fun _ _ h => h)) (Fr.refl nope W0).drew HTG.out.1 HTG.out.2 hq2; obtain ⟨he2, o2, hr2, hst2⟩ := hq3; obtain ⟨_, _, _, _, hf2⟩ := hq2; have HF2 := Aside0.mk ((Fr.refl (tbS L.gt mb) W0).drew.trans hf2 (fun _ _ h => h)); subst he2; have HR2 := Aside0.mk hr2; have HST2 := Aside0.mk hst2; clear hr2 hst2 hf2) | fail)
      all_goals
        go_wp2
        go_returns
        rw [HP.out]
        exact ⟨o2, rfl, HR2.out, HST0.out.trans HST2.out⟩
    rw [if_neg h8] at hp
    have t8 : (k == 8) = false := beq_eq_false_iff_ne.2 h8
    have HP := Aside0.mk hp
    clear h8 hp
    go_enter Tryz.func149, Tryz.ntmps149
    go_wp2_with (go_at_call 166; rw [← HW0.out]; refine HU.out.mono ?_; rintro e1 w1 ⟨rfl, hw1⟩; have hw1 := hw1.symm; subst hw1)
    go_region_held3 (fun w' => w'.cell? ⟨L.bg, 10, none⟩ = some (.pointer (some ⟨L.gt, 0, none⟩)) ∧ w'.cell? ⟨g, 0, none⟩ = some (.int .i64 n))
      (first | exact HK.out _ (Fr.refl _ W0).drew | exact HK.out _ HF2.out | fail)
      (first | (go_at_call 168; have hq := tsetRole_calls _ n 0 L.gt mb qv W0.drew (HT.out.fr (Fr.refl nope W0).drew (fun h => h) (fun h => h) (fun _ _ h => h)) hd.1 hd.2 (.inl rfl); (refine hq.mono ?_); intro e2 w2 hq2; have hq3 := HR0.out.tabQ (HT.out.fr (Fr.refl nope W0).drew (fun h => h) (fun h => h) (fun _ _ h => h)) (Fr.refl nope W0).drew HTG.out.1 HTG.out.2 hq2; obtain ⟨he2, o2, hr2, hst2⟩ := hq3; obtain ⟨_, _, _, _, hf2⟩ := hq2; have HF2 := Aside0.mk ((Fr.refl (tbS L.gt mb) W0).drew.trans hf2 (fun _ _ h => h)); subst he2; have HR2 := Aside0.mk hr2; have HST2 := Aside0.mk hst2; clear hr2 hst2 hf2) | fail)
    all_goals
      go_wp2
      go_returns
      rw [HP.out]
      exact ⟨o2, rfl, HR2.out, HST0.out.trans HST2.out⟩
end Go.Proofs.YtfkamoiamebngaaGreatDoor.BroW

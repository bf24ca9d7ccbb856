/- broker: settle. -/
import Derived.Test.YtfkamoiamebngaaGreatDoorM17
namespace Go.Proofs.YtfkamoiamebngaaGreatDoor.BroW
open Go.RowKit Go.Proofs.YtfkamoiamebngaaGreatDoorW.PrintWords Go.Proofs.YtfkamoiamebngaaGreatDoorW.PrintMore Go.Proofs.YtfkamoiamebngaaGreatDoor.Fr Go.Proofs.YtfkamoiamebngaaGreatDoor.ScrW Go.Proofs.YtfkamoiamebngaaGreatDoor.ScrP Go.Proofs.YtfkamoiamebngaaGreatDoor.Mod
set_option linter.unusedVariables false
set_option linter.unusedSimpArgs false

/-- what an event leaves: connections may have come and gone -/
def QL (L : Lay) (o : Own) (w : World) (S : St) (r : Value) (e : Ending) (w' : World) : Prop := ∃ L' o', e = .returned r ∧ Rep w' L' o' S ∧ L'.bg = L.bg ∧ Step (fun t => t ≠ .no) w o w' o'
theorem QB.loose {L : Lay} {o : Own} {w w' : World} {S : St} {r : Value} {e : Ending} (h : QB L o w S r e w') : QL L o w S r e w' := by
  obtain ⟨o', he, hr, hs⟩ := h
  exact ⟨L, o', he, hr, rfl, hs⟩
theorem QL.of {L L1 : Lay} {o o1 : Own} {w w1 w2 : World} {S S2 : St} {r : Value} {e : Ending} (hb : L1.bg = L.bg) (st : Step (fun t => t ≠ .no) w o w1 o1) (h : QL L1 o1 w1 S2 r e w2) : QL L o w S2 r e w2 := by
  obtain ⟨L', o', he, hr, hb2, hs⟩ := h
  exact ⟨L', o', he, hr, hb2.trans hb, st.trans hs⟩
/-- a connection goes -/
def Lay.del (L : Lay) (i : Int) : Lay := { L with cp := fun j => if j = i then none else L.cp j }
theorem Rep.del {w w1 : World} {L : Lay} {o : Own} {S : St} (h : Rep w L o S) {i : Int} (hm : MapAt w1 L.mc (upd (fun j => (L.cp j).map fun b => Value.pointer (some ⟨b, 0, none⟩)) i none)) (hf : Fr (only L.mc) w w1) :
    Rep w1 (L.del i) o (S.setc i none) ∧ Step (fun t => t ≠ .no) w o w1 o := by
  have st : Step (fun t => t = .cmap) w o w1 o := ⟨fun _ _ => rfl, fun b hb => h.fresh b (Nat.le_trans hf.size hb), hf.mono (fun b _ hb => by rw [show b = L.mc from hb]; exact h.map.2)⟩
  refine ⟨⟨lib_ext h.lib st.loose (by simp), st.new, h.brk.ext st.loose (by simp), ⟨?_, h.map.2⟩, h.log.ext st.loose (by simp), h.spt.ext st.loose (by simp), h.tab.ext st.loose (by simp), h.inp.ext st.loose (by simp), fun j => ?_⟩, st.mono (fun t ht => by rw [ht]; simp)⟩
  · have e : upd (fun j => (L.cp j).map fun b => Value.pointer (some ⟨b, 0, none⟩)) i none = fun j => ((L.del i).cp j).map fun b => Value.pointer (some ⟨b, 0, none⟩) := by
      funext j
      unfold upd Lay.del
      by_cases e : j = i <;> simp [e]
    rw [← e]
    exact hm
  · unfold Lay.del St.setc
    by_cases e : j = i
    · simp only [if_pos e]
      exact .inl ⟨rfl, rfl⟩
    · simp only [if_neg e]
      exact (h.con j).ext st.loose (by simp)
/-- what is left of a connection -/
def sw : Option Cn → Option Cn
  | some c => if c.st = 2 ∧ c.out = [] then none else some c
  | none => none
def sweepOne (S : St) (i : Int) : St := S.setc i (sw (S.cn i))
theorem sw_sw (c : Option Cn) : sw (sw c) = sw c := by
  cases c with
  | none => rfl
  | some c =>
    by_cases h : c.st = 2 ∧ c.out = []
    · have : sw (some c) = none := if_pos h
      rw [this]; rfl
    · have : sw (some c) = some c := if_neg h
      rw [this, this]
theorem sweep_cn (l : List Int) : ∀ S : St, l.foldl sweepOne S = { S with cn := fun i => if i ∈ l then sw (S.cn i) else S.cn i } := by
  induction l with
  | nil => intro S; simp
  | cons a l ih =>
    intro S
    rw [List.foldl_cons, ih]
    unfold sweepOne St.setc
    congr 1
    funext i
    by_cases h1 : i = a
    · subst h1
      by_cases h2 : i ∈ l <;> simp [h2, sw_sw]
    · by_cases h2 : i ∈ l <;> simp [h1, h2]
theorem sweep_fold (S : St) (l : List Int) (h : ∀ i, (S.cn i).isSome = true → i ∈ l) : l.foldl sweepOne S = sweep S := by
  rw [sweep_cn]
  unfold sweep
  congr 1
  funext i
  by_cases hi : i ∈ l
  · rw [if_pos hi]
    cases S.cn i <;> rfl
  · rw [if_neg hi]
    cases hc : S.cn i with
    | none => rfl
    | some c => exact absurd (h i (by rw [hc]; rfl)) hi
set_option maxRecDepth 100000 in
set_option maxHeartbeats 8000000 in
theorem settle_calls (w : World) (L : Lay) (o : Own) (S : St) (h : Rep w L o S) (hw : WF S) :
    Calls Tryz.prog 62 #[.pointer (some ⟨L.bg, 0, none⟩)] w (QL L o w (Mod.settle S) (.tuple #[])) := by
  have HR := Aside0.mk h
  have hw1 := (turned_wf hw).1
  have hw2 := (pump_ok hw1).1
  have hw3 := (turned_wf hw2).1
  obtain ⟨S1, hS1⟩ : ∃ S1, S1 = turned S := ⟨_, rfl⟩
  obtain ⟨S2, hS2⟩ : ∃ S2, S2 = pump S1 := ⟨_, rfl⟩
  obtain ⟨S3, hS3⟩ : ∃ S3, S3 = turned S2 := ⟨_, rfl⟩
  have hfin : Mod.settle S = sweep S3 := by rw [hS3, hS2, hS1]; rfl
  rw [hfin]
  rw [← hS1] at hw1 hw2 hw3
  rw [← hS2] at hw2 hw3
  rw [← hS3] at hw3
  have HW := Aside0.mk hw
  have HW1 := Aside0.mk hw1
  have HW2 := Aside0.mk hw2
  have HW3 := Aside0.mk hw3
  have hc1 := turned_calls w L o S h hw
  rw [← hS1] at hc1
  have HC1 := Aside0.mk hc1
  have hc2 : ∀ w1 o1, Rep w1 L o1 S1 → Calls Tryz.prog 83 #[.pointer (some ⟨L.bg, 0, none⟩)] w1 (QB L o1 w1 S2 (.tuple #[])) := fun w1 o1 h1 => by
    have := pump_calls w1 L o1 S1 h1 hw1
    rw [← hS2] at this
    exact this
  have hc3 : ∀ w1 o1, Rep w1 L o1 S2 → Calls Tryz.prog 59 #[.pointer (some ⟨L.bg, 0, none⟩)] w1 (QB L o1 w1 S3 (.tuple #[])) := fun w1 o1 h1 => by
    have := turned_calls w1 L o1 S2 h1 hw2
    rw [← hS3] at this
    exact this
  have HC2 := Aside0.mk hc2
  have HC3 := Aside0.mk hc3
  clear h hw hw1 hw2 hw3 hS1 hS2 hS3 hfin hc1 hc2 hc3
  go_enter Tryz.func62, Tryz.ntmps62
  go_wp2_with fail
  refine HC1.out.mono ?_
  rintro e1 w1 ⟨o1, rfl, hr1, hst1⟩
  have HR1 := Aside0.mk hr1
  have HST1 := Aside0.mk hst1
  clear hr1 hst1
  go_wp2_with fail
  refine (HC2.out w1 o1 HR1.out).mono ?_
  rintro e2 w2 ⟨o2, rfl, hr2, hst2⟩
  have HR2 := Aside0.mk hr2
  have HST2 := Aside0.mk hst2
  clear hr2 hst2
  go_wp2_with fail
  refine (HC3.out w2 o2 HR2.out).mono ?_
  rintro e3 w3 ⟨o3, rfl, hr3, hst3⟩
  obtain ⟨ids, hids⟩ : ∃ l, l = idsL L.cp := ⟨_, rfl⟩
  have hil : ids.length ≤ 16 := by rw [hids]; exact List.length_filter_le _ _
  have hnd : ids.Nodup := by rw [hids]; exact (show List.Pairwise (· ≠ ·) ids16 by decide).filter _
  have hdom : ∀ i, i ∈ ids ↔ (S3.cn i).isSome = true := fun i => by
    rw [hids]
    unfold idsL
    rw [List.mem_filter, hr3.dom i]
    constructor
    · exact fun h => h.2
    · intro h
      refine ⟨?_, h⟩
      have := hr3.map.1.1 i (by simpa using h)
      rw [ids16_mem]
      exact this
  have HDOM := Aside0.mk (And.intro hnd hdom)
  have HIDS := Aside0.mk hids
  have HR3 := Aside0.mk hr3
  have HST3 := Aside0.mk ((HST1.out.trans HST2.out).trans hst3)
  have HIC := Aside0.mk (ids_calls w3 L hr3.map.1 hr3.brk.1 rfl)
  clear hr3 hst3 hids hnd hdom
  go_wp2_with fail
  refine HIC.out.mono ?_
  rintro e4 w4 ⟨v, rfl, ho4, hf4⟩
  rw [← HIDS.out] at ho4
  have hv := own_slice ho4
  obtain ⟨A4, cv4, rfl⟩ := hv
  have HO4 := Aside0.mk ho4
  have HF4 := Aside0.mk hf4
  clear ho4 hf4
  go_wp2_with fail
  go_loopw [14] (fun v14 wr => ∃ (k : Nat) (L5 : Lay) (o5 : Own) (S5 : St), v14 = .int .i64 k ∧ k ≤ ids.length ∧ Aside0 (S5 = (ids.take k).foldl sweepOne S3) ∧ Aside0 (Rep wr L5 o5 S5 ∧ L5.bg = L.bg) ∧ Aside0 (Step (fun t => t ≠ .no) w o wr o5) ∧
      Aside0 (wr.ownsRow w3.heap.size 3 1 (.slice A4 ids.length cv4) ids.length (nums .i64 ids)) ∧ Aside0 (∀ b, (Value.slice A4 ids.length cv4).ownBlock = some b → o5 b = .no)) (fun v14 _ => ids.length - (intOf v14).toNat)
  case atStart =>
    exact ⟨0, L, o3, S3, rfl, Nat.zero_le _, ⟨rfl⟩, ⟨HR3.out.quiet HF4.out, rfl⟩, ⟨HST3.out.trans (HR3.out.step HF4.out)⟩, HO4, ⟨fun b hb => HR3.out.fresh b (own_old HO4.out hb).1⟩⟩
  case round =>
    obtain ⟨k, L5, o5, S5, rfl, hk, HS5, HR5, HST5, HO5, HN5⟩ := hrel
    by_cases hlt : k < ids.length
    · have hr := own_readsInt HO5.out
      obtain ⟨aq, e2, hc⟩ := hr.2.2 (by omega)
      cases e2
      obtain ⟨id, hid⟩ : ∃ id, ids.getD k 0 = id := ⟨_, rfl⟩
      have hcell := hc k hlt
      rw [hid] at hcell
      have hidk : ids[k] = id := by rw [← hid, List.getD_eq_getElem?_getD, List.getElem?_eq_getElem hlt]; rfl
      have hmem : id ∈ ids := by rw [← hidk]; exact List.getElem_mem hlt
      have hnt : id ∉ ids.take k := fun hx => by
        obtain ⟨j, hj, e⟩ := List.getElem_of_mem hx
        rw [List.getElem_take] at e
        have hj2 : j < k := by rw [List.length_take] at hj; omega
        have := (List.getElem_inj HDOM.out.1).1 (e.trans hidk.symm)
        omega
      obtain ⟨c, hcn3⟩ := Option.isSome_iff_exists.1 ((HDOM.out.2 id).1 hmem)
      have hcn5 : S5.cn id = some c := by rw [HS5.out, sweep_cn]; simp [hnt, hcn3]
      obtain ⟨g, hg, fg, lg, og, vv, p0, p1, p2, ⟨vq, hq, hog, hvq⟩, p4⟩ := HR5.out.1.conOf hcn5
      have hd := HR5.out.1.map.1.1 id (by simp [hg])
      have hiw := mpWf hd.1 hd.2
      have c12 : wr.cell? ⟨L.bg, 12, none⟩ = some (.map (some L5.mc)) := by rw [← HR5.out.2]; exact (blk_cell HR5.out.1.brk.1 12).trans rfl
      have hbgl : L.bg < wr.heap.size := by rw [← HR5.out.2]; exact blk_lt HR5.out.1.brk.1
      have hlook := HR5.out.1.look hg
      have g1 : wr.cell? ⟨g, 1, none⟩ = some (.int .i64 c.st) := (blk_cell p0.1 1).trans rfl
      have g6 : wr.cell? ⟨g, 6, none⟩ = some (.pointer (some ⟨og, 0, none⟩)) := (blk_cell p0.1 6).trans rfl
      have hgl := blk_lt p0.1
      have hwf5 : c.out.length ≤ 65536 := by
        have h1 := (HW3.out.con id c hcn3).2.2.out
        have h2 := cf_b HW3.out
        omega
      have HLEN := Aside0.mk (qlen_calls c.out S5.cf.a2 vq og 0 wr hq (by omega))
      have hkl : (k : Int) < (ids.length : Int) := by omega
      have hk0 : (0 : Int) ≤ (k : Int) := by omega
      have hwk : IntKind.i64.wrap ((k : Int) + 1) = (k : Int) + 1 := by rw [IntKind.wrap_i64]; omega
      have HTK : Aside0 ((ids.take (k + 1)).foldl sweepOne S3 = S5.setc id (sw (some c))) := ⟨by
        rw [List.take_add_one, List.getElem?_eq_getElem hlt, hidk, Option.toList_some, List.foldl_append, ← HS5.out]
        show sweepOne S5 id = _
        unfold sweepOne
        rw [hcn5]⟩
      have hdel := HR5.out.1.map.1.del (t := 85) Tryz.underlying85 hiw 0
      obtain ⟨Wd, hs, hmd, hfd⟩ := hdel
      have HDEL := Aside0.mk (HR5.out.1.del hmd hfd)
      have HCN5 := Aside0.mk hcn5
      clear hc hr hid hidk hmem hnt hcn3 hcn5 hg p0 p1 p2 hq hog hvq p4 hmd hfd hd
      by_cases h2 : c.st = 2
      · have g1' : wr.cell? ⟨g, 1, none⟩ = some (.int .i64 2) := by rw [← h2]; exact g1
        by_cases h0 : c.out = []
        · have hsw : sw (some c) = none := if_pos ⟨h2, h0⟩
          have HSW := Aside0.mk hsw
          have hl0 : c.out.length = 0 := by rw [h0]; rfl
          rw [hl0] at HLEN
          clear g1 h2 h0 hsw hl0
          go_wp2_with (go_at_call 84; refine HLEN.out.mono ?_; rintro e6 w6 ⟨rfl, hw6⟩; have hw6 := hw6.symm; subst hw6)
          go_roundw
          case rel =>
            refine ⟨k + 1, L5.del id, o5, S5.setc id none, by push_cast; rfl, hlt, ⟨by rw [HTK.out, HSW.out]⟩, ⟨HDEL.out.1, HR5.out.2⟩, ⟨HST5.out.trans HDEL.out.2⟩, ⟨HDEL.out.2.fr.own HO5.out (fun b hb hx => hx (HN5.out b hb))⟩, HN5⟩
          case measure => simp only [intOf]; omega
        · have hsw : sw (some c) = some c := if_neg (fun e => h0 e.2)
          have HSW := Aside0.mk hsw
          obtain ⟨n, hn⟩ : ∃ n, c.out.length = n := ⟨_, rfl⟩
          have hnp : 0 < n := by rw [← hn]; exact List.length_pos_iff.2 h0
          rw [hn] at HLEN
          have t3 : ((n : Int) == 0) = false := beq_eq_false_iff_ne.2 (by omega)
          have t4 : (n == 0) = false := beq_eq_false_iff_ne.2 (by omega)
          have t5 : ¬ n = 0 := by omega
          clear g1 h2 h0 hsw hn
          go_wp2_with (go_at_call 84; refine HLEN.out.mono ?_; rintro e6 w6 ⟨rfl, hw6⟩; have hw6 := hw6.symm; subst hw6)
          go_roundw
          case rel =>
            refine ⟨k + 1, L5, o5, S5, by push_cast; rfl, hlt, ⟨by rw [HTK.out, HSW.out]; exact (setc_self HCN5.out).symm⟩, HR5, HST5, HO5, HN5⟩
          case measure => simp only [intOf]; omega
      · have hsw : sw (some c) = some c := if_neg (fun e => h2 e.1)
        have HSW := Aside0.mk hsw
        have t2 : (c.st == 2) = false := beq_eq_false_iff_ne.2 h2
        clear h2 hsw
        go_wp2
        go_roundw
        case rel =>
          refine ⟨k + 1, L5, o5, S5, by push_cast; rfl, hlt, ⟨by rw [HTK.out, HSW.out]; exact (setc_self HCN5.out).symm⟩, HR5, HST5, HO5, HN5⟩
        case measure => simp only [intOf]; omega
    · have hkn : k = ids.length := by omega
      have HE : Aside0 (sweep S3 = S5) := ⟨by rw [HS5.out, hkn, List.take_length]; exact (sweep_fold S3 ids (fun i hi => (HDOM.out.2 i).2 hi)).symm⟩
      have hlt2 : ¬ (k : Int) < (ids.length : Int) := by omega
      clear hkn hlt
      go_wp2
      go_end0
      rw [HE.out]
      exact ⟨L5, o5, rfl, HR5.out.1, HR5.out.2, HST5.out⟩
end Go.Proofs.YtfkamoiamebngaaGreatDoor.BroW

/- broker: Write, Output, Drain, Cut, End; what is to be seen. -/
namespace Go.Proofs.YtfkamoiamebngaaGreatDoor.BroW
open Go.RowKit Go.Proofs.YtfkamoiamebngaaGreatDoorW.PrintWords Go.Proofs.YtfkamoiamebngaaGreatDoorW.PrintMore Go.Proofs.YtfkamoiamebngaaGreatDoor.Fr Go.Proofs.YtfkamoiamebngaaGreatDoor.ScrW Go.Proofs.YtfkamoiamebngaaGreatDoor.ScrP Go.Proofs.YtfkamoiamebngaaGreatDoor.Mod
set_option linter.unusedVariables false
set_option linter.unusedSimpArgs false

/-- a row of bytes of one's own, that is nobody's -/
def BytesOut (o : Own) (base : Nat) (v : Value) (bs : List Int) (w : World) : Prop := w.ownsRow base 5 1 v bs.length (nums .u8 bs) ∧ ∀ b, v.ownBlock = some b → o b = .no
theorem BytesOut.step {o o2 : Own} {base : Nat} {v : Value} {bs : List Int} {w w2 : World} (h : BytesOut o base v bs w) (st : Step (fun t => t ≠ .no) w o w2 o2) : BytesOut o2 base v bs w2 :=
  ⟨st.fr.own h.1 (fun b hb hx => hx (h.2 b hb)), fun b hb => (st.old b (own_old h.1 hb).2).trans (h.2 b hb)⟩
/-- the out queue of a connection turns; what else is new is nobody's -/
theorem Rep.outq2 {w w1 : World} {L : Lay} {o : Own} {S : St} (h : Rep w L o S) {i : Int} {g : Nat} (hg : L.cp i = some g) {c : Cn} {fg lg og : Nat} {vv : Value} (p0 : PCb w o i g (conCells i c fg lg og vv)) (p1 : PFd w o i fg c.fb c.fe) (p2 : PLx w o i lg c.lx) (p4 : PVw w o i vv c.vw)
    {v v' : Value} (hq : IsQ w 0 og c.out S.cf.a2 v) (hog : o og = .con i 3) (hv : ∀ b, v.ownBlock = some b → o b = .con i 3) {bs : List Int} (hq' : IsQ w1 0 og bs S.cf.a2 v') (hn : NewOr w v v') (hf : Fr (qS og v) w w1) :
    ∃ o', Rep w1 L o' (S.setc i (some { c with out := bs })) ∧ Step (fun t => t ≠ .no) w o w1 o' ∧ ∀ b, w.heap.size ≤ b → v'.ownBlock ≠ some b → o' b = .no := by
  have st : Step (fun t => t = .con i 3) w o w1 (tagN w o (.con i 3) (fun b => v'.ownBlock = some b)) :=
    step_tagN h.fresh (fun b hb => (own_old hq'.2.1 hb).2) (hf.mono (fun b _ hb => by
      rcases hb with hb | hb
      · rw [hb]; exact hog
      · exact hv b hb))
  have hog' : tagN w o (.con i 3) (fun b => v'.ownBlock = some b) og = .con i 3 := (st.old og (blk_lt hq.1)).trans hog
  refine ⟨_, h.con' hg (st.mono (fun t ht => ⟨3, ht⟩)) ?_, st.mono (fun t ht => by rw [ht]; simp), fun b hb hx => ?_⟩
  · exact ⟨fg, lg, og, vv, p0.ext st.loose (by simp), p1.ext st.loose (by simp), p2.ext st.loose (by simp), ⟨v', hq', hog', fun b hb => tagN_or (by
      rcases hn b hb with h1 | h1
      · exact .inl ⟨(own_old hq.2.1 h1).2, hv b h1⟩
      · exact .inr ⟨h1, hb⟩)⟩, p4.ext st.loose (by simp)⟩
  · unfold tagN
    rw [if_neg (fun h => hx h.2)]
    exact h.fresh b hb
/-- what an event leaves that yields bytes -/
def QO (L : Lay) (o : Own) (w : World) (S : St) (bs : List Int) (r : Value → Value) (e : Ending) (w' : World) : Prop := ∃ v L' o', e = .returned (r v) ∧ Rep w' L' o' S ∧ L'.bg = L.bg ∧ Step (fun t => t ≠ .no) w o w' o' ∧ (v = .slice none 0 0 ∧ bs = [] ∨ BytesOut o' w.heap.size v bs w')
theorem Rep.cpN {w : World} {L : Lay} {o : Own} {S : St} (h : Rep w L o S) {i : Int} (hc : S.cn i = none) : L.cp i = none := by
  have := h.dom i
  rw [hc] at this
  cases hg : L.cp i with
  | none => rfl
  | some g => rw [hg] at this; cases this

set_option maxRecDepth 100000 in
set_option maxHeartbeats 4000000 in
theorem bwrite_calls (w : World) (L : Lay) (o : Own) (S : St) (i n : Int) (h : Rep w L o S) (hw : WF S) (hi : (Lit.int .i64 i).wf = true) (hn0 : 0 ≤ n) (hn1 : n ≤ 100000) :
    Calls Tryz.prog 38 #[.pointer (some ⟨L.bg, 0, none⟩), .int .i64 i, .int .i64 n] w (QO L o w (writeM S i n).1 (writeM S i n).2.1 (fun v => .tuple #[v, .int .i64 (writeM S i n).2.2])) := by
  have HR := Aside0.mk h
  have b12 : w.cell? ⟨L.bg, 12, none⟩ = some (.map (some L.mc)) := (blk_cell h.brk.1 12).trans rfl
  have hbg := blk_lt h.brk.1
  unfold writeM
  cases hc : S.cn i with
  | none =>
    simp only
    have hlk := h.lookN hi (h.cpN hc)
    clear h hw hc
    go_enter Tryz.func38, Tryz.ntmps38
    go_wp2
    go_returns
    exact ⟨_, L, o, rfl, HR.out, rfl, HR.out.step (Fr.refl _ _), .inl ⟨rfl, rfl⟩⟩
  | some c =>
    simp only
    obtain ⟨g, hg, fg, lg, og, vv, p0, p1, p2, ⟨vq, hq, hog, hvq⟩, p4⟩ := h.conOf hc
    have hlk := h.look hg
    have g6 : w.cell? ⟨g, 6, none⟩ = some (.pointer (some ⟨og, 0, none⟩)) := (blk_cell p0.1 6).trans rfl
    have hgl := blk_lt p0.1
    have hol : c.out.length ≤ 65536 := by
      have h1 := (hw.con i c hc).2.2.out
      have h2 := cf_b hw
      omega
    obtain ⟨k, hk⟩ : ∃ k, k = min n.toNat c.out.length := ⟨_, rfl⟩
    have hdk : c.out.drop n.toNat = c.out.drop k := by
      rw [hk]
      rcases Nat.le_total n.toNat c.out.length with h1 | h1
      · rw [Nat.min_eq_left h1]
      · rw [Nat.min_eq_right h1, List.drop_eq_nil_of_le h1, List.drop_length]
    have htk : c.out.take n.toNat = c.out.take k := by
      rw [hk]
      rcases Nat.le_total n.toNat c.out.length with h1 | h1
      · rw [Nat.min_eq_left h1]
      · rw [Nat.min_eq_right h1, List.take_of_length_le h1, List.take_length]
    rw [hdk, htk]
    have hwd := drop_ok hw hc k
    obtain ⟨S1, hS1⟩ : ∃ S1, S1 = S.setc i (some { c with out := c.out.drop k }) := ⟨_, rfl⟩
    rw [← hS1] at hwd ⊢
    have htake : Calls Tryz.prog 63 #[.pointer (some ⟨og, 0, none⟩), .int .i64 n] w fun e w1 => ∃ v o1, e = .returned v ∧ Rep w1 L o1 S1 ∧ Step (fun t => t ≠ .no) w o w1 o1 ∧ BytesOut o1 w.heap.size v (c.out.take k) w1 := by
      refine (qtake_at c.out S.cf.a2 n k vq og 0 w hq (Nat.zero_le _) (by omega) (by omega) (by
        rcases Nat.le_total n.toNat c.out.length with h1 | h1
        · rw [Nat.min_eq_left h1] at hk; exact .inl (by omega)
        · rw [Nat.min_eq_right h1] at hk
          by_cases he : n = (c.out.length : Int)
          · exact .inl (by omega)
          · exact .inr ⟨hk, by omega⟩)).mono ?_
      rintro e w1 ⟨v, v', rfl, ho1, hq1, hnew, hf1⟩
      have hff : Fr (qS og vq) w w1 := hf1.mono (fun b _ hb => .inl hb)
      obtain ⟨o1, r1, s1, n1⟩ := h.outq2 hg p0 p1 p2 p4 hq hog hvq hq1 (fun b hb => .inr (hnew b hb).1) hff
      rw [← hS1] at r1
      have hno : ∀ b, v.ownBlock = some b → o1 b = .no := fun b hb => n1 b (own_old ho1 hb).1 (fun e => (hnew b e).2 hb)
      exact ⟨v, o1, rfl, r1, s1, ho1, hno⟩
    have HT := Aside0.mk htake
    have HWD := Aside0.mk hwd.1
    clear h hw hc hg p0 p1 p2 hq hog hvq p4 hk hdk htk hwd hS1 htake
    go_enter Tryz.func38, Tryz.ntmps38
    go_wp2_with (first | (go_at_call 63; refine HT.out.mono ?_; rintro e1 w1 ⟨v, o1, rfl, hr1, hst1, hb1⟩; have HR1 := Aside0.mk hr1; have HST1 := Aside0.mk hst1; have HB1 := Aside0.mk hb1; clear hr1 hst1 hb1) | (go_at_call 62; refine (settle_calls w1 L o1 S1 HR1.out HWD.out).mono ?_; rintro e2 w2 ⟨L2, o2, rfl, hr2, hb2, hst2⟩; have HR2 := Aside0.mk (And.intro hr2 (And.intro hb2 hst2)); clear hr2 hb2 hst2))
    go_returns
    exact ⟨_, L2, o2, rfl, HR2.out.1, HR2.out.2.1, HST1.out.trans HR2.out.2.2, .inr (HB1.out.step HR2.out.2.2)⟩

set_option maxRecDepth 100000 in
set_option maxHeartbeats 4000000 in
theorem bdrain_calls (w : World) (L : Lay) (o : Own) (S : St) (n : Int) (h : Rep w L o S) (hw : WF S) (hn0 : 0 ≤ n) (hn1 : n ≤ 100000) :
    Calls Tryz.prog 40 #[.pointer (some ⟨L.bg, 0, none⟩), .int .i64 n] w (QO L o w (drainM S n).1 (drainM S n).2 (fun v => v)) := by
  have HR := Aside0.mk h
  have b11 : w.cell? ⟨L.bg, 11, none⟩ = some (.pointer (some ⟨L.gi, 0, none⟩)) := (blk_cell h.brk.1 11).trans rfl
  have hbg := blk_lt h.brk.1
  obtain ⟨gq, v, hI, hgi, hgq, hv⟩ := h.inp
  have hI0 := hI
  obtain ⟨cc, k1, k2, k3, k4⟩ := hI0
  have g0 : w.cell? ⟨L.gi, 0, none⟩ = some (.pointer (some ⟨gq, 0, none⟩)) := (blk_cell k1 0).trans rfl
  have hgil := blk_lt k1
  have hil : S.inp.length ≤ 65536 := by
    have h1 := hw.inp
    have h2 := cf_b hw
    omega
  unfold drainM
  simp only
  obtain ⟨k, hk⟩ : ∃ k, k = min n.toNat S.inp.length := ⟨_, rfl⟩
  have hdk : S.inp.drop n.toNat = S.inp.drop k := by
    rw [hk]
    rcases Nat.le_total n.toNat S.inp.length with h1 | h1
    · rw [Nat.min_eq_left h1]
    · rw [Nat.min_eq_right h1, List.drop_eq_nil_of_le h1, List.drop_length]
  have htk : S.inp.take n.toNat = S.inp.take k := by
    rw [hk]
    rcases Nat.le_total n.toNat S.inp.length with h1 | h1
    · rw [Nat.min_eq_left h1]
    · rw [Nat.min_eq_right h1, List.take_of_length_le h1, List.take_length]
  rw [hdk, htk]
  have htake : Calls Tryz.prog 63 #[.pointer (some ⟨gq, 0, none⟩), .int .i64 n] w fun e w1 => ∃ v o1, e = .returned v ∧ Rep w1 L o1 { S with inp := S.inp.drop k } ∧ Step (fun t => t ≠ .no) w o w1 o1 ∧ BytesOut o1 w.heap.size v (S.inp.take k) w1 := by
    refine (qtake_at S.inp S.cf.a3 n k v gq 0 w k2 (Nat.zero_le _) (by omega) (by omega) (by
      rcases Nat.le_total n.toNat S.inp.length with h1 | h1
      · rw [Nat.min_eq_left h1] at hk; exact .inl (by omega)
      · rw [Nat.min_eq_right h1] at hk
        by_cases he : n = (S.inp.length : Int)
        · exact .inl (by omega)
        · exact .inr ⟨hk, by omega⟩)).mono ?_
    rintro e w1 ⟨v1, v', rfl, ho1, hq1, hnew, hf1⟩
    have hff : Fr (inS L.gi gq v) w w1 := hf1.mono (fun b _ hb => .inr (.inl hb))
    have hI1 : IsI w1 L.gi gq v' (S.inp.drop k) S.cf.a3 S.inE := ⟨cc, hf1.blk k1 (fun e => k3 e), hq1, k3, fun e => by have := (hnew _ e).1; omega⟩
    obtain ⟨o1, r1, s1, n1⟩ := h.inpq hI hgi hgq hv hI1 (fun b hb => .inr (hnew b hb).1) hff
    exact ⟨v1, o1, rfl, r1, s1, ho1, fun b hb => n1 b (own_old ho1 hb).1 (fun e => (hnew b e).2 hb)⟩
  have HT := Aside0.mk htake
  clear h hw hI hgi hgq hv k1 k2 k3 k4 hk hdk htk htake
  go_enter Tryz.func40, Tryz.ntmps40
  go_wp2_with (go_at_call 63; refine HT.out.mono ?_; rintro e1 w1 ⟨v1, o1, rfl, hr1, hst1, hb1⟩; have HR1 := Aside0.mk hr1; have HST1 := Aside0.mk hst1; have HB1 := Aside0.mk hb1; clear hr1 hst1 hb1)
  go_returns
  exact ⟨_, L, o1, rfl, HR1.out, rfl, HST1.out, .inr HB1.out⟩

set_option maxRecDepth 100000 in
set_option maxHeartbeats 4000000 in
theorem bcut_calls (w : World) (L : Lay) (o : Own) (S : St) (i : Int) (h : Rep w L o S) (hw : WF S) (hi : (Lit.int .i64 i).wf = true) :
    Calls Tryz.prog 43 #[.pointer (some ⟨L.bg, 0, none⟩), .int .i64 i] w (QL L o w (cutM S i).1 (.int .i64 (cutM S i).2)) := by
  have HR := Aside0.mk h
  have b12 : w.cell? ⟨L.bg, 12, none⟩ = some (.map (some L.mc)) := (blk_cell h.brk.1 12).trans rfl
  have hbg := blk_lt h.brk.1
  unfold cutM
  cases hc : S.cn i with
  | none =>
    rw [if_neg (by simp)]
    have hlk := h.lookN hi (h.cpN hc)
    clear h hw hc
    go_enter Tryz.func43, Tryz.ntmps43
    go_wp2
    go_returns
    exact ⟨L, o, rfl, HR.out, rfl, HR.out.step (Fr.refl _ _)⟩
  | some c =>
    rw [if_pos (by simp)]
    simp only
    obtain ⟨g, hg, _⟩ := h.conOf hc
    have hlk := h.look hg
    have hlw := (leave_wf hw i).1
    have hdw := (del_ok hlw (leave_shut S hw i)).1
    obtain ⟨S1, hS1⟩ : ∃ S1, S1 = leave S i := ⟨_, rfl⟩
    have hcl := bleave_calls w L o S i g h hw hg
    rw [← hS1] at hlw hdw hcl ⊢
    have HCL := Aside0.mk hcl
    have HLW := Aside0.mk hlw
    have HDW := Aside0.mk hdw
    have HI := Aside0.mk hi
    clear h hw hc hg hlw hdw hS1 hcl hi
    go_enter Tryz.func43, Tryz.ntmps43
    go_wp2_with (first | (go_at_call 69; refine HCL.out.mono ?_; rintro e1 w1 ⟨o1, rfl, hr1, hst1⟩; have c12 : w1.cell? ⟨L.bg, 12, none⟩ = some (.map (some L.mc)) := (blk_cell hr1.brk.1 12).trans rfl; have hbg1 := blk_lt hr1.brk.1; have hdel := hr1.map.1.del (t := 85) Tryz.underlying85 HI.out 0; obtain ⟨Wd, hs, hmd, hfd⟩ := hdel; have HDEL := Aside0.mk (hr1.del hmd hfd); have HST1 := Aside0.mk hst1; clear hr1 hst1 hmd hfd) | (go_at_call 62; refine (settle_calls Wd (L.del i) o1 _ HDEL.out.1 HDW.out).mono ?_; rintro e2 w2 ⟨L2, o2, rfl, hr2, hb2, hst2⟩; have HR2 := Aside0.mk (And.intro hr2 (And.intro hb2 hst2)); clear hr2 hb2 hst2))
    go_returns
    exact ⟨L2, o2, rfl, HR2.out.1, HR2.out.2.1, (HST1.out.trans HDEL.out.2).trans HR2.out.2.2⟩
end Go.Proofs.YtfkamoiamebngaaGreatDoor.BroW

/- broker: Output, End, Connect; what is to be seen. -/
namespace Go.Proofs.YtfkamoiamebngaaGreatDoor.BroW
open Go.RowKit Go.Proofs.YtfkamoiamebngaaGreatDoorW.PrintWords Go.Proofs.YtfkamoiamebngaaGreatDoorW.PrintMore Go.Proofs.YtfkamoiamebngaaGreatDoor.Fr Go.Proofs.YtfkamoiamebngaaGreatDoor.ScrW Go.Proofs.YtfkamoiamebngaaGreatDoor.ScrP Go.Proofs.YtfkamoiamebngaaGreatDoor.Mod Go.Proofs.YtfkamoiamebngaaGreatDoor.SpotP Go.Proofs.YtfkamoiamebngaaGreatDoor.SpotW Go.Proofs.YtfkamoiamebngaaGreatDoor.LexP Go.Proofs.YtfkamoiamebngaaGreatDoor.LexW
set_option linter.unusedVariables false
set_option linter.unusedSimpArgs false

theorem Rep.endd {w : World} {L : Lay} {o : Own} {S : St} (h : Rep w L o S) (x : Int) : Rep ((w.setCell ⟨L.bg, 14, none⟩ (.bool true)).setCell ⟨L.bg, 15, none⟩ (.int .i64 x)) L o { S with ended := true, code := x } ∧ Step (fun t => t ≠ .no) w o ((w.setCell ⟨L.bg, 14, none⟩ (.bool true)).setCell ⟨L.bg, 15, none⟩ (.int .i64 x)) o := by
  have hf : Fr (only L.bg) w ((w.setCell ⟨L.bg, 14, none⟩ (.bool true)).setCell ⟨L.bg, 15, none⟩ (.int .i64 x)) := ((Fr.refl (only L.bg) w).set (fun _ => rfl) 14 _).set (fun _ => rfl) 15 _
  have st : Step (fun t => t = .brk) w o ((w.setCell ⟨L.bg, 14, none⟩ (.bool true)).setCell ⟨L.bg, 15, none⟩ (.int .i64 x)) o := ⟨fun _ _ => rfl, fun b hb => h.fresh b (Nat.le_trans hf.size hb), hf.mono (fun b _ hb => by rw [show b = L.bg from hb]; exact h.brk.2)⟩
  exact ⟨h.brk' st S.strikes true x S.told ⟨blk_set (blk_set h.brk.1 14 _) 15 _, h.brk.2⟩, st.mono (fun t ht => by rw [ht]; simp)⟩

set_option maxRecDepth 100000 in
set_option maxHeartbeats 4000000 in
theorem bend_calls (w : World) (L : Lay) (o : Own) (S : St) (x : Int) (h : Rep w L o S) (hw : WF S) :
    Calls Tryz.prog 41 #[.pointer (some ⟨L.bg, 0, none⟩), .int .i64 x] w (QL L o w (endM S x).1 (.int .i64 (endM S x).2)) := by
  have HR := Aside0.mk h
  have b14 : w.cell? ⟨L.bg, 14, none⟩ = some (.bool S.ended) := (blk_cell h.brk.1 14).trans rfl
  have hbg := blk_lt h.brk.1
  unfold endM
  cases he : S.ended with
  | true =>
    rw [if_pos rfl]
    rw [he] at b14
    clear h hw he
    go_enter Tryz.func41, Tryz.ntmps41
    go_wp2
    go_returns
    exact ⟨L, o, rfl, HR.out, rfl, HR.out.step (Fr.refl _ _)⟩
  | false =>
    rw [if_neg (by decide)]
    rw [he] at b14
    by_cases hx0 : x < 0
    · rw [if_pos (.inl hx0)]
      have t1 : decide (x < 0) = true := decide_eq_true hx0
      clear h hw he
      go_enter Tryz.func41, Tryz.ntmps41
      go_wp2
      go_returns
      exact ⟨L, o, rfl, HR.out, rfl, HR.out.step (Fr.refl _ _)⟩
    · have t1 : decide (x < 0) = false := decide_eq_false hx0
      by_cases hx1 : 255 < x
      · rw [if_pos (.inr hx1)]
        have t2 : decide (255 < x) = true := decide_eq_true hx1
        clear h hw he
        go_enter Tryz.func41, Tryz.ntmps41
        go_wp2
        go_returns
        exact ⟨L, o, rfl, HR.out, rfl, HR.out.step (Fr.refl _ _)⟩
      · rw [if_neg (by omega)]
        have t2 : decide (255 < x) = false := decide_eq_false hx1
        simp only
        have hE := h.endd x
        have b15 : w.cell? ⟨L.bg, 15, none⟩ = some (.int .i64 S.code) := (blk_cell h.brk.1 15).trans rfl
        have b11 : w.cell? ⟨L.bg, 11, none⟩ = some (.pointer (some ⟨L.gi, 0, none⟩)) := (blk_cell h.brk.1 11).trans rfl
        have f14 := blk_frozen h.brk.1 14
        have f15 := blk_frozen h.brk.1 15
        obtain ⟨gq, v, hI, hgi, hgq, hv⟩ := hE.1.inp
        have hil : S.inp.length ≤ 1000000 := by
          have h1 := hw.inp
          have h2 := cf_b hw
          omega
        have hw0 := (end0_ok hw (code := x) (by omega)).1
        obtain ⟨S0, hS0⟩ : ∃ S0, S0 = { S with ended := true, code := x, inp := [], inE := true } := ⟨_, rfl⟩
        have hend : Calls Tryz.prog 66 #[.pointer (some ⟨L.gi, 0, none⟩)] ((w.setCell ⟨L.bg, 14, none⟩ (.bool true)).setCell ⟨L.bg, 15, none⟩ (.int .i64 x)) (QB L o w S0 (.tuple #[])) := by
          refine (iend_calls L.gi gq v S.inp S.cf.a3 S.inE _ hI hil).mono ?_
          rintro e w1 ⟨v', he1, hI1, hn1, hf1⟩
          obtain ⟨o1, r1, s1, _⟩ := hE.1.inpq hI hgi hgq hv hI1 hn1 hf1
          refine ⟨o1, he1, ?_, hE.2.trans s1⟩
          rw [hS0]
          exact r1
        have ht := (tell_wf hw0 ⟨15, x, 0, strL []⟩).1
        rw [← hS0] at hw0 ht ⊢
        have HEND := Aside0.mk hend
        have HW0 := Aside0.mk hw0
        have HT := Aside0.mk ht
        have hem : (strL [] : ByteArray) = ⟨#[]⟩ := rfl
        rw [hem] at HT ⊢
        clear h hw he hE hI hgi hgq hv hil hw0 hS0 hend ht hem hx0 hx1
        go_enter Tryz.func41, Tryz.ntmps41
        go_wp2_with (first | (go_at_call 66; refine HEND.out.mono ?_; rintro e1 w1 ⟨o1, rfl, hr1, hst1⟩; have HR1 := Aside0.mk hr1; have HST1 := Aside0.mk hst1; clear hr1 hst1) | (go_at_call 67; refine (btell_calls w1 L o1 S0 ⟨15, x, 0, ⟨#[]⟩⟩ HR1.out HW0.out (show (0 : Nat) ≤ 1000000 by omega)).mono ?_; rintro e2 w2 ⟨o2, rfl, hr2, hst2⟩; have HR2 := Aside0.mk hr2; have HST2 := Aside0.mk hst2; clear hr2 hst2) | (go_at_call 62; refine (settle_calls w2 L o2 _ HR2.out HT.out).mono ?_; rintro e3 w3 ⟨L3, o3, rfl, hr3, hb3, hst3⟩; have HR3 := Aside0.mk (And.intro hr3 (And.intro hb3 hst3)); clear hr3 hb3 hst3))
        go_returns
        exact ⟨L3, o3, rfl, HR3.out.1, HR3.out.2.1, (HST1.out.trans HST2.out).trans HR3.out.2.2⟩

/-- the program's output goes on -/
theorem Rep.logq {w w1 w2 : World} {L : Lay} {o : Own} {S : St} (h : Rep w L o S) {gb : Nat} {s : Sp} {data : List Int} (hL : IsR w L.gl gb S.log S.cf.a0.toNat) (hl1 : o L.gl = .log) (hl2 : o gb = .log) (hsg : SpGood s) (hsr : s.r ≤ S.log.length) (hso : o L.gs = .spt)
    (hL1 : IsR w1 L.gl gb (S.log ++ data) S.cf.a0.toNat) (hf1 : Fr (fun i => i = L.gl ∨ i = gb) w w1) (hs2 : IsSpot w2 L.gs (allS s data)) (hf2 : Fr (only L.gs) w1 w2) :
    Rep w2 L o { S with log := S.log ++ data } ∧ Step (fun t => t ≠ .no) w o w2 o := by
  have hff : Fr (fun i => (i = L.gl ∨ i = gb) ∨ i = L.gs) w w2 := (hf1.mono (fun _ _ hb => .inl hb)).trans (hf2.mono (fun _ _ hb => .inr hb)) (fun _ _ hb => hb)
  have st : Step (fun t => t = .log ∨ t = .spt) w o w2 o := ⟨fun _ _ => rfl, fun b hb => h.fresh b (Nat.le_trans hff.size hb), hff.mono (fun b _ hb => by
    rcases hb with (hb | hb) | hb
    · rw [hb]; exact .inl hl1
    · rw [hb]; exact .inl hl2
    · rw [hb]; exact .inr hso)⟩
  have n1 : L.gl ≠ L.gs := fun e => by rw [e, hso] at hl1; cases hl1
  have n2 : gb ≠ L.gs := fun e => by rw [e, hso] at hl2; cases hl2
  refine ⟨h.log' st ⟨gb, hL1.fr hf2 n1 n2, hl1, hl2⟩ ⟨allS s data, hs2, good_all data s hsg, ?_, hso⟩, st.mono (fun t ht => by rcases ht with ht | ht <;> rw [ht] <;> simp)⟩
  have := row_all data s
  rw [List.length_append]
  omega
set_option maxRecDepth 100000 in
set_option maxHeartbeats 4000000 in
theorem boutput_calls (w : World) (L : Lay) (o : Own) (S : St) (data : List Int) (A : Option Addr) (cp : Nat) (h : Rep w L o S) (hw : WF S) (hl : S.log.length + data.length ≤ 8100) (hr : ReadsInt w .u8 A data.length data) (hA : ∀ ad, A = some ad → o ad.block = .no) :
    Calls Tryz.prog 39 #[.pointer (some ⟨L.bg, 0, none⟩), .slice A data.length cp] w (QL L o w (outputM S data).1 (.int .i64 (outputM S data).2)) := by
  have HR := Aside0.mk h
  have b14 : w.cell? ⟨L.bg, 14, none⟩ = some (.bool S.ended) := (blk_cell h.brk.1 14).trans rfl
  have hbg := blk_lt h.brk.1
  unfold outputM
  by_cases he : S.ended = true
  · rw [if_pos he]
    rw [he] at b14
    clear h hw he hl hr hA
    go_enter Tryz.func39, Tryz.ntmps39
    go_wp2
    go_returns
    exact ⟨L, o, rfl, HR.out, rfl, HR.out.step (Fr.refl _ _)⟩
  · rw [if_neg he]
    have he' : S.ended = false := by simpa using he
    rw [he'] at b14
    simp only
    clear he'
    have hwl := log_ok hw hl
    obtain ⟨S1, hS1⟩ : ∃ S1, S1 = { S with log := S.log ++ data } := ⟨_, rfl⟩
    obtain ⟨gb, hL, hl1, hl2⟩ := h.log
    obtain ⟨s, hs, hsg, hsr, hso⟩ := h.spt
    have hcb := cf_b hw
    have b8 : w.cell? ⟨L.bg, 8, none⟩ = some (.pointer (some ⟨L.gl, 0, none⟩)) := (blk_cell h.brk.1 8).trans rfl
    have happ : Calls Tryz.prog 64 #[.pointer (some ⟨L.gl, 0, none⟩), .slice A data.length cp] w fun e w1 => e = .returned (.bool true) ∧ IsR w1 L.gl gb (S.log ++ data) S.cf.a0.toNat ∧ Fr (fun i => i = L.gl ∨ i = gb) w w1 :=
      rappend_calls S.log data S.cf.a0.toNat L.gl gb A cp w hL (by omega) (by omega) (by omega) hr (fun ad e => ⟨fun e2 => (by have := hA ad e; rw [e2, hl1] at this; cases this), fun e2 => (by have := hA ad e; rw [e2, hl2] at this; cases this)⟩)
    have hnot : ¬ (fun i => i = L.gl ∨ i = gb) L.bg := fun e => by
      have h2 := h.brk.2
      rcases e with e | e
      · rw [e, hl1] at h2; cases h2
      · rw [e, hl2] at h2; cases h2
    have hput : ∀ w1, Fr (fun i => i = L.gl ∨ i = gb) w w1 → Calls Tryz.prog 65 #[.pointer (some ⟨L.gs, 0, none⟩), .slice A data.length cp] w1 fun e w2 => e = .returned (.tuple #[]) ∧ IsSpot w2 L.gs (allS s data) ∧ Fr (only L.gs) w1 w2 := fun w1 hF => by
      refine SpotW.put_calls s data A cp L.gs w1 (hF.blk hs (fun e => by
        rcases e with e | e
        · rw [e, hl1] at hso; cases hso
        · rw [e, hl2] at hso; cases hso)) hsg (by omega) (hF.reads hr (fun ad e hx => by
          have h2 := hA ad e
          rcases hx with hx | hx
          · rw [hx, hl1] at h2; cases h2
          · rw [hx, hl2] at h2; cases h2)) (fun _ ad e e2 => by have h2 := hA ad e; rw [e2, hso] at h2; cases h2)
    have hfin : ∀ w1 w2, IsR w1 L.gl gb (S.log ++ data) S.cf.a0.toNat → Fr (fun i => i = L.gl ∨ i = gb) w w1 → IsSpot w2 L.gs (allS s data) → Fr (only L.gs) w1 w2 → Rep w2 L o S1 ∧ Step (fun t => t ≠ .no) w o w2 o := fun w1 w2 q1 q2 q3 q4 => by
      rw [hS1]
      exact h.logq hL hl1 hl2 hsg hsr hso q1 q2 q3 q4
    rw [← hS1] at hwl ⊢
    have HAPP := Aside0.mk happ
    have HPUT := Aside0.mk hput
    have HFIN := Aside0.mk hfin
    have HWL := Aside0.mk hwl
    have HNOT := Aside0.mk hnot
    clear h hw he hl hr hA hwl hS1 hL hl1 hl2 hs hsg hsr hso hcb happ hnot hput hfin
    go_enter Tryz.func39, Tryz.ntmps39
    go_wp2_with (first | (go_at_call 64; refine HAPP.out.mono ?_; rintro e1 w1 ⟨rfl, hl1, hf1⟩; have hB1 := hf1.blk HR.out.brk.1 HNOT.out; have c9 : w1.cell? ⟨L.bg, 9, none⟩ = some (.pointer (some ⟨L.gs, 0, none⟩)) := (blk_cell hB1 9).trans rfl; have hbg1 := blk_lt hB1; have HL1 := Aside0.mk (And.intro hl1 hf1); clear hl1 hf1 hB1) | (go_at_call 65; refine (HPUT.out w1 HL1.out.2).mono ?_; rintro e2 w2 ⟨rfl, hs2, hf2⟩; have HR2 := Aside0.mk (HFIN.out w1 w2 HL1.out.1 HL1.out.2 hs2 hf2); clear hs2 hf2) | (go_at_call 62; refine (settle_calls w2 L o S1 HR2.out.1 HWL.out).mono ?_; rintro e3 w3 ⟨L3, o3, rfl, hr3, hb3, hst3⟩; have HR3 := Aside0.mk (And.intro hr3 (And.intro hb3 hst3)); clear hr3 hb3 hst3))
    go_returns
    exact ⟨L3, o3, rfl, HR3.out.1, HR3.out.2.1, HR2.out.2.trans HR3.out.2.2⟩

/-! ### what is to be seen -/
theorem bholder_calls (w : World) (L : Lay) (o : Own) (S : St) (h : Rep w L o S) :
    Calls Tryz.prog 21 #[.pointer (some ⟨L.bg, 0, none⟩)] w fun e w' => e = .returned (.int .i64 S.tb.holder) ∧ w' = w := by
  have b10 : w.cell? ⟨L.bg, 10, none⟩ = some (.pointer (some ⟨L.gt, 0, none⟩)) := (blk_cell h.brk.1 10).trans rfl
  have hbg := blk_lt h.brk.1
  obtain ⟨mb, qv, hT, _⟩ := h.tab
  have HT := Aside0.mk hT
  clear h hT
  go_enter Tryz.func21, Tryz.ntmps21
  go_wp2_with (go_at_call 34; refine (tholder_calls _ L.gt mb qv _ HT.out).mono ?_; rintro e1 w1 ⟨rfl, hw1⟩; have hw1 := hw1.symm; subst hw1)
  go_returns
  exact ⟨rfl, rfl⟩
theorem brole_calls (w : World) (L : Lay) (o : Own) (S : St) (i : Int) (h : Rep w L o S) (hi : (Lit.int .i64 i).wf = true) :
    Calls Tryz.prog 24 #[.pointer (some ⟨L.bg, 0, none⟩), .int .i64 i] w fun e w' => e = .returned (.tuple #[.int .i64 (S.tb.role i), .bool (S.tb.roles i).isSome]) ∧ w' = w := by
  have b10 : w.cell? ⟨L.bg, 10, none⟩ = some (.pointer (some ⟨L.gt, 0, none⟩)) := (blk_cell h.brk.1 10).trans rfl
  have hbg := blk_lt h.brk.1
  obtain ⟨mb, qv, hT, _⟩ := h.tab
  have HT := Aside0.mk hT
  clear h hT
  go_enter Tryz.func24, Tryz.ntmps24
  go_wp2_with (go_at_call 44; refine (trole_calls _ i L.gt mb qv _ HT.out hi).mono ?_; rintro e1 w1 ⟨rfl, hw1⟩; have hw1 := hw1.symm; subst hw1)
  go_returns
  exact ⟨rfl, rfl⟩
theorem busers_calls (w : World) (L : Lay) (o : Own) (S : St) (h : Rep w L o S) :
    Calls Tryz.prog 22 #[.pointer (some ⟨L.bg, 0, none⟩)] w fun e w' => ∃ v, e = .returned v ∧ w'.ownsRow w.heap.size 3 1 v S.tb.users.length (nums .i64 S.tb.users) ∧ Fr nope w w' := by
  have b10 : w.cell? ⟨L.bg, 10, none⟩ = some (.pointer (some ⟨L.gt, 0, none⟩)) := (blk_cell h.brk.1 10).trans rfl
  have hbg := blk_lt h.brk.1
  obtain ⟨mb, qv, hT, _⟩ := h.tab
  have HT := Aside0.mk hT
  clear h hT
  go_enter Tryz.func22, Tryz.ntmps22
  go_wp2_with (go_at_call 35; refine (tusers_calls _ L.gt mb qv _ HT.out).mono ?_; rintro e1 w1 ⟨v1, rfl, ho1, hf1⟩; have HO1 := Aside0.mk ho1; have HF1 := Aside0.mk hf1; clear ho1 hf1)
  go_returns
  exact ⟨_, rfl, HO1.out, HF1.out⟩
theorem bconns_calls (w : World) (L : Lay) (o : Own) (S : St) (h : Rep w L o S) :
    Calls Tryz.prog 25 #[.pointer (some ⟨L.bg, 0, none⟩)] w fun e w' => ∃ v, e = .returned v ∧ w'.ownsRow w.heap.size 3 1 v (idsL L.cp).length (nums .i64 (idsL L.cp)) ∧ Fr nope w w' := by
  have HIC := Aside0.mk (ids_calls w L h.map.1 h.brk.1 rfl)
  clear h
  go_enter Tryz.func25, Tryz.ntmps25
  go_wp2_with (go_at_call 45; refine HIC.out.mono ?_; rintro e1 w1 ⟨v1, rfl, ho1, hf1⟩; have HO1 := Aside0.mk ho1; have HF1 := Aside0.mk hf1; clear ho1 hf1)
  go_returns
  exact ⟨_, rfl, HO1.out, HF1.out⟩
end Go.Proofs.YtfkamoiamebngaaGreatDoor.BroW

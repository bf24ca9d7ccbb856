/- broker: Bytes. -/
import Derived.Test.YtfkamoiamebngaaGreatDoorM19
import Derived.Deep.DeepCutAuto
import Derived.Test.YtfkamoiamebngaaGreatDoorM18
import Derived.Test.YtfkamoiamebngaaGreatDoorM02
namespace Go.Proofs.YtfkamoiamebngaaGreatDoor.BroW
open Go.RowKit Go.Proofs.YtfkamoiamebngaaGreatDoorW.PrintWords Go.Proofs.YtfkamoiamebngaaGreatDoorW.PrintMore Go.Proofs.YtfkamoiamebngaaGreatDoor.Fr Go.Proofs.YtfkamoiamebngaaGreatDoor.ScrW Go.Proofs.YtfkamoiamebngaaGreatDoor.ScrP Go.Proofs.YtfkamoiamebngaaGreatDoor.Mod
set_option linter.unusedVariables false
set_option linter.unusedSimpArgs false

theorem fdpush_bad (fe : Int) (g : Nat) (v x : Value) (w : World) (h : w.heap[g]? = some (.cells #[v, .int .i64 fe] 147 (0, 0))) (hfe : fe ≠ 0) :
    Calls Tryz.prog 57 #[.pointer (some ⟨g, 0, none⟩), x] w fun e w' => e = .returned (.slice none 0 0) ∧ w' = w := by
  have c1 : w.cell? ⟨g, 1, none⟩ = some (.int .i64 fe) := (blk_cell h 1).trans rfl
  have hg := blk_lt h
  have t1 : (fe == 0) = false := beq_eq_false_iff_ne.2 hfe
  have t2 : (fe != 0) = true := by simp [bne, t1]
  clear h hfe
  go_enter Tryz.func57, Tryz.ntmps57
  go_wp2
  refine wp_scope_pass 0 (fun _ _ => False) (fun _ _ => 0) rfl ?pass ?first
  case pass => intro _ _ h; exact h.elim
  case first =>
    intro _
    go_wp2
    show Exit.jump _ _ _ Exit.ret _ _
    dsimp only [Exit.jump]
    change bodyPost Tryz.prog Tryz.f57 _ Exit.ret _ _
    go_returns
    exact ⟨rfl, rfl⟩
/-- the feed of a connection turns -/
theorem Rep.fdq {w w1 : World} {L : Lay} {o : Own} {S : St} (h : Rep w L o S) {i : Int} {g : Nat} (hg : L.cp i = some g) {c : Cn} {fg lg og : Nat} {vv : Value} (p0 : PCb w o i g (conCells i c fg lg og vv)) (p2 : PLx w o i lg c.lx) (p3 : POu w o i og c.out S.cf.a2) (p4 : PVw w o i vv c.vw)
    {v v1 : Value} {fb1 : List Int} {fe fe1 : Int} {fb : List Int} (hI : IsFd w fg v fb fe) (hof : o fg = .con i 1) (hv : ∀ b, tlB v b → o b = .con i 1) (hI1 : IsFd w1 fg v1 fb1 fe1) (hn : ∀ b, tlB v1 b → tlB v b ∨ w.heap.size ≤ b) (hf : Fr (fun b => b = fg ∨ tlB v b) w w1) :
    ∃ o', Rep w1 L o' (S.setc i (some { c with fb := fb1, fe := fe1 })) ∧ Step (fun t => t ≠ .no) w o w1 o' ∧ (∀ b, w.heap.size ≤ b → ¬ tlB v1 b → o' b = .no) := by
  have st : Step (fun t => t = .con i 1) w o w1 (tagN w o (.con i 1) (fun b => tlB v1 b)) :=
    step_tagN h.fresh (fun b hb => hI1.2.1.lt hb) (hf.mono (fun b _ hb => by
      rcases hb with hb | hb
      · rw [hb]; exact hof
      · exact hv b hb))
  have hof' : tagN w o (.con i 1) (fun b => tlB v1 b) fg = .con i 1 := (st.old fg (blk_lt hI.1)).trans hof
  refine ⟨_, h.con' hg (st.mono (fun t ht => ⟨1, ht⟩)) ?_, st.mono (fun t ht => by rw [ht]; simp), fun b hb hx => ?_⟩
  · exact ⟨fg, lg, og, vv, p0.ext st.loose (by simp), ⟨v1, hI1, hof', fun b hb => tagN_or (by
      rcases hn b hb with h1 | h1
      · exact .inl ⟨hI.2.1.lt h1, hv b h1⟩
      · exact .inr ⟨h1, hb⟩)⟩, p2.ext st.loose (by simp), p3.ext st.loose (by simp), p4.ext st.loose (by simp)⟩
  · unfold tagN
    rw [if_neg (fun h => hx h.2)]
    exact h.fresh b hb
theorem FrmsAt.mono {base : Nat} {N N1 : Nat → Prop} {W : World} {v : Value} {L : List (Frm × Value)} (h : FrmsAt base N W v L) (hn : ∀ i, i < W.heap.size → N i → N1 i) : FrmsAt base N1 W v L :=
  ⟨h.row, fun i hi => hn i (own_old h.row hi).2 (h.rowN i hi), fun p hp => (h.body p hp).mono (fun i hi => ⟨hi.1, hn i hi.1 hi.2.1, hi.2.2⟩)⟩
def frm0 : Frm × Value := ((0, []), .slice none 0 0)
theorem frs_at : ∀ (L : List (Frm × Value)) (j f : Nat), j < L.length → f < 2 → (frs L)[j * 2 + f]? = (frC (L.getD j frm0))[f]?
  | [], j, f, h, _ => by simp at h
  | e :: L, 0, f, _, hf => by
    have : frs (e :: L) = frC e ++ frs L := by simp [frs]
    rw [this, Nat.zero_mul, Nat.zero_add, List.getElem?_append_left (by simpa [frC] using hf)]
    rfl
  | e :: L, j + 1, f, h, hf => by
    have : frs (e :: L) = frC e ++ frs L := by simp [frs]
    rw [this, List.getElem?_append_right (by simp [frC]; omega), show (j + 1) * 2 + f - (frC e).length = j * 2 + f by simp [frC]; omega, frs_at L j f (by simpa using h) hf]
    rfl
/-- the cells of a frame in a row -/
theorem frCells {base : Nat} {N : Nat → Prop} {W : World} {v : Value} {L : List (Frm × Value)} (h : FrmsAt base N W v L) (k : Nat) (hk : k < L.length) (p : Frm × Value) (hp : L.getD k frm0 = p) :
    ∃ ad c, v = .slice (some ad) L.length c ∧ L.length ≤ 9223372036854775807 ∧ W.cell? (ad.add (k * 2)) = some (.int .u8 p.1.1) ∧ W.cell? ⟨(ad.add (k * 2)).block, (ad.add (k * 2)).off + 1, none⟩ = some p.2 := by
  have hrow := h.row
  obtain ⟨h1, h2⟩ := hrow
  rcases h2 with ⟨e, h0⟩ | ⟨g, cap, cur, e, hb, hh, hn, hm, r⟩
  · omega
  · have hc := World.ownsRow.cells (w := W) (base := base) (e := 50) (size := 2) (v := v) (n := L.length) (xs := frs L) h.row (g := g) (by rw [e]; rfl)
    have q0 := hc (k * 2) _ ((frs_at L k 0 hk (by decide)).trans rfl)
    have q1 := hc (k * 2 + 1) _ ((frs_at L k 1 hk (by decide)).trans rfl)
    rw [hp] at q0 q1
    refine ⟨⟨g, 0, none⟩, cap, e, by unfold maxLen at hm; omega, q0, ?_⟩
    rw [add_field _ _ _ (by decide)] at q1
    exact q1

/-- what lies between two frames -/
structure BytK (w : World) (L : Lay) (o0 : Own) (b0 : Nat) (N : Nat → Prop) (vf : Value) (Lf : List (Frm × Value)) (o : Own) (S : St) (W : World) : Prop where
  rep : Rep W L o S
  wf : WF S
  st : Step (fun t => t ≠ .no) w o0 W o
  fr : FrmsAt b0 N W vf Lf
  no : ∀ b, N b → b < W.heap.size ∧ o b = .no
theorem BytK.go {w W W2 : World} {L : Lay} {o0 o o2 : Own} {b0 : Nat} {N : Nat → Prop} {vf : Value} {Lf : List (Frm × Value)} {S S2 : St} (h : BytK w L o0 b0 N vf Lf o S W) (hr : Rep W2 L o2 S2) (hw : WF S2) (hs : Step (fun t => t ≠ .no) W o W2 o2) : BytK w L o0 b0 N vf Lf o2 S2 W2 :=
  ⟨hr, hw, h.st.trans hs, h.fr.fr hs.fr (fun i hi hx => hx (h.no i hi).2), fun b hb => ⟨Nat.lt_of_lt_of_le (h.no b hb).1 hs.fr.size, (hs.old b (h.no b hb).1).trans (h.no b hb).2⟩⟩
theorem framesM_cons (f : Frm) (l : List Frm) (S : St) (i : Int) : framesM (f :: l) S i = framesM l (if S.stOf i = 2 then S else turned (messageM S i f)) i := rfl

set_option maxRecDepth 100000 in
set_option maxHeartbeats 8000000 in
theorem bbytes_calls (w : World) (L : Lay) (o : Own) (S : St) (i : Int) (data : List Int) (A : Option Addr) (cp : Nat) (h : Rep w L o S) (hw : WF S) (hi : (Lit.int .i64 i).wf = true) (hl : data.length ≤ 5000) (hr : ReadsInt w .u8 A data.length data) (hb : isB data) (hA : ∀ ad, A = some ad → o ad.block = .no) :
    Calls Tryz.prog 37 #[.pointer (some ⟨L.bg, 0, none⟩), .int .i64 i, .slice A data.length cp] w (QL L o w (bytesM S i data).1 (.int .i64 (bytesM S i data).2)) := by
  have HR := Aside0.mk h
  have b12 : w.cell? ⟨L.bg, 12, none⟩ = some (.map (some L.mc)) := (blk_cell h.brk.1 12).trans rfl
  have hbg := blk_lt h.brk.1
  unfold bytesM
  cases hc : S.cn i with
  | none =>
    simp only
    have hlk := h.lookN hi (h.cpN hc)
    clear h hw hc hl hr hb hA
    go_enter Tryz.func37, Tryz.ntmps37
    go_wp2
    go_returns
    exact ⟨L, o, rfl, HR.out, rfl, HR.out.step (Fr.refl _ _)⟩
  | some c =>
    simp only
    obtain ⟨g, hg, fg, lg, og, vv, p0, ⟨v, hI, hof, hvt⟩, p2, p3, p4⟩ := h.conOf hc
    have hlk := h.look hg
    have g1 : w.cell? ⟨g, 1, none⟩ = some (.int .i64 c.st) := (blk_cell p0.1 1).trans rfl
    have hgl := blk_lt p0.1
    by_cases h2 : c.st = 2
    · rw [if_pos h2]
      rw [h2] at g1
      clear h hw hc hl hr hb hA hg p0 hI hof hvt p2 p3 p4 h2
      go_enter Tryz.func37, Tryz.ntmps37
      go_wp2
      go_returns
      exact ⟨L, o, rfl, HR.out, rfl, HR.out.step (Fr.refl _ _)⟩
    · rw [if_neg h2]
      have t1 : (c.st == 2) = false := beq_eq_false_iff_ne.2 h2
      have hwc := (hw.con i c hc).2.2
      obtain ⟨id2, hid2⟩ : ∃ x, x = if data = [] then c.idle else 0 := ⟨_, rfl⟩
      rw [← hid2]
      obtain ⟨fs, fb1, fe1, hfp⟩ : ∃ fs fb1 fe1, feedPush c.fb c.fe data = (fs, fb1, fe1) := ⟨_, _, _, rfl⟩
      have hfok := feed_ok hw hc hb id2
      have hfrs := feedPush_frames c.fb c.fe data hwc.fb.2 hb
      rw [hfp] at hfok hfrs ⊢
      simp only at hfok hfrs ⊢
      obtain ⟨S1, hS1⟩ : ∃ S1, S1 = S.setc i (some { c with idle := id2, fb := fb1, fe := fe1 }) := ⟨_, rfl⟩
      rw [← hS1] at hfok ⊢
      have hfe1 : (S1.cn i).map Cn.fe = some fe1 := by rw [hS1]; unfold St.setc; simp
      have g3 : w.cell? ⟨g, 3, none⟩ = some (.int .i64 c.idle) := (blk_cell p0.1 3).trans rfl
      have f3 := blk_frozen p0.1 3
      have g4 : w.cell? ⟨g, 4, none⟩ = some (.pointer (some ⟨fg, 0, none⟩)) := (blk_cell p0.1 4).trans rfl
      -- the idle time, then the feed
      have hpush : ∀ W, Fr (only g) w W → W.heap[g]? = some (.cells (conCells i { c with st := c.st, name := c.name, idle := id2 } fg lg og vv) 121 (0, 0)) →
          Calls Tryz.prog 57 #[.pointer (some ⟨fg, 0, none⟩), .slice A data.length cp] W fun e w1 => ∃ vf Lf o1 N b0, e = .returned vf ∧ Lf.map Prod.fst = fs ∧ BytK w L o b0 N vf Lf o1 S1 w1 := fun W hF hB => by
        have hc1 := h.conC hg p0 ⟨v, hI, hof, hvt⟩ p2 p3 p4 c.st c.name id2 hB hF
        have st1 := hc1.2
        have stl : Step (fun t => t = .con i 0) w o W o := ⟨fun _ _ => rfl, st1.new, hF.mono (fun b _ hb => by rw [show b = g from hb]; exact p0.2)⟩
        have hIW : IsFd W fg v c.fb c.fe := ⟨hF.blk hI.1 (fun e => by have h2 := p0.2; rw [← show fg = g from e, hof] at h2; cases h2), hI.2.1.fr hF (fun b hb e => by have h2 := hvt b hb; rw [show b = g from e, p0.2] at h2; cases h2), hI.2.2⟩
        have hrW : ReadsInt W .u8 A data.length data := hF.reads hr (fun ad e e2 => by have h2 := hA ad e; rw [show ad.block = g from e2, p0.2] at h2; cases h2)
        have p0' : PCb W o i g (conCells i { c with st := c.st, name := c.name, idle := id2 } fg lg og vv) := ⟨hB, p0.2⟩
        by_cases hfe : c.fe = 0
        · rw [hfe] at hIW hfp
          have := fdpush_calls c.fb data fg v A cp W hIW (by have := hwc.fb.1; omega) hl hwc.fb.2 hb hrW
          refine this.mono ?_
          rintro e w1 ⟨v1, v2, Lf, rfl, hLf, hI1, hFA, hn1, hf1⟩
          rw [hfp] at hLf hI1
          simp only at hLf hI1
          obtain ⟨o1, r1, s1, n1⟩ := hc1.1.fdq hg p0' (p2.ext stl.loose (by simp)) (p3.ext stl.loose (by simp)) (p4.ext stl.loose (by simp)) hIW hof hvt hI1 hn1 hf1
          rw [setc_setc] at r1
          rw [show S.setc i (some { c with st := c.st, name := c.name, idle := id2, fb := fb1, fe := fe1 }) = S1 from hS1.symm] at r1
          exact ⟨v2, Lf, o1, fun b => b < w1.heap.size ∧ o1 b = .no, W.heap.size, rfl, hLf, r1, hfok.1, st1.trans s1, hFA.mono (fun b hb hx => ⟨hb, n1 b hx.1 hx.2⟩), fun b hb => hb⟩
        · have hfp2 : fs = [] ∧ fb1 = c.fb ∧ fe1 = c.fe := by
            unfold feedPush at hfp
            rw [if_neg hfe] at hfp
            cases hfp
            exact ⟨rfl, rfl, rfl⟩
          refine (fdpush_bad c.fe fg v _ W hIW.1 hfe).mono ?_
          rintro e w1 ⟨rfl, hw1⟩
          have hw1 := hw1.symm
          subst hw1
          have r1 := hc1.1
          rw [show S.setc i (some { c with st := c.st, name := c.name, idle := id2 }) = S1 by rw [hS1, hfp2.2.1, hfp2.2.2]] at r1
          exact ⟨_, [], o, fun _ => False, 0, rfl, hfp2.1.symm, r1, hfok.1, st1, ⟨World.ownsRow_nil _ _ _ _, fun i hi => (by cases hi), fun p hp => (by cases hp)⟩, fun b hb => hb.elim⟩
      have HPUSH := Aside0.mk hpush
      have HB0 := Aside0.mk p0.1
      have HW1 := Aside0.mk hfok.1
      have HFE := Aside0.mk hfe1
      have HFRS := Aside0.mk hfrs
      have HG := Aside0.mk hg
      have HID := Aside0.mk hid2
      have hdl : data.length ≤ 5000 := hl
      clear h hw hc hg p0 hI hof hvt p2 p3 p4 h2 hwc hid2 hfp hfok hfrs hS1 hfe1 hpush hr hb hA hl
      obtain ⟨SF, hSF⟩ : ∃ SF, SF = framesM fs S1 i := ⟨_, rfl⟩
      have hwf : WF SF := by rw [hSF]; exact (frames_ok fs S1 i HW1.out).1
      have hfef : (SF.cn i).map Cn.fe = some fe1 := by rw [hSF, frames_fs fs S1 i i]; exact HFE.out
      obtain ⟨SE, hSE⟩ : ∃ SE, SE = if SF.stOf i = 2 ∨ fe1 = 0 then SF else shut SF i 1 := ⟨_, rfl⟩
      rw [← hSF, ← hSE]
      have HSF := Aside0.mk hSF
      have HSE := Aside0.mk hSE
      have HWF := Aside0.mk hwf
      have HFEF := Aside0.mk hfef
      clear hSF hSE hwf hfef
      go_enter Tryz.func37, Tryz.ntmps37
      go_upto_if 25 with fail
      go_cut [] (fun wx => Aside0 (Fr (only g) w wx ∧ wx.heap[g]? = some (.cells (conCells i { c with st := c.st, name := c.name, idle := id2 } fg lg og vv) 121 (0, 0))))
      case first =>
        by_cases hd0 : data.length = 0
        · have hdn : data = [] := List.eq_nil_of_length_eq_zero hd0
          have t5 : ¬ 0 < data.length := by omega
          have hid : id2 = c.idle := by rw [HID.out, if_pos hdn]
          have HX : Aside0 (Fr (only g) w w ∧ w.heap[g]? = some (.cells (conCells i { c with st := c.st, name := c.name, idle := id2 } fg lg og vv) 121 (0, 0))) := ⟨Fr.refl _ _, by rw [hid]; exact HB0.out⟩
          clear hd0 hdn hid
          go_wp2
          go_meet
          exact HX
        · have hdn : ¬ data = [] := fun e => hd0 (by rw [e]; rfl)
          have t5 : 0 < data.length := by omega
          have hid : id2 = 0 := by rw [HID.out, if_neg hdn]
          have HX : Aside0 (Fr (only g) w (w.setCell ⟨g, 3, none⟩ (.int .i64 0)) ∧ (w.setCell ⟨g, 3, none⟩ (.int .i64 0)).heap[g]? = some (.cells (conCells i { c with st := c.st, name := c.name, idle := id2 } fg lg og vv) 121 (0, 0))) := ⟨(Fr.refl (only g) w).set (fun _ => rfl) 3 _, by rw [hid]; exact blk_set HB0.out 3 _⟩
          clear hd0 hdn hid
          go_wp2
          go_meet
          exact HX
      case rest =>
        have HX := hcut
        have c4 : wc.cell? ⟨g, 4, none⟩ = some (.pointer (some ⟨fg, 0, none⟩)) := (blk_cell HX.out.2 4).trans rfl
        have hgl4 := blk_lt HX.out.2
        clear g1 g3 f3 g4 hgl hlk b12 hbg
        go_wp2_with (go_at_call 57; refine (HPUSH.out _ HX.out.1 HX.out.2).mono ?_; rintro e1 w1 ⟨vf, Lf, o1, N, b0, rfl, hLf, hk1⟩; have hv := own_slice hk1.fr.row; obtain ⟨Af, cf, rfl⟩ := hv; have HLF := Aside0.mk hLf; have HK1 := Aside0.mk hk1; clear hLf hk1)
        go_loopw [36] (fun v36 wr => ∃ (k : Nat) (o3 : Own) (S3 : St), v36 = .int .i64 k ∧ k ≤ Lf.length ∧ Aside0 (SF = framesM (fs.drop k) S3 i) ∧ Aside0 (BytK w L o b0 N (.slice Af Lf.length cf) Lf o3 S3 wr)) (fun v36 _ => Lf.length - (intOf v36).toNat)
        case atStart => exact ⟨0, o1, S1, rfl, Nat.zero_le _, ⟨by rw [HSF.out]; rfl⟩, HK1⟩
        case round =>
          obtain ⟨k, o3, S3, rfl, hk, HS3, HK3⟩ := hrel
          by_cases hlt : k < Lf.length
          · obtain ⟨p, hp⟩ : ∃ p, Lf.getD k frm0 = p := ⟨_, rfl⟩
            obtain ⟨ad, cc, ev, hcc, q0, q1⟩ := frCells HK3.out.fr k hlt p hp
            have hmem : p ∈ Lf := by rw [← hp, List.getD_eq_getElem?_getD, List.getElem?_eq_getElem hlt]; exact List.getElem_mem hlt
            have hpk : fs.drop k = p.1 :: fs.drop (k + 1) := by
              rw [← HLF.out]
              have hlt2 : k < (Lf.map Prod.fst).length := by rw [List.length_map]; exact hlt
              rw [List.drop_eq_getElem_cons hlt2, List.getElem_map]
              rw [show Lf[k] = p by rw [← hp, List.getD_eq_getElem?_getD, List.getElem?_eq_getElem hlt]; rfl]
            have hpf := HFRS.out p.1 (by rw [← HLF.out]; exact List.mem_map.2 ⟨p, hmem, rfl⟩)
            obtain ⟨Ab, cb, evb, b1, b2, b3, b4⟩ := HK3.out.fr.body p hmem
            rw [evb] at q1
            injection ev with ev1 _ ev3
            cases ev1
            subst ev3
            have he := HS3.out
            rw [hpk, framesM_cons] at he
            have hst3 := HK3.out.rep.stOf HG.out
            have g31 := hst3.1
            have hg3l := hst3.2
            have hcl : cb ≤ 9223372036854775807 := by unfold maxLen at b2; omega
            have hkl : (k : Int) < (Lf.length : Int) := by omega
            have hk0 : (0 : Int) ≤ (k : Int) := by omega
            have hwk : IntKind.i64.wrap ((k : Int) + 1) = (k : Int) + 1 := by rw [IntKind.wrap_i64]; omega
            have hadl := World.block_lt_of_cell? _ _ q0
            by_cases hst : S3.stOf i = 2
            · rw [if_pos hst] at he
              rw [hst] at g31
              have HE := Aside0.mk he
              clear hp hcc hmem hpk hpf evb b1 b2 b3 b4 he hst3 hst
              go_wp2
              go_roundw
              case rel => exact ⟨k + 1, o3, S3, by push_cast; rfl, hlt, HE, ⟨HK3.out.go (HK3.out.rep.quiet ((Fr.refl nope wr).alloc _)) HK3.out.wf (HK3.out.rep.step ((Fr.refl nope wr).alloc _))⟩⟩
              case measure => simp only [intOf]; omega
            · rw [if_neg hst] at he
              have t6 : (S3.stOf i == 2) = false := beq_eq_false_iff_ne.2 hst
              have t7 : (S3.stOf i != 2) = true := by simp [bne, t6]
              have HE := Aside0.mk he
              have hmc : ∀ W, Fr nope wr W → Calls Tryz.prog 58 #[.pointer (some ⟨L.bg, 0, none⟩), .pointer (some ⟨g, 0, none⟩), .agg #[.int .u8 p.1.1, .slice Ab p.1.2.length cb]] W (QB L o3 W (messageM S3 i p.1) (.tuple #[])) := fun W hF =>
                message_calls W L o3 S3 i g p.1 Ab cb (HK3.out.rep.quiet hF) HK3.out.wf HG.out hst ⟨hpf.2.2.1, hpf.2.2.2⟩ hpf.2.1 b1 hcl (hF.reads b3 (fun _ _ h => h)) hpf.1
              have HMC := Aside0.mk hmc
              have HMW := Aside0.mk (message_ok HK3.out.wf i p.1).1
              obtain ⟨sv, hsv⟩ : ∃ y, y = S3.stOf i := ⟨_, rfl⟩
              rw [← hsv] at g31 t6 t7
              clear hp hcc hmem hpk hpf evb b1 b2 b3 b4 he hst3 hst hmc hsv
              go_wp2_with (first | (go_at_call 58; refine (HMC.out _ ((Fr.refl nope wr).alloc _)).mono ?_; rintro e5 w5 ⟨o5, rfl, hr5, hst5⟩; have HR5 := Aside0.mk hr5; have HST5 := Aside0.mk ((HK3.out.rep.step ((Fr.refl nope wr).alloc _)).trans hst5); clear hr5 hst5) | (go_at_call 59; refine (turned_calls w5 L o5 _ HR5.out HMW.out).mono ?_; rintro e6 w6 ⟨o6, rfl, hr6, hst6⟩; have HR6 := Aside0.mk hr6; have HST6 := Aside0.mk hst6; clear hr6 hst6))
              have HFI : Aside0 (BytK w L o b0 N (.slice (some ad) Lf.length cf) Lf o6 (turned (messageM S3 i p.1)) w6) := ⟨HK3.out.go HR6.out (turned_wf HMW.out).1 (HST5.out.trans HST6.out)⟩
              go_roundw
              case rel => exact ⟨k + 1, o6, _, by push_cast; rfl, hlt, HE, HFI⟩
              case measure => simp only [intOf]; omega
          · have hkn : k = Lf.length := by omega
            have hS3 : S3 = SF := by
              have := HS3.out
              rw [hkn, ← HLF.out, ← List.length_map (f := Prod.fst), List.drop_length] at this
              exact this.symm
            have hlt2 : ¬ (k : Int) < (Lf.length : Int) := by omega
            have hk9 := HK3.out
            rw [hS3] at hk9
            have HK9 := Aside0.mk hk9
            obtain ⟨cF, hcF, fgF, lgF, ogF, vvF, r0, ⟨vF, hIF, _⟩, _⟩ := hk9.rep.cnOf HG.out
            have hst3 := hk9.rep.stOf HG.out
            have hfeq : cF.fe = fe1 := by have := HFEF.out; rw [hcF] at this; simpa using this
            rw [hfeq] at hIF
            have g31 := hst3.1
            have hg3l := hst3.2
            have g34 : wr.cell? ⟨g, 4, none⟩ = some (.pointer (some ⟨fgF, 0, none⟩)) := (blk_cell r0.1 4).trans rfl
            have HIF := Aside0.mk hIF.1
            have hse := HSE.out
            clear hkn hlt hS3 hk9 r0 hIF hst3 hcF hfeq
            by_cases hst : SF.stOf i = 2
            · rw [if_pos (.inl hst)] at hse
              rw [hst] at g31
              have HSE2 := Aside0.mk hse
              have hcs := settle_calls wr L o3 SF HK9.out.rep HWF.out
              have HCS := Aside0.mk hcs
              clear hst hse hcs
              go_wp2_with (go_at_call 62; refine HCS.out.mono ?_; rintro e7 w7 ⟨L7, o7, rfl, hr7, hb7, hst7⟩; have HR7 := Aside0.mk (And.intro hr7 (And.intro hb7 hst7)); clear hr7 hb7 hst7)
              go_returns
              rw [HSE2.out]
              exact ⟨L7, o7, rfl, HR7.out.1, HR7.out.2.1, HK9.out.st.trans HR7.out.2.2⟩
            · have t6 : (SF.stOf i == 2) = false := beq_eq_false_iff_ne.2 hst
              have t7 : (SF.stOf i != 2) = true := by simp [bne, t6]
              obtain ⟨sv, hsv⟩ : ∃ y, y = SF.stOf i := ⟨_, rfl⟩
              rw [← hsv] at g31 t6 t7
              by_cases hfe : fe1 = 0
              · rw [if_pos (.inr hfe)] at hse
                have HSE2 := Aside0.mk hse
                have hcs := settle_calls wr L o3 SF HK9.out.rep HWF.out
                have HCS := Aside0.mk hcs
                rw [hfe] at HIF
                clear hst hse hcs hsv hfe
                go_wp2_with (first | (go_at_call 60; refine (fderr_calls fgF vF 0 _ HIF.out).mono ?_; rintro e6 w6 ⟨rfl, hw6⟩; subst hw6) | (go_at_call 62; refine HCS.out.mono ?_; rintro e7 w7 ⟨L7, o7, rfl, hr7, hb7, hst7⟩; have HR7 := Aside0.mk (And.intro hr7 (And.intro hb7 hst7)); clear hr7 hb7 hst7))
                go_returns
                rw [HSE2.out]
                exact ⟨L7, o7, rfl, HR7.out.1, HR7.out.2.1, HK9.out.st.trans HR7.out.2.2⟩
              · rw [if_neg (by rintro (e | e); exact hst e; exact hfe e)] at hse
                have HSE2 := Aside0.mk hse
                have t8 : (fe1 == 0) = false := beq_eq_false_iff_ne.2 hfe
                have t9 : (fe1 != 0) = true := by simp [bne, t8]
                have hcs := shut_calls wr L o3 SF i 1 g HK9.out.rep HWF.out HG.out
                have HCS := Aside0.mk hcs
                have HWS := Aside0.mk (shut_wf HWF.out i 1).1
                clear hst hse hcs hsv hfe
                go_wp2_with (first | (go_at_call 60; refine (fderr_calls fgF vF fe1 _ HIF.out).mono ?_; rintro e6 w6 ⟨rfl, hw6⟩; subst hw6) | (go_at_call 61; refine HCS.out.mono ?_; rintro e8 w8 ⟨o8, rfl, hr8, hst8⟩; have HR8 := Aside0.mk hr8; have HST8 := Aside0.mk hst8; clear hr8 hst8) | (go_at_call 62; refine (settle_calls w8 L o8 _ HR8.out HWS.out).mono ?_; rintro e7 w7 ⟨L7, o7, rfl, hr7, hb7, hst7⟩; have HR7 := Aside0.mk (And.intro hr7 (And.intro hb7 hst7)); clear hr7 hb7 hst7))
                go_returns
                rw [HSE2.out]
                exact ⟨L7, o7, rfl, HR7.out.1, HR7.out.2.1, (HK9.out.st.trans HST8.out).trans HR7.out.2.2⟩
end Go.Proofs.YtfkamoiamebngaaGreatDoor.BroW

/- broker: Connect. -/
namespace Go.Proofs.YtfkamoiamebngaaGreatDoor.BroW
open Go.RowKit Go.Proofs.YtfkamoiamebngaaGreatDoorW.PrintWords Go.Proofs.YtfkamoiamebngaaGreatDoorW.PrintMore Go.Proofs.YtfkamoiamebngaaGreatDoor.Fr Go.Proofs.YtfkamoiamebngaaGreatDoor.ScrW Go.Proofs.YtfkamoiamebngaaGreatDoor.ScrP Go.Proofs.YtfkamoiamebngaaGreatDoor.Mod Go.Proofs.YtfkamoiamebngaaGreatDoor.LexP Go.Proofs.YtfkamoiamebngaaGreatDoor.LexW
set_option linter.unusedVariables false
set_option linter.unusedSimpArgs false

/-- a connection comes -/
def Lay.add (L : Lay) (i : Int) (g : Nat) : Lay := { L with cp := fun j => if j = i then some g else L.cp j }
theorem Rep.add {w w1 w2 : World} {L : Lay} {o : Own} {S : St} (h : Rep w L o S) {i : Int} {fg lg og cg : Nat} (hf1 : Fr nope w w1) (q1 : w.heap.size ≤ fg) (q2 : fg < lg) (q3 : lg < og) (q4 : og < cg)
    (hcb : w1.heap[cg]? = some (.cells #[.int .i64 i, .int .i64 0, .string ⟨#[]⟩, .int .i64 0, .pointer (some ⟨fg, 0, none⟩), .pointer (some ⟨lg, 0, none⟩), .pointer (some ⟨og, 0, none⟩), .pointer none] 121 (0, 0)))
    (hfd : IsFd w1 fg (.slice none 0 0) [] 0) (hlx : IsLex w1 0 lg lex0 (.slice none 0 0)) (hou : IsQ w1 0 og [] S.cf.a2 (.slice none 0 0))
    (hm : MapAt w2 L.mc (upd (fun j => (L.cp j).map fun b => Value.pointer (some ⟨b, 0, none⟩)) i (some (.pointer (some ⟨cg, 0, none⟩))))) (hf2 : Fr (only L.mc) w1 w2) :
    ∃ o', Rep w2 (L.add i cg) o' (S.setc i (some cnNew)) ∧ Step (fun t => t ≠ .no) w o w2 o' := by
  have hmc := h.map.1.lt
  have hcl := blk_lt hcb
  have hff : Fr (only L.mc) w w2 := (frAny (S := only L.mc) hf1).trans hf2 (fun _ _ h => h)
  obtain ⟨o', ho'⟩ : ∃ o' : Own, o' = fun b => if b = cg then .con i 0 else if b = fg then .con i 1 else if b = lg then .con i 2 else if b = og then .con i 3 else o b := ⟨_, rfl⟩
  have t0 : o' cg = .con i 0 := by rw [ho']; simp
  have t1 : o' fg = .con i 1 := (congrFun ho' fg).trans ((if_neg (by omega)).trans (if_pos rfl))
  have t2 : o' lg = .con i 2 := (congrFun ho' lg).trans ((if_neg (by omega)).trans ((if_neg (by omega)).trans (if_pos rfl)))
  have t3 : o' og = .con i 3 := (congrFun ho' og).trans ((if_neg (by omega)).trans ((if_neg (by omega)).trans ((if_neg (by omega)).trans (if_pos rfl))))
  have told : ∀ b, b ≠ cg → b ≠ fg → b ≠ lg → b ≠ og → o' b = o b := fun b a1 a2 a3 a4 => (congrFun ho' b).trans ((if_neg a1).trans ((if_neg a2).trans ((if_neg a3).trans (if_neg a4))))
  have st : Step (fun t => t = .cmap) w o w2 o' := ⟨fun b hb => told b (by omega) (by omega) (by omega) (by omega), fun b hb => by
    have hs := hf2.size
    rw [told b (by omega) (by omega) (by omega) (by omega)]
    exact h.fresh b (by have := hff.size; omega), hff.mono (fun b _ hb => by rw [show b = L.mc from hb]; exact h.map.2)⟩
  have nmc : ∀ b, w.heap.size ≤ b → ¬ only L.mc b := fun b hb e => by have e : b = L.mc := e; omega
  refine ⟨o', ⟨lib_ext h.lib st.loose (by simp), st.new, h.brk.ext st.loose (by simp), ⟨?_, (st.old _ hmc).trans h.map.2⟩, h.log.ext st.loose (by simp), h.spt.ext st.loose (by simp), h.tab.ext st.loose (by simp), h.inp.ext st.loose (by simp), fun j => ?_⟩, st.mono (fun t ht => by rw [ht]; simp)⟩
  · have e : upd (fun j => (L.cp j).map fun b => Value.pointer (some ⟨b, 0, none⟩)) i (some (.pointer (some ⟨cg, 0, none⟩))) = fun j => ((L.add i cg).cp j).map fun b => Value.pointer (some ⟨b, 0, none⟩) := by
      funext j
      unfold upd Lay.add
      by_cases e : j = i <;> simp [e]
    rw [← e]
    exact hm
  · unfold Lay.add St.setc
    by_cases e : j = i
    · subst e
      simp only [if_pos rfl]
      refine .inr ⟨cg, cnNew, rfl, rfl, fg, lg, og, .pointer none, ⟨hf2.blk hcb (nmc cg (by omega)), t0⟩, ⟨.slice none 0 0, ⟨hf2.blk hfd.1 (nmc fg q1), hfd.2.1.fr hf2 (fun b hb => by obtain ⟨ad, n, c, e, _⟩ := hb; cases e), hfd.2.2⟩, t1, fun b hb => by obtain ⟨ad, n, c, e, _⟩ := hb; cases e⟩, ⟨.slice none 0 0, ⟨hf2.blk hlx.1 (nmc lg (by omega)), hf2.own hlx.2 (fun b hb => by cases hb)⟩, fun e => (by cases e), t2, fun b hb => by cases hb⟩, ⟨.slice none 0 0, hou.fr hf2 (nmc og (by omega)) (fun b hb => by cases hb), t3, fun b hb => by cases hb⟩, .inl ⟨rfl, rfl⟩⟩
    · simp only [if_neg e]
      exact (h.con j).ext st.loose (by simp)

set_option maxRecDepth 100000 in
set_option maxHeartbeats 4000000 in
theorem bconnect_calls (w : World) (L : Lay) (o : Own) (S : St) (i : Int) (h : Rep w L o S) (hw : WF S) (hi : (Lit.int .i64 i).wf = true) :
    Calls Tryz.prog 36 #[.pointer (some ⟨L.bg, 0, none⟩), .int .i64 i] w (QL L o w (connectM S i).1 (.int .i64 (connectM S i).2)) := by
  have HR := Aside0.mk h
  have b12 : w.cell? ⟨L.bg, 12, none⟩ = some (.map (some L.mc)) := (blk_cell h.brk.1 12).trans rfl
  have hbg := blk_lt h.brk.1
  unfold connectM
  by_cases h0 : i < 1
  · rw [if_pos (.inl h0)]
    have t1 : decide (i < 1) = true := decide_eq_true h0
    clear h hw
    go_enter Tryz.func36, Tryz.ntmps36
    go_wp2
    go_returns
    exact ⟨L, o, rfl, HR.out, rfl, HR.out.step (Fr.refl _ _)⟩
  have t1 : decide (i < 1) = false := decide_eq_false h0
  by_cases h1 : 16 < i
  · rw [if_pos (.inr h1)]
    have t2 : decide (16 < i) = true := decide_eq_true h1
    clear h hw
    go_enter Tryz.func36, Tryz.ntmps36
    go_wp2
    go_returns
    exact ⟨L, o, rfl, HR.out, rfl, HR.out.step (Fr.refl _ _)⟩
  have t2 : decide (16 < i) = false := decide_eq_false h1
  rw [if_neg (by omega)]
  cases hc : S.cn i with
  | some c =>
    rw [if_pos (by simp)]
    obtain ⟨g, hg, _⟩ := h.conOf hc
    have hlk := h.look hg
    clear h hw hc hg h0 h1
    go_enter Tryz.func36, Tryz.ntmps36
    go_wp2
    go_returns
    exact ⟨L, o, rfl, HR.out, rfl, HR.out.step (Fr.refl _ _)⟩
  | none =>
    rw [if_neg (by simp)]
    have hlk := h.lookN hi (h.cpN hc)
    have hcb := cf_b hw
    have HK : Aside0 (∀ w', Fr (only L.mc) w w' → w'.cell? ⟨L.bg, 12, none⟩ = some (.map (some L.mc)) ∧ w'.cell? ⟨L.bg, 2, none⟩ = some (.int .i64 S.cf.a2)) := ⟨fun w' hF => by
      have b1 := hF.blk h.brk.1 (fun e => by have h2 := h.brk.2; rw [show L.bg = L.mc from e, h.map.2] at h2; cases h2)
      exact ⟨(blk_cell b1 12).trans rfl, (blk_cell b1 2).trans rfl⟩⟩
    have hfeed : ∀ W, Calls Tryz.prog 54 #[] W fun e w' => ∃ fg, e = .returned (.pointer (some ⟨fg, 0, none⟩)) ∧ IsFd w' fg (.slice none 0 0) [] 0 ∧ W.heap.size ≤ fg ∧ Fr nope W w' := fun W => by
      refine (fdnew_calls W).mono ?_
      rintro e w' ⟨rfl, rfl⟩
      exact ⟨_, rfl, ⟨blk_new W _, isTl_nil _, fun hb => by obtain ⟨ad, n, c, e, _⟩ := hb; cases e⟩, Nat.le_refl _, (Fr.refl nope W).alloc _⟩
    have hlex : ∀ W, Calls Tryz.prog 55 #[] W fun e w' => ∃ lg, e = .returned (.pointer (some ⟨lg, 0, none⟩)) ∧ IsLex w' 0 lg lex0 (.slice none 0 0) ∧ W.heap.size ≤ lg ∧ Fr nope W w' := fun W => by
      refine (new_calls 0 W).mono ?_
      rintro e w' ⟨rfl, hl, hb⟩
      exact ⟨_, rfl, hl, Nat.le_refl _, Fr.of_below hb⟩
    have hoq : ∀ W, Calls Tryz.prog 56 #[.int .i64 S.cf.a2] W fun e w' => ∃ og, e = .returned (.pointer (some ⟨og, 0, none⟩)) ∧ IsQ w' 0 og [] S.cf.a2 (.slice none 0 0) ∧ W.heap.size ≤ og ∧ Fr nope W w' := fun W => by
      refine (qnew_calls S.cf.a2 0 W (by omega) (by omega)).mono ?_
      rintro e w' ⟨rfl, hq, hf⟩
      exact ⟨_, rfl, hq, Nat.le_refl _, hf⟩
    have hstore : ∀ W (cs : Array Value), Fr nope w W → ∃ W2, (Instr.mapUpdate 85 (.map (some L.mc)) (.int .i64 i) (.pointer (some ⟨W.heap.size, 0, none⟩))).run Tryz.prog (W.alloc (.cells cs 121)) = .ok () W2 ∧ MapAt W2 L.mc (upd (fun j => (L.cp j).map fun b => Value.pointer (some ⟨b, 0, none⟩)) i (some (.pointer (some ⟨W.heap.size, 0, none⟩)))) ∧ Fr (only L.mc) (W.alloc (.cells cs 121)) W2 := fun W cs hF =>
      (h.map.1.fr (hF.alloc _) (fun h => h)).store Tryz.underlying85 (by omega) (by omega) (d := .lit (.int .u64 (W.heap.size + 1))) (by simp [mpR])
    have HFEED := Aside0.mk hfeed
    have HLEX := Aside0.mk hlex
    have HOQ := Aside0.mk hoq
    have HSTORE := Aside0.mk hstore
    clear h hw hc hcb hfeed hlex hoq hstore h0 h1
    go_enter Tryz.func36, Tryz.ntmps36
    go_wp2
    go_region_held3 (fun w' => w'.cell? ⟨L.bg, 12, none⟩ = some (.map (some L.mc)) ∧ w'.cell? ⟨L.bg, 2, none⟩ = some (.int .i64 S.cf.a2))
      (first | exact HK.out _ (Fr.refl _ w).drew | exact HK.out _ HF3.out.2 | exact HK.out _ (frAny (HF3.out.1.alloc _)) | exact HK.out _ (frAny HF3.out.1) | exact HK.out _ (frAny HF2.out) | exact HK.out _ (frAny HF1.out) | fail)
      (first | (go_at_call 54; refine (HFEED.out _).mono ?_; rintro e1 w1 ⟨fg, rfl, hfd, hle1, hf1⟩; have HF1 := Aside0.mk ((Fr.refl nope w).drew.trans hf1 (fun _ _ h => h)); have HFD := Aside0.mk (And.intro hfd hle1); clear hfd hle1 hf1) | (go_at_call 55; refine (HLEX.out _).mono ?_; rintro e2 w2 ⟨lg, rfl, hlx, hle2, hf2⟩; have HF12 := Aside0.mk hf2; have HF2 := Aside0.mk (HF1.out.trans hf2 (fun _ _ h => h)); have HLX := Aside0.mk (And.intro hlx hle2); clear hlx hle2 hf2) | (go_at_call 56; refine (HOQ.out _).mono ?_; rintro e3 w3 ⟨og, rfl, hoq, hle3, hf3⟩; have hs3 := HSTORE.out w3 #[.int .i64 i, .int .i64 0, .string ⟨#[]⟩, .int .i64 0, .pointer (some ⟨fg, 0, none⟩), .pointer (some ⟨lg, 0, none⟩), .pointer (some ⟨og, 0, none⟩), .pointer none] (HF2.out.trans hf3 (fun _ _ h => h)); obtain ⟨W4, hs4, hM4, hF4⟩ := hs3; have HF23 := Aside0.mk hf3; have HF3 := Aside0.mk (And.intro (HF2.out.trans hf3 (fun _ _ h => h)) ((frAny (S := only L.mc) ((HF2.out.trans hf3 (fun _ _ h => h)).alloc (.cells #[.int .i64 i, .int .i64 0, .string ⟨#[]⟩, .int .i64 0, .pointer (some ⟨fg, 0, none⟩), .pointer (some ⟨lg, 0, none⟩), .pointer (some ⟨og, 0, none⟩), .pointer none] 121))).trans hF4 (fun _ _ h => h))); have HOQ3 := Aside0.mk (And.intro hoq hle3); have HM4 := Aside0.mk (And.intro hM4 hF4); clear hoq hle3 hf3 hM4 hF4) | fail)
    all_goals
      go_wp2
      go_returns
      have e1 := blk_lt HFD.out.1.1
      have e2 := blk_lt HLX.out.1.1
      have e3 := blk_lt HOQ3.out.1.1
      have l1 := HFD.out.2
      have l2 := HLX.out.2
      have l3 := HOQ3.out.2
      have z1 := HF1.out.size
      have z2 := HF12.out.size
      have z3 := HF23.out.size
      obtain ⟨o', r, s⟩ := HR.out.add (HF3.out.1.alloc _) l1 (by omega) (by omega) (by omega) (blk_new w3 _) (((HFD.out.1.1 |> fun hb => (⟨HF12.out.blk hb (fun h => h) |> fun hb => (HF23.out.alloc _).blk hb (fun h => h), (isTl_nil _), HFD.out.1.2.2⟩ : IsFd _ fg (.slice none 0 0) [] 0)))) ⟨(HF23.out.alloc _).blk HLX.out.1.1 (fun h => h), (HF23.out.alloc _).own HLX.out.1.2 (fun _ _ h => h)⟩ (HOQ3.out.1.fr ((Fr.refl nope w3).alloc _) (fun h => h) (fun _ _ h => h)) HM4.out.1 HM4.out.2
      exact ⟨_, o', rfl, r, rfl, s⟩
end Go.Proofs.YtfkamoiamebngaaGreatDoor.BroW

/- broker: New. -/
namespace Go.Proofs.YtfkamoiamebngaaGreatDoor.BroW
open Go.RowKit Go.Proofs.YtfkamoiamebngaaGreatDoorW.PrintWords Go.Proofs.YtfkamoiamebngaaGreatDoorW.PrintMore Go.Proofs.YtfkamoiamebngaaGreatDoor.Fr Go.Proofs.YtfkamoiamebngaaGreatDoor.ScrW Go.Proofs.YtfkamoiamebngaaGreatDoor.ScrP Go.Proofs.YtfkamoiamebngaaGreatDoor.Mod Go.Proofs.YtfkamoiamebngaaGreatDoor.SpotP Go.Proofs.YtfkamoiamebngaaGreatDoor.SpotW
set_option linter.unusedVariables false
set_option linter.unusedSimpArgs false

/-- a new broker in memory -/
theorem rep_new {w w2 : World} {o : Own} {c : Cf} {gl gb gs gt mb gi gq mc bg : Nat} (hlib : LibOK w ∧ ∀ i, libB i → o i = .no) (hfresh : ∀ b, w.heap.size ≤ b → o b = .no) (hcb : cfB c = true) (hf : Fr nope w w2)
    (hl : IsR w2 gl gb [] c.a0.toNat) (hs : IsSpot w2 gs (sp0 (wd c.a7))) (ht : IsTb w2 gt mb (.slice none 0 0) ⟨c.a5, 0, 0, [], fun _ => none⟩) (hi : IsI w2 gi gq (.slice none 0 0) [] c.a3 false) (hm : MapAt w2 mc (fun _ => none))
    (hb : w2.heap[bg]? = some (.cells #[.int .i64 c.a0, .int .i64 c.a1, .int .i64 c.a2, .int .i64 c.a3, .int .i64 c.a4, .int .i64 c.a5, .int .i64 c.a6, .int .i64 c.a7, .pointer (some ⟨gl, 0, none⟩), .pointer (some ⟨gs, 0, none⟩), .pointer (some ⟨gt, 0, none⟩), .pointer (some ⟨gi, 0, none⟩), .map (some mc), .int .i64 c.a4, .bool false, .int .i64 0, .int .i64 0] 87 (0, 0)))
    (hge : w.heap.size ≤ gl ∧ w.heap.size ≤ gb ∧ w.heap.size ≤ gs ∧ w.heap.size ≤ gt ∧ w.heap.size ≤ mb ∧ w.heap.size ≤ gi ∧ w.heap.size ≤ gq ∧ w.heap.size ≤ mc ∧ w.heap.size ≤ bg)
    (hd : ([gl, gb, gs, gt, mb, gi, gq, mc, bg] : List Nat).Nodup) :
    ∃ L o', L.bg = bg ∧ Rep w2 L o' (stNew c) ∧ Step (fun t => t ≠ .no) w o w2 o' := by
  obtain ⟨o', ho'⟩ : ∃ o' : Own, o' = fun b => if b = gl ∨ b = gb then .log else if b = gs then .spt else if b = gt ∨ b = mb then .tab else if b = gi ∨ b = gq then .inp else if b = mc then .cmap else if b = bg then .brk else o b := ⟨_, rfl⟩
  have told : ∀ b, (b < w.heap.size ∨ w2.heap.size ≤ b) → o' b = o b := fun b hx => by
    have l1 := blk_lt hb
    have l2 := hm.lt
    have l3 := ht.lt
    have l4 := blk_lt hs
    obtain ⟨_, k1, k2, _⟩ := hi
    have l5 := blk_lt k1
    have l6 := blk_lt k2.1
    obtain ⟨_, _, j1, j2, _⟩ := hl
    have l7 := blk_lt j1
    have l8 := blk_lt j2
    exact (congrFun ho' b).trans ((if_neg (by omega)).trans ((if_neg (by omega)).trans ((if_neg (by omega)).trans ((if_neg (by omega)).trans ((if_neg (by omega)).trans (if_neg (by omega)))))))
  simp only [List.nodup_cons, List.mem_cons, not_or, List.not_mem_nil, not_false_eq_true, List.nodup_nil, and_true] at hd
  obtain ⟨⟨n_gl_gb, n_gl_gs, n_gl_gt, n_gl_mb, n_gl_gi, n_gl_gq, n_gl_mc, n_gl_bg⟩, ⟨n_gb_gs, n_gb_gt, n_gb_mb, n_gb_gi, n_gb_gq, n_gb_mc, n_gb_bg⟩, ⟨n_gs_gt, n_gs_mb, n_gs_gi, n_gs_gq, n_gs_mc, n_gs_bg⟩, ⟨n_gt_mb, n_gt_gi, n_gt_gq, n_gt_mc, n_gt_bg⟩, ⟨n_mb_gi, n_mb_gq, n_mb_mc, n_mb_bg⟩, ⟨n_gi_gq, n_gi_mc, n_gi_bg⟩, ⟨n_gq_mc, n_gq_bg⟩, n_mc_bg⟩ := hd
  have t1 : o' gl = .log := (congrFun ho' gl).trans (if_pos (.inl rfl))
  have t2 : o' gb = .log := (congrFun ho' gb).trans (if_pos (.inr rfl))
  have t3 : o' gs = .spt := (congrFun ho' gs).trans ((if_neg (fun e => e.elim (fun e => n_gl_gs e.symm) (fun e => n_gb_gs e.symm))).trans (if_pos rfl))
  have t4 : o' gt = .tab := (congrFun ho' gt).trans ((if_neg (fun e => e.elim (fun e => n_gl_gt e.symm) (fun e => n_gb_gt e.symm))).trans ((if_neg (fun e => n_gs_gt e.symm)).trans (if_pos (.inl rfl))))
  have t5 : o' mb = .tab := (congrFun ho' mb).trans ((if_neg (fun e => e.elim (fun e => n_gl_mb e.symm) (fun e => n_gb_mb e.symm))).trans ((if_neg (fun e => n_gs_mb e.symm)).trans (if_pos (.inr rfl))))
  have t6 : o' gi = .inp := (congrFun ho' gi).trans ((if_neg (fun e => e.elim (fun e => n_gl_gi e.symm) (fun e => n_gb_gi e.symm))).trans ((if_neg (fun e => n_gs_gi e.symm)).trans ((if_neg (fun e => e.elim (fun e => n_gt_gi e.symm) (fun e => n_mb_gi e.symm))).trans (if_pos (.inl rfl)))))
  have t7 : o' gq = .inp := (congrFun ho' gq).trans ((if_neg (fun e => e.elim (fun e => n_gl_gq e.symm) (fun e => n_gb_gq e.symm))).trans ((if_neg (fun e => n_gs_gq e.symm)).trans ((if_neg (fun e => e.elim (fun e => n_gt_gq e.symm) (fun e => n_mb_gq e.symm))).trans (if_pos (.inr rfl)))))
  have t8 : o' mc = .cmap := (congrFun ho' mc).trans ((if_neg (fun e => e.elim (fun e => n_gl_mc e.symm) (fun e => n_gb_mc e.symm))).trans ((if_neg (fun e => n_gs_mc e.symm)).trans ((if_neg (fun e => e.elim (fun e => n_gt_mc e.symm) (fun e => n_mb_mc e.symm))).trans ((if_neg (fun e => e.elim (fun e => n_gi_mc e.symm) (fun e => n_gq_mc e.symm))).trans (if_pos rfl)))))
  have t9 : o' bg = .brk := (congrFun ho' bg).trans ((if_neg (fun e => e.elim (fun e => n_gl_bg e.symm) (fun e => n_gb_bg e.symm))).trans ((if_neg (fun e => n_gs_bg e.symm)).trans ((if_neg (fun e => e.elim (fun e => n_gt_bg e.symm) (fun e => n_mb_bg e.symm))).trans ((if_neg (fun e => e.elim (fun e => n_gi_bg e.symm) (fun e => n_gq_bg e.symm))).trans ((if_neg (fun e => n_mc_bg e.symm)).trans (if_pos rfl))))))
  have st : Step (fun _ => False) w o w2 o' := ⟨fun b hb => told b (.inl hb), fun b hb => (told b (.inr hb)).trans (hfresh b (Nat.le_trans hf.size hb)), hf.mono (fun _ _ h => h)⟩
  have hcb2 : 1 ≤ c.a7 ∧ c.a7 ≤ 500 := by unfold cfB at hcb; simp at hcb; omega
  refine ⟨⟨bg, gl, gs, gt, gi, mc, fun _ => none⟩, o', rfl, ⟨lib_ext hlib st.loose (fun h => h), st.new, ⟨hb, t9⟩, ⟨hm, t8⟩, ⟨gb, hl, t1, t2⟩, ⟨_, hs, ?_, Nat.le_refl _, t3⟩, ⟨mb, _, ht, t4, t5, fun b hb => by cases hb⟩, ⟨gq, _, hi, t6, t7, fun b hb => by cases hb⟩, fun i => .inl ⟨rfl, rfl⟩⟩, st.mono (fun t h => h.elim)⟩
  unfold SpGood sp0 wd
  simp only
  omega
set_option maxRecDepth 100000 in
set_option maxHeartbeats 16000000 in
theorem bnew_yes (c : Cf) (w : World) (o : Own) (hlib : LibOK w ∧ ∀ i, libB i → o i = .no) (hfresh : ∀ b, w.heap.size ≤ b → o b = .no) (hcb : cfB c = true) :
    Calls Tryz.prog 74 #[.agg #[.int .i64 c.a0, .int .i64 c.a1, .int .i64 c.a2, .int .i64 c.a3, .int .i64 c.a4, .int .i64 c.a5, .int .i64 c.a6, .int .i64 c.a7]] w fun e w' => ∃ L o', e = .returned (.pointer (some ⟨L.bg, 0, none⟩)) ∧ Rep w' L o' (stNew c) ∧ Step (fun t => t ≠ .no) w o w' o' := by
  have HLIB := Aside0.mk (And.intro hlib hfresh)
  have hb : 1 ≤ c.a0 ∧ c.a0 ≤ 65536 ∧ 1 ≤ c.a3 ∧ c.a3 ≤ 65536 ∧ 1 ≤ c.a5 ∧ c.a5 ≤ 1000 := by
    have := hcb
    unfold cfB at this
    simp at this
    omega
  have hring : ∀ W, Calls Tryz.prog 94 #[.int .i64 c.a0] W fun e w' => ∃ gl gb, e = .returned (.pointer (some ⟨gl, 0, none⟩)) ∧ Fr nope W w' ∧ IsR w' gl gb [] c.a0.toNat ∧ (W.heap.size ≤ gl ∧ gl < w'.heap.size) ∧ (W.heap.size ≤ gb ∧ gb < w'.heap.size) ∧ gl ≠ gb := fun W => by
    have := rnew_calls c.a0.toNat W (by omega) (by omega)
    rw [Int.toNat_of_nonneg (by omega)] at this
    refine this.mono ?_
    rintro e w' ⟨g, gb, rfl, hR, h1, h2, hf⟩
    have hR2 := hR
    obtain ⟨_, _, j1, j2, _⟩ := hR2
    exact ⟨g, gb, rfl, hf, hR, ⟨h1, blk_lt j1⟩, ⟨h2, blk_lt j2⟩, fun e => by rw [e, j2] at j1; injection j1 with j1; injection j1 with _ j1; exact absurd j1 (by decide)⟩
  have hspot : ∀ W, Calls Tryz.prog 95 #[.int .i64 c.a7] W fun e w' => ∃ gs, e = .returned (.pointer (some ⟨gs, 0, none⟩)) ∧ Fr nope W w' ∧ IsSpot w' gs (sp0 (wd c.a7)) ∧ W.heap.size ≤ gs ∧ gs < w'.heap.size := fun W => by
    refine (SpotW.new_calls c.a7 W).mono ?_
    rintro e w' ⟨rfl, hS, hb⟩
    exact ⟨_, rfl, Fr.of_below hb, hS, Nat.le_refl _, blk_lt hS⟩
  have hfloor : ∀ W, Calls Tryz.prog 96 #[.int .i64 c.a5] W fun e w' => ∃ gt mb, e = .returned (.pointer (some ⟨gt, 0, none⟩)) ∧ Fr nope W w' ∧ IsTb w' gt mb (.slice none 0 0) ⟨c.a5, 0, 0, [], fun _ => none⟩ ∧ W.heap.size ≤ mb ∧ mb < gt ∧ gt < w'.heap.size := fun W => by
    refine (tnew_calls c.a5 W (by omega) (by omega)).mono ?_
    rintro e w' ⟨rfl, hT, hf⟩
    exact ⟨_, _, rfl, hf, hT, Nat.le_refl _, by omega, hT.lt.1⟩
  have hinq : ∀ W, Calls Tryz.prog 97 #[.int .i64 c.a3] W fun e w' => ∃ gi gq, e = .returned (.pointer (some ⟨gi, 0, none⟩)) ∧ Fr nope W w' ∧ IsI w' gi gq (.slice none 0 0) [] c.a3 false ∧ (W.heap.size ≤ gi ∧ gi < w'.heap.size) ∧ (W.heap.size ≤ gq ∧ gq < w'.heap.size) ∧ gi ≠ gq := fun W => by
    refine (inew_calls c.a3 W (by omega) (by omega)).mono ?_
    rintro e w' ⟨gi, gq, rfl, hI, h1, h2, hf⟩
    have hI2 := hI
    obtain ⟨_, k1, k2, k3, _⟩ := hI2
    exact ⟨gi, gq, rfl, hf, hI, ⟨h1, blk_lt k1⟩, ⟨h2, blk_lt k2.1⟩, k3⟩
  have HRING := Aside0.mk hring
  have HSPOT := Aside0.mk hspot
  have HFLOOR := Aside0.mk hfloor
  have HINQ := Aside0.mk hinq
  have k3 := fun t w => run_makeMap (P := Tryz.prog) t w
  clear hlib hfresh hb hring hspot hfloor hinq
  go_enter Tryz.func74, Tryz.ntmps74
  go_wp2_with (first | (go_at_call 10; refine (confRight_calls c _).mono ?_; rintro e W0 ⟨rfl, hw1⟩; rw [hcb]; have HW1 := Aside0.mk hw1; clear hw1))
  have hF0 : Aside0 (Fr nope w W0) := ⟨((Fr.refl nope w).alloc _).below HW1.out⟩
  have hB : W0.heap[w.heap.size]? = some (.cells #[.int .i64 c.a0, .int .i64 c.a1, .int .i64 c.a2, .int .i64 c.a3, .int .i64 c.a4, .int .i64 c.a5, .int .i64 c.a6, .int .i64 c.a7] 23 (0, 0)) := blk_below (blk_new w _) HW1.out
  have HK : Aside0 (∀ w', Fr nope W0 w' → w'.cell? ⟨w.heap.size, 0, none⟩ = some (.int .i64 c.a0) ∧ w'.cell? ⟨w.heap.size, 1, none⟩ = some (.int .i64 c.a1) ∧ w'.cell? ⟨w.heap.size, 2, none⟩ = some (.int .i64 c.a2) ∧ w'.cell? ⟨w.heap.size, 3, none⟩ = some (.int .i64 c.a3) ∧ w'.cell? ⟨w.heap.size, 4, none⟩ = some (.int .i64 c.a4) ∧ w'.cell? ⟨w.heap.size, 5, none⟩ = some (.int .i64 c.a5) ∧ w'.cell? ⟨w.heap.size, 6, none⟩ = some (.int .i64 c.a6) ∧ w'.cell? ⟨w.heap.size, 7, none⟩ = some (.int .i64 c.a7)) := ⟨fun w' hF => by
    have b := hF.blk hB (fun h => h)
    exact ⟨(blk_cell b 0).trans rfl, (blk_cell b 1).trans rfl, (blk_cell b 2).trans rfl, (blk_cell b 3).trans rfl, (blk_cell b 4).trans rfl, (blk_cell b 5).trans rfl, (blk_cell b 6).trans rfl, (blk_cell b 7).trans rfl⟩⟩
  clear hB HW1
  go_region_held3 (fun w' => w'.cell? ⟨w.heap.size, 0, none⟩ = some (.int .i64 c.a0) ∧ w'.cell? ⟨w.heap.size, 1, none⟩ = some (.int .i64 c.a1) ∧ w'.cell? ⟨w.heap.size, 2, none⟩ = some (.int .i64 c.a2) ∧ w'.cell? ⟨w.heap.size, 3, none⟩ = some (.int .i64 c.a3) ∧ w'.cell? ⟨w.heap.size, 4, none⟩ = some (.int .i64 c.a4) ∧ w'.cell? ⟨w.heap.size, 5, none⟩ = some (.int .i64 c.a5) ∧ w'.cell? ⟨w.heap.size, 6, none⟩ = some (.int .i64 c.a6) ∧ w'.cell? ⟨w.heap.size, 7, none⟩ = some (.int .i64 c.a7))
    (first | exact HK.out _ (Fr.refl _ W0).drew | exact HK.out _ ((Fr.refl _ W0).alloc _).drew | exact HK.out _ HF1.out | exact HK.out _ (HF1.out.alloc _) | exact HK.out _ ((HF1.out.alloc _).alloc _) | exact HK.out _ HF2.out | exact HK.out _ (HF2.out.alloc _) | exact HK.out _ ((HF2.out.alloc _).alloc _) | exact HK.out _ HF3.out | exact HK.out _ (HF3.out.alloc _) | exact HK.out _ ((HF3.out.alloc _).alloc _) | exact HK.out _ HF4.out | exact HK.out _ (HF4.out.alloc _) | exact HK.out _ ((HF4.out.alloc _).alloc _) | fail)
    (first | (go_at_call 94; refine (HRING.out _).mono ?_; rintro e w1 ⟨gl, gb, rfl, hf, hq⟩; have HA1 := Aside0.mk (And.intro hf hq); have HF1 : Aside0 (Fr nope W0 w1) := Aside0.mk (by first | exact (Fr.refl nope W0).drew.trans hf (fun _ _ h => h) | exact ((Fr.refl nope W0).alloc _).drew.trans hf (fun _ _ h => h)); clear hf hq) | (go_at_call 95; refine (HSPOT.out _).mono ?_; rintro e w2 ⟨gs, rfl, hf, hq⟩; have HA2 := Aside0.mk (And.intro hf hq); have HF2 : Aside0 (Fr nope W0 w2) := Aside0.mk (by first | exact (Fr.refl nope W0).drew.trans hf (fun _ _ h => h) | exact ((Fr.refl nope W0).alloc _).drew.trans hf (fun _ _ h => h) | exact HF1.out.trans hf (fun _ _ h => h) | exact (HF1.out.alloc _).trans hf (fun _ _ h => h)); clear hf hq) | (go_at_call 96; refine (HFLOOR.out _).mono ?_; rintro e w3 ⟨gt, mb, rfl, hf, hq⟩; have HA3 := Aside0.mk (And.intro hf hq); have HF3 : Aside0 (Fr nope W0 w3) := Aside0.mk (by first | exact (Fr.refl nope W0).drew.trans hf (fun _ _ h => h) | exact ((Fr.refl nope W0).alloc _).drew.trans hf (fun _ _ h => h) | exact HF2.out.trans hf (fun _ _ h => h) | exact (HF2.out.alloc _).trans hf (fun _ _ h => h)); clear hf hq) | (go_at_call 97; refine (HINQ.out _).mono ?_; rintro e w4 ⟨gi, gq, rfl, hf, hq⟩; have HA4 := Aside0.mk (And.intro hf hq); have HF4 : Aside0 (Fr nope W0 w4) := Aside0.mk (by first | exact (Fr.refl nope W0).drew.trans hf (fun _ _ h => h) | exact ((Fr.refl nope W0).alloc _).drew.trans hf (fun _ _ h => h) | exact HF3.out.trans hf (fun _ _ h => h) | exact (HF3.out.alloc _).trans hf (fun _ _ h => h)); clear hf hq) | fail)
  all_goals
    go_wp2
    go_returns
    first
    | (have f1 : Fr nope W0 w1 := ((Fr.refl nope W0).alloc (.map #[] 0)).drew.trans HA1.out.1 (fun _ _ h => h)
       have f2 : Fr nope w1 w2 := (Fr.refl nope w1).trans HA2.out.1 (fun _ _ h => h)
       have f3 : Fr nope w2 w3 := (Fr.refl nope w2).trans HA3.out.1 (fun _ _ h => h)
       have f4 : Fr nope w3 w4 := (Fr.refl nope w3).trans HA4.out.1 (fun _ _ h => h)
       have f5 := ((Fr.refl nope w4).alloc (.cells #[.int .i64 c.a0, .int .i64 c.a1, .int .i64 c.a2, .int .i64 c.a3, .int .i64 c.a4, .int .i64 c.a5, .int .i64 c.a6, .int .i64 c.a7, .pointer (some ⟨gl, 0, none⟩), .pointer (some ⟨gs, 0, none⟩), .pointer (some ⟨gt, 0, none⟩), .pointer (some ⟨gi, 0, none⟩), .map (some W0.heap.size), .int .i64 c.a4, .bool false, .int .i64 0, .int .i64 0] 87))
       have f45 := (f4.trans f5 (fun _ _ h => h))
       have f345 := (f3.trans f45 (fun _ _ h => h))
       have f2345 := (f2.trans f345 (fun _ _ h => h))
       have fall := (f1.trans f2345 (fun _ _ h => h))
       have hmp := (mapAt_made W0).fr (((Fr.refl nope (W0.alloc (.map #[] 0))).drew.trans HA1.out.1 (fun _ _ h => h)).trans f2345 (fun _ _ h => h)) (fun h => h)
       have z1 := f1.size
       have z2 := f2.size
       have z3 := f3.size
       have z4 := f4.size
       have y1 := HA1.out.1.size
       have y2 := HA2.out.1.size
       have y3 := HA3.out.1.size
       have y4 := HA4.out.1.size
       have x1 := HA1.out.2.2.1
       have x2 := HA1.out.2.2.2.1
       have x3 := HA1.out.2.2.2.2
       have x4 := HA2.out.2.2.1
       have x5 := HA2.out.2.2.2
       have x6 := HA3.out.2.2
       have x7 := HA4.out.2.2.1
       have x8 := HA4.out.2.2.2.1
       have x9 := HA4.out.2.2.2.2
       simp only [World.size_alloc, drew_size] at y1 y2 y3 y4 x1 x2 x3 x4 x5 x6 x7 x8 x9
       have hrep := rep_new (o := o) (c := c) (gl := gl) (gb := gb) (gs := gs) (gt := gt) (mb := mb) (gi := gi) (gq := gq) HLIB.out.1 HLIB.out.2 hcb (hF0.out.trans fall (fun _ _ h => h)) (HA1.out.2.1.fr f2345 (fun h => h) (fun h => h)) (f345.blk HA2.out.2.1 (fun h => h)) (HA3.out.2.1.fr f45 (fun h => h) (fun h => h) (fun _ _ h => h)) (HA4.out.2.1.fr f5 (fun h => h) (fun h => h) (fun _ _ h => h)) hmp (blk_new _ _) (by have := hF0.out.size; refine ⟨?_, ?_, ?_, ?_, ?_, ?_, ?_, ?_, ?_⟩ <;> (try simp only [World.size_alloc]) <;> omega) (by simp only [List.nodup_cons, List.mem_cons, not_or, List.not_mem_nil, not_false_eq_true, List.nodup_nil, and_true, World.size_alloc]; refine ⟨⟨?_, ?_, ?_, ?_, ?_, ?_, ?_, ?_⟩, ⟨?_, ?_, ?_, ?_, ?_, ?_, ?_⟩, ⟨?_, ?_, ?_, ?_, ?_, ?_⟩, ⟨?_, ?_, ?_, ?_, ?_⟩, ⟨?_, ?_, ?_, ?_⟩, ⟨?_, ?_, ?_⟩, ⟨?_, ?_⟩, ?_⟩ <;> omega)
       obtain ⟨L, o2, hbg, hr, hs⟩ := hrep
       exact ⟨L, o2, by rw [hbg]; first | rfl | (simp [World.size_alloc]; done) | (simp [World.size_alloc] <;> rfl), hr, hs⟩)
    | (have f1 : Fr nope W0 w1 := (Fr.refl nope W0).drew.trans HA1.out.1 (fun _ _ h => h)
       have f2 : Fr nope w1 w2 := ((Fr.refl nope w1).alloc (.map #[] 0)).trans HA2.out.1 (fun _ _ h => h)
       have f3 : Fr nope w2 w3 := (Fr.refl nope w2).trans HA3.out.1 (fun _ _ h => h)
       have f4 : Fr nope w3 w4 := (Fr.refl nope w3).trans HA4.out.1 (fun _ _ h => h)
       have f5 := ((Fr.refl nope w4).alloc (.cells #[.int .i64 c.a0, .int .i64 c.a1, .int .i64 c.a2, .int .i64 c.a3, .int .i64 c.a4, .int .i64 c.a5, .int .i64 c.a6, .int .i64 c.a7, .pointer (some ⟨gl, 0, none⟩), .pointer (some ⟨gs, 0, none⟩), .pointer (some ⟨gt, 0, none⟩), .pointer (some ⟨gi, 0, none⟩), .map (some w1.heap.size), .int .i64 c.a4, .bool false, .int .i64 0, .int .i64 0] 87))
       have f45 := (f4.trans f5 (fun _ _ h => h))
       have f345 := (f3.trans f45 (fun _ _ h => h))
       have f2345 := (f2.trans f345 (fun _ _ h => h))
       have fall := (f1.trans f2345 (fun _ _ h => h))
       have hmp := (mapAt_made w1).fr (HA2.out.1.trans f345 (fun _ _ h => h)) (fun h => h)
       have z1 := f1.size
       have z2 := f2.size
       have z3 := f3.size
       have z4 := f4.size
       have y1 := HA1.out.1.size
       have y2 := HA2.out.1.size
       have y3 := HA3.out.1.size
       have y4 := HA4.out.1.size
       have x1 := HA1.out.2.2.1
       have x2 := HA1.out.2.2.2.1
       have x3 := HA1.out.2.2.2.2
       have x4 := HA2.out.2.2.1
       have x5 := HA2.out.2.2.2
       have x6 := HA3.out.2.2
       have x7 := HA4.out.2.2.1
       have x8 := HA4.out.2.2.2.1
       have x9 := HA4.out.2.2.2.2
       simp only [World.size_alloc, drew_size] at y1 y2 y3 y4 x1 x2 x3 x4 x5 x6 x7 x8 x9
       have hrep := rep_new (o := o) (c := c) (gl := gl) (gb := gb) (gs := gs) (gt := gt) (mb := mb) (gi := gi) (gq := gq) HLIB.out.1 HLIB.out.2 hcb (hF0.out.trans fall (fun _ _ h => h)) (HA1.out.2.1.fr f2345 (fun h => h) (fun h => h)) (f345.blk HA2.out.2.1 (fun h => h)) (HA3.out.2.1.fr f45 (fun h => h) (fun h => h) (fun _ _ h => h)) (HA4.out.2.1.fr f5 (fun h => h) (fun h => h) (fun _ _ h => h)) hmp (blk_new _ _) (by have := hF0.out.size; refine ⟨?_, ?_, ?_, ?_, ?_, ?_, ?_, ?_, ?_⟩ <;> (try simp only [World.size_alloc]) <;> omega) (by simp only [List.nodup_cons, List.mem_cons, not_or, List.not_mem_nil, not_false_eq_true, List.nodup_nil, and_true, World.size_alloc]; refine ⟨⟨?_, ?_, ?_, ?_, ?_, ?_, ?_, ?_⟩, ⟨?_, ?_, ?_, ?_, ?_, ?_, ?_⟩, ⟨?_, ?_, ?_, ?_, ?_, ?_⟩, ⟨?_, ?_, ?_, ?_, ?_⟩, ⟨?_, ?_, ?_, ?_⟩, ⟨?_, ?_, ?_⟩, ⟨?_, ?_⟩, ?_⟩ <;> omega)
       obtain ⟨L, o2, hbg, hr, hs⟩ := hrep
       exact ⟨L, o2, by rw [hbg]; first | rfl | (simp [World.size_alloc]; done) | (simp [World.size_alloc] <;> rfl), hr, hs⟩)
    | (have f1 : Fr nope W0 w1 := (Fr.refl nope W0).drew.trans HA1.out.1 (fun _ _ h => h)
       have f2 : Fr nope w1 w2 := (Fr.refl nope w1).trans HA2.out.1 (fun _ _ h => h)
       have f3 : Fr nope w2 w3 := ((Fr.refl nope w2).alloc (.map #[] 0)).trans HA3.out.1 (fun _ _ h => h)
       have f4 : Fr nope w3 w4 := (Fr.refl nope w3).trans HA4.out.1 (fun _ _ h => h)
       have f5 := ((Fr.refl nope w4).alloc (.cells #[.int .i64 c.a0, .int .i64 c.a1, .int .i64 c.a2, .int .i64 c.a3, .int .i64 c.a4, .int .i64 c.a5, .int .i64 c.a6, .int .i64 c.a7, .pointer (some ⟨gl, 0, none⟩), .pointer (some ⟨gs, 0, none⟩), .pointer (some ⟨gt, 0, none⟩), .pointer (some ⟨gi, 0, none⟩), .map (some w2.heap.size), .int .i64 c.a4, .bool false, .int .i64 0, .int .i64 0] 87))
       have f45 := (f4.trans f5 (fun _ _ h => h))
       have f345 := (f3.trans f45 (fun _ _ h => h))
       have f2345 := (f2.trans f345 (fun _ _ h => h))
       have fall := (f1.trans f2345 (fun _ _ h => h))
       have hmp := (mapAt_made w2).fr (HA3.out.1.trans f45 (fun _ _ h => h)) (fun h => h)
       have z1 := f1.size
       have z2 := f2.size
       have z3 := f3.size
       have z4 := f4.size
       have y1 := HA1.out.1.size
       have y2 := HA2.out.1.size
       have y3 := HA3.out.1.size
       have y4 := HA4.out.1.size
       have x1 := HA1.out.2.2.1
       have x2 := HA1.out.2.2.2.1
       have x3 := HA1.out.2.2.2.2
       have x4 := HA2.out.2.2.1
       have x5 := HA2.out.2.2.2
       have x6 := HA3.out.2.2
       have x7 := HA4.out.2.2.1
       have x8 := HA4.out.2.2.2.1
       have x9 := HA4.out.2.2.2.2
       simp only [World.size_alloc, drew_size] at y1 y2 y3 y4 x1 x2 x3 x4 x5 x6 x7 x8 x9
       have hrep := rep_new (o := o) (c := c) (gl := gl) (gb := gb) (gs := gs) (gt := gt) (mb := mb) (gi := gi) (gq := gq) HLIB.out.1 HLIB.out.2 hcb (hF0.out.trans fall (fun _ _ h => h)) (HA1.out.2.1.fr f2345 (fun h => h) (fun h => h)) (f345.blk HA2.out.2.1 (fun h => h)) (HA3.out.2.1.fr f45 (fun h => h) (fun h => h) (fun _ _ h => h)) (HA4.out.2.1.fr f5 (fun h => h) (fun h => h) (fun _ _ h => h)) hmp (blk_new _ _) (by have := hF0.out.size; refine ⟨?_, ?_, ?_, ?_, ?_, ?_, ?_, ?_, ?_⟩ <;> (try simp only [World.size_alloc]) <;> omega) (by simp only [List.nodup_cons, List.mem_cons, not_or, List.not_mem_nil, not_false_eq_true, List.nodup_nil, and_true, World.size_alloc]; refine ⟨⟨?_, ?_, ?_, ?_, ?_, ?_, ?_, ?_⟩, ⟨?_, ?_, ?_, ?_, ?_, ?_, ?_⟩, ⟨?_, ?_, ?_, ?_, ?_, ?_⟩, ⟨?_, ?_, ?_, ?_, ?_⟩, ⟨?_, ?_, ?_, ?_⟩, ⟨?_, ?_, ?_⟩, ⟨?_, ?_⟩, ?_⟩ <;> omega)
       obtain ⟨L, o2, hbg, hr, hs⟩ := hrep
       exact ⟨L, o2, by rw [hbg]; first | rfl | (simp [World.size_alloc]; done) | (simp [World.size_alloc] <;> rfl), hr, hs⟩)
    | (have f1 : Fr nope W0 w1 := (Fr.refl nope W0).drew.trans HA1.out.1 (fun _ _ h => h)
       have f2 : Fr nope w1 w2 := (Fr.refl nope w1).trans HA2.out.1 (fun _ _ h => h)
       have f3 : Fr nope w2 w3 := (Fr.refl nope w2).trans HA3.out.1 (fun _ _ h => h)
       have f4 : Fr nope w3 w4 := ((Fr.refl nope w3).alloc (.map #[] 0)).trans HA4.out.1 (fun _ _ h => h)
       have f5 := ((Fr.refl nope w4).alloc (.cells #[.int .i64 c.a0, .int .i64 c.a1, .int .i64 c.a2, .int .i64 c.a3, .int .i64 c.a4, .int .i64 c.a5, .int .i64 c.a6, .int .i64 c.a7, .pointer (some ⟨gl, 0, none⟩), .pointer (some ⟨gs, 0, none⟩), .pointer (some ⟨gt, 0, none⟩), .pointer (some ⟨gi, 0, none⟩), .map (some w3.heap.size), .int .i64 c.a4, .bool false, .int .i64 0, .int .i64 0] 87))
       have f45 := (f4.trans f5 (fun _ _ h => h))
       have f345 := (f3.trans f45 (fun _ _ h => h))
       have f2345 := (f2.trans f345 (fun _ _ h => h))
       have fall := (f1.trans f2345 (fun _ _ h => h))
       have hmp := (mapAt_made w3).fr (HA4.out.1.trans f5 (fun _ _ h => h)) (fun h => h)
       have z1 := f1.size
       have z2 := f2.size
       have z3 := f3.size
       have z4 := f4.size
       have y1 := HA1.out.1.size
       have y2 := HA2.out.1.size
       have y3 := HA3.out.1.size
       have y4 := HA4.out.1.size
       have x1 := HA1.out.2.2.1
       have x2 := HA1.out.2.2.2.1
       have x3 := HA1.out.2.2.2.2
       have x4 := HA2.out.2.2.1
       have x5 := HA2.out.2.2.2
       have x6 := HA3.out.2.2
       have x7 := HA4.out.2.2.1
       have x8 := HA4.out.2.2.2.1
       have x9 := HA4.out.2.2.2.2
       simp only [World.size_alloc, drew_size] at y1 y2 y3 y4 x1 x2 x3 x4 x5 x6 x7 x8 x9
       have hrep := rep_new (o := o) (c := c) (gl := gl) (gb := gb) (gs := gs) (gt := gt) (mb := mb) (gi := gi) (gq := gq) HLIB.out.1 HLIB.out.2 hcb (hF0.out.trans fall (fun _ _ h => h)) (HA1.out.2.1.fr f2345 (fun h => h) (fun h => h)) (f345.blk HA2.out.2.1 (fun h => h)) (HA3.out.2.1.fr f45 (fun h => h) (fun h => h) (fun _ _ h => h)) (HA4.out.2.1.fr f5 (fun h => h) (fun h => h) (fun _ _ h => h)) hmp (blk_new _ _) (by have := hF0.out.size; refine ⟨?_, ?_, ?_, ?_, ?_, ?_, ?_, ?_, ?_⟩ <;> (try simp only [World.size_alloc]) <;> omega) (by simp only [List.nodup_cons, List.mem_cons, not_or, List.not_mem_nil, not_false_eq_true, List.nodup_nil, and_true, World.size_alloc]; refine ⟨⟨?_, ?_, ?_, ?_, ?_, ?_, ?_, ?_⟩, ⟨?_, ?_, ?_, ?_, ?_, ?_, ?_⟩, ⟨?_, ?_, ?_, ?_, ?_, ?_⟩, ⟨?_, ?_, ?_, ?_, ?_⟩, ⟨?_, ?_, ?_, ?_⟩, ⟨?_, ?_, ?_⟩, ⟨?_, ?_⟩, ?_⟩ <;> omega)
       obtain ⟨L, o2, hbg, hr, hs⟩ := hrep
       exact ⟨L, o2, by rw [hbg]; first | rfl | (simp [World.size_alloc]; done) | (simp [World.size_alloc] <;> rfl), hr, hs⟩)
    | (have f1 : Fr nope W0 w1 := (Fr.refl nope W0).drew.trans HA1.out.1 (fun _ _ h => h)
       have f2 : Fr nope w1 w2 := (Fr.refl nope w1).trans HA2.out.1 (fun _ _ h => h)
       have f3 : Fr nope w2 w3 := (Fr.refl nope w2).trans HA3.out.1 (fun _ _ h => h)
       have f4 : Fr nope w3 w4 := (Fr.refl nope w3).trans HA4.out.1 (fun _ _ h => h)
       have f5 := (((Fr.refl nope w4).alloc (.map #[] 0)).alloc (.cells #[.int .i64 c.a0, .int .i64 c.a1, .int .i64 c.a2, .int .i64 c.a3, .int .i64 c.a4, .int .i64 c.a5, .int .i64 c.a6, .int .i64 c.a7, .pointer (some ⟨gl, 0, none⟩), .pointer (some ⟨gs, 0, none⟩), .pointer (some ⟨gt, 0, none⟩), .pointer (some ⟨gi, 0, none⟩), .map (some w4.heap.size), .int .i64 c.a4, .bool false, .int .i64 0, .int .i64 0] 87))
       have f45 := (f4.trans f5 (fun _ _ h => h))
       have f345 := (f3.trans f45 (fun _ _ h => h))
       have f2345 := (f2.trans f345 (fun _ _ h => h))
       have fall := (f1.trans f2345 (fun _ _ h => h))
       have hmp := (mapAt_made w4).fr ((Fr.refl nope (w4.alloc (.map #[] 0))).alloc (.cells #[.int .i64 c.a0, .int .i64 c.a1, .int .i64 c.a2, .int .i64 c.a3, .int .i64 c.a4, .int .i64 c.a5, .int .i64 c.a6, .int .i64 c.a7, .pointer (some ⟨gl, 0, none⟩), .pointer (some ⟨gs, 0, none⟩), .pointer (some ⟨gt, 0, none⟩), .pointer (some ⟨gi, 0, none⟩), .map (some w4.heap.size), .int .i64 c.a4, .bool false, .int .i64 0, .int .i64 0] 87)) (fun h => h)
       have z1 := f1.size
       have z2 := f2.size
       have z3 := f3.size
       have z4 := f4.size
       have y1 := HA1.out.1.size
       have y2 := HA2.out.1.size
       have y3 := HA3.out.1.size
       have y4 := HA4.out.1.size
       have x1 := HA1.out.2.2.1
       have x2 := HA1.out.2.2.2.1
       have x3 := HA1.out.2.2.2.2
       have x4 := HA2.out.2.2.1
       have x5 := HA2.out.2.2.2
       have x6 := HA3.out.2.2
       have x7 := HA4.out.2.2.1
       have x8 := HA4.out.2.2.2.1
       have x9 := HA4.out.2.2.2.2
       simp only [World.size_alloc, drew_size] at y1 y2 y3 y4 x1 x2 x3 x4 x5 x6 x7 x8 x9
       have hrep := rep_new (o := o) (c := c) (gl := gl) (gb := gb) (gs := gs) (gt := gt) (mb := mb) (gi := gi) (gq := gq) HLIB.out.1 HLIB.out.2 hcb (hF0.out.trans fall (fun _ _ h => h)) (HA1.out.2.1.fr f2345 (fun h => h) (fun h => h)) (f345.blk HA2.out.2.1 (fun h => h)) (HA3.out.2.1.fr f45 (fun h => h) (fun h => h) (fun _ _ h => h)) (HA4.out.2.1.fr f5 (fun h => h) (fun h => h) (fun _ _ h => h)) hmp (blk_new _ _) (by have := hF0.out.size; refine ⟨?_, ?_, ?_, ?_, ?_, ?_, ?_, ?_, ?_⟩ <;> (try simp only [World.size_alloc]) <;> omega) (by simp only [List.nodup_cons, List.mem_cons, not_or, List.not_mem_nil, not_false_eq_true, List.nodup_nil, and_true, World.size_alloc]; refine ⟨⟨?_, ?_, ?_, ?_, ?_, ?_, ?_, ?_⟩, ⟨?_, ?_, ?_, ?_, ?_, ?_, ?_⟩, ⟨?_, ?_, ?_, ?_, ?_, ?_⟩, ⟨?_, ?_, ?_, ?_, ?_⟩, ⟨?_, ?_, ?_, ?_⟩, ⟨?_, ?_, ?_⟩, ⟨?_, ?_⟩, ?_⟩ <;> omega)
       obtain ⟨L, o2, hbg, hr, hs⟩ := hrep
       exact ⟨L, o2, by rw [hbg]; first | rfl | (simp [World.size_alloc]; done) | (simp [World.size_alloc] <;> rfl), hr, hs⟩)
end Go.Proofs.YtfkamoiamebngaaGreatDoor.BroW

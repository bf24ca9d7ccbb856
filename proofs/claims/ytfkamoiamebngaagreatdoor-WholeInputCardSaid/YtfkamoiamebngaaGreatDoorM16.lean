/- broker: keys. -/
import Derived.Test.YtfkamoiamebngaaGreatDoorM15
import Derived.Lib.ConvBytes
import Derived.Deep.DeepCutAuto
import Derived.Deep.RegionWith
import Derived.Deep.RegionHeld3
import Derived.OrdersIn
import Derived.Sort.CutIn
import Derived.RangeFuncCalls
namespace Go.Proofs.YtfkamoiamebngaaGreatDoor.BroW
open Go.RowKit Go.Proofs.YtfkamoiamebngaaGreatDoorW.PrintWords Go.Proofs.YtfkamoiamebngaaGreatDoorW.PrintMore Go.Proofs.YtfkamoiamebngaaGreatDoor.Fr Go.Proofs.YtfkamoiamebngaaGreatDoor.ScrW Go.Proofs.YtfkamoiamebngaaGreatDoor.ScrP Go.Proofs.YtfkamoiamebngaaGreatDoor.Mod Go.Proofs.YtfkamoiamebngaaGreatDoor.LexP Go.Proofs.YtfkamoiamebngaaGreatDoor.LexW
set_option linter.unusedVariables false
set_option linter.unusedSimpArgs false

theorem fr_bytes {S : Nat → Prop} {w w1 : World} (h : Fr S w w1) (e : TypeId) (s : ByteArray) : Fr S w (Lib.bytesWorld w1 e s) :=
  ⟨h.os, h.tape, h.output, by rw [Lib.bytesWorld_size]; have := h.size; omega, fun i hi hn => (Lib.bytesWorld_at_old w1 e s i (Nat.lt_of_lt_of_le hi h.size)).trans (h.block i hi hn)⟩
theorem bytesOf_len (s : ByteArray) : (bytesOf s).length = s.size := by unfold bytesOf; simp
theorem bytes_reads (w : World) (e : TypeId) (s : ByteArray) (hs : s.size ≤ 1000000) : ReadsInt (Lib.bytesWorld w e s) .u8 (some ⟨w.heap.size, 0, none⟩) (bytesOf s).length (bytesOf s) := by
  refine ⟨rfl, by rw [bytesOf_len]; omega, fun _ => ⟨_, rfl, fun j hj => ?_⟩⟩
  rw [bytesOf_len] at hj
  rw [add_plain, Lib.bytesWorld_cell w e s j hj]
  have hj2 : j < s.data.toList.length := by simpa using hj
  unfold bytesOf
  simp [List.getD_eq_getElem?_getD, List.getElem?_map, List.getElem?_eq_getElem hj2]
/-- the lexer of a connection turns -/
theorem Rep.lexq {w w1 : World} {L : Lay} {o : Own} {S : St} (h : Rep w L o S) {i : Int} {g : Nat} (hg : L.cp i = some g) {c : Cn} {fg lg og : Nat} {vv : Value} (p0 : PCb w o i g (conCells i c fg lg og vv)) (p1 : PFd w o i fg c.fb c.fe) (p3 : POu w o i og c.out S.cf.a2) (p4 : PVw w o i vv c.vw)
    {tv tv' : Value} {s s' : LexS} (hL : IsLex w 0 lg s tv) (hol : o lg = .con i 2) (hv : ∀ b, tv.ownBlock = some b → o b = .con i 2) (hL' : IsLex w1 0 lg s' tv') (hne : tv'.ownBlock ≠ some lg) (hn : NewOr w tv tv') (hf : Fr (fun i => i = lg ∨ tv.ownBlock = some i) w w1) :
    ∃ o', Rep w1 L o' (S.setc i (some { c with lx := s' })) ∧ Step (fun t => t ≠ .no) w o w1 o' ∧ (∀ b, w.heap.size ≤ b → tv'.ownBlock ≠ some b → o' b = .no) := by
  have st : Step (fun t => t = .con i 2) w o w1 (tagN w o (.con i 2) (fun b => tv'.ownBlock = some b)) :=
    step_tagN h.fresh (fun b hb => (own_old hL'.2 hb).2) (hf.mono (fun b _ hb => by
      rcases hb with hb | hb
      · rw [hb]; exact hol
      · exact hv b hb))
  have hog' : tagN w o (.con i 2) (fun b => tv'.ownBlock = some b) lg = .con i 2 := (st.old lg (blk_lt hL.1)).trans hol
  refine ⟨_, h.con' hg (st.mono (fun t ht => ⟨2, ht⟩)) ?_, st.mono (fun t ht => by rw [ht]; simp), fun b hb hx => ?_⟩
  · exact ⟨fg, lg, og, vv, p0.ext st.loose (by simp), p1.ext st.loose (by simp), ⟨tv', hL', hne, hog', fun b hb => tagN_or (by
      rcases hn b hb with h1 | h1
      · exact .inl ⟨(own_old hL.2 h1).2, hv b h1⟩
      · exact .inr ⟨h1, hb⟩)⟩, p3.ext st.loose (by simp), p4.ext st.loose (by simp)⟩
  · unfold tagN
    rw [if_neg (fun h => hx h.2)]
    exact h.fresh b hb
/-- what is typed turns -/
theorem Rep.inpq {w w1 : World} {L : Lay} {o : Own} {S : St} (h : Rep w L o S) {gq : Nat} {v v' : Value} (hI : IsI w L.gi gq v S.inp S.cf.a3 S.inE) (hgi : o L.gi = .inp) (hgq : o gq = .inp) (hv : ∀ b, v.ownBlock = some b → o b = .inp) {bs : List Int} {e : Bool} (hI1 : IsI w1 L.gi gq v' bs S.cf.a3 e) (hn : NewOr w v v') (hf : Fr (inS L.gi gq v) w w1) :
    ∃ o', Rep w1 L o' { S with inp := bs, inE := e } ∧ Step (fun t => t ≠ .no) w o w1 o' ∧ (∀ b, w.heap.size ≤ b → v'.ownBlock ≠ some b → o' b = .no) := by
  obtain ⟨_, k1, k2, _, _⟩ := hI
  have hq1 := hI1
  obtain ⟨_, _, k3, _, _⟩ := hq1
  have st : Step (fun t => t = .inp) w o w1 (tagN w o .inp (fun b => v'.ownBlock = some b)) :=
    step_tagN h.fresh (fun b hb => (own_old k3.2.1 hb).2) (hf.mono (fun b _ hb => by
      rcases hb with hb | hb | hb
      · rw [hb]; exact hgi
      · rw [hb]; exact hgq
      · exact hv b hb))
  refine ⟨_, h.inp' st ⟨gq, v', hI1, (st.old _ (blk_lt k1)).trans hgi, (st.old _ (blk_lt k2.1)).trans hgq, fun b hb => tagN_or (by
    rcases hn b hb with h1 | h1
    · exact .inl ⟨(own_old k2.2.1 h1).2, hv b h1⟩
    · exact .inr ⟨h1, hb⟩)⟩, st.mono (fun t ht => by rw [ht]; simp), fun b hb hx => ?_⟩
  unfold tagN
  rw [if_neg (fun h => hx h.2)]
  exact h.fresh b hb
theorem why_inq (S : St) (i : Int) (n : Nat) : whyM S.inE S.tb i n S.inp.length S.cf.a3 = inqWhy S i n := by
  unfold whyM inqWhy
  rfl
theorem linesM_cons (s : ByteArray) (l : List ByteArray) (S : St) (i : Int) : linesM (s :: l) S i = if S.stOf i = 1 then linesM l (lineM1 S i s) i else S := rfl

theorem lexStep_cmds (s : LexS) (c : Int) (h : s.text.length ≤ 80) : ∀ x ∈ (lexStep s c).2.2, x.size ≤ 80 := by
  have h0 : (⟨#[]⟩ : ByteArray).size ≤ 80 := Nat.zero_le _
  have h1 : (strOfNums s.text).size ≤ 80 := by rw [strOfNums_size]; exact h
  unfold lexStep
  repeat' split
  all_goals simp
  all_goals (first | exact h0 | exact h1)
theorem lexAll_cmds (l : List Int) : ∀ s : LexS, s.text.length ≤ 80 → ∀ x ∈ (lexAll s l).2.2, x.size ≤ 80 := by
  induction l with
  | nil => intro s h x hx; cases hx
  | cons c cs ih =>
    intro s h x hx
    rcases List.mem_append.1 hx with hx | hx
    · exact lexStep_cmds s c h x hx
    · exact ih _ (lexStep_text s c h) x hx
/-- what lies in the keys' walk between two commands -/
structure KeysK (w : World) (L : Lay) (o0 : Own) (b0 : Nat) (ov : Value) (O : List ByteArray) (o : Own) (S : St) (W : World) : Prop where
  rep : Rep W L o S
  wf : WF S
  st : Step (fun t => t ≠ .no) w o0 W o
  row : W.ownsRow b0 9 1 ov O.length (encs Value.string O)
  no : ∀ b, ov.ownBlock = some b → o b = .no
theorem KeysK.go {w W W2 : World} {L : Lay} {o0 o o2 : Own} {b0 : Nat} {ov : Value} {O : List ByteArray} {S S2 : St} (h : KeysK w L o0 b0 ov O o S W) (hr : Rep W2 L o2 S2) (hw : WF S2) (hs : Step (fun t => t ≠ .no) W o W2 o2) : KeysK w L o0 b0 ov O o2 S2 W2 :=
  ⟨hr, hw, h.st.trans hs, hs.fr.own h.row (fun b hb hx => hx (h.no b hb)), fun b hb => (hs.old b (own_old h.row hb).2).trans (h.no b hb)⟩

set_option maxRecDepth 100000 in
set_option maxHeartbeats 8000000 in
theorem keys_calls (w : World) (L : Lay) (o : Own) (S : St) (i : Int) (g : Nat) (m : Mg) (h : Rep w L o S) (hw : WF S) (hg : L.cp i = some g) (hm : mgB m = true) :
    Calls Tryz.prog 81 #[.pointer (some ⟨L.bg, 0, none⟩), .pointer (some ⟨g, 0, none⟩), .agg #[.int .i64 m.k, .int .i64 m.a, .int .i64 m.b, .string m.t]] w (QB L o w (keysM S i m) (.tuple #[])) := by
  obtain ⟨W0, hW0⟩ : ∃ W0, W0 = w.alloc (.cells #[.int .i64 m.k, .int .i64 m.a, .int .i64 m.b, .string m.t] 39) := ⟨_, rfl⟩
  have hf0 : Fr nope w W0 := by rw [hW0]; exact (Fr.refl nope w).alloc _
  have h0 := h.quiet hf0
  have hno : ∀ b, W0.heap.size ≤ b → o b = .no := h0.fresh
  have hoM : o w.heap.size = .no := h.fresh _ (Nat.le_refl _)
  have hM : W0.heap[w.heap.size]? = some (.cells #[.int .i64 m.k, .int .i64 m.a, .int .i64 m.b, .string m.t] 39 (0, 0)) := by rw [hW0]; exact blk_new w _
  have HM := Aside0.mk hM
  have HST0 := Aside0.mk (h.step hf0)
  have hsz := mgB_size hm
  have hd := h0.map.1.1 i (by simp [hg])
  have hiw := mpWf hd.1 hd.2
  obtain ⟨c, hcn, fg, lg, og, vv, p0, p1, ⟨tv, hL, hne, hol, htv⟩, p3, p4⟩ := h0.cnOf hg
  have hlx := (hw.con i c hcn).2.2.lx
  obtain ⟨s1, K, O, hE⟩ : ∃ s1 K O, lexAll c.lx (bytesOf m.t) = (s1, K, O) := ⟨_, _, _, rfl⟩
  have hlen := lexAll_len (bytesOf m.t) c.lx
  rw [hE, bytesOf_len] at hlen
  simp only at hlen
  have hKl : K.length ≤ 2042 := by omega
  have HSZ : Aside0 (∀ s ∈ O, s.size ≤ 80) := ⟨by have := lexAll_cmds (bytesOf m.t) c.lx ((hw.con i c hcn).2.2.lx.2.1); rw [hE] at this; exact this⟩
  have hOl : O.length ≤ 2042 := by omega
  have hw1 := lex_ok hw hcn (bytesOf_isB' m.t)
  rw [hE] at hw1
  obtain ⟨S1, hS1⟩ : ∃ S1, S1 = S.setc i (some { c with lx := s1 }) := ⟨_, rfl⟩
  rw [← hS1] at hw1
  have hkm : keysM S i m = linesM O (offerM S1 i K m.a) i := by
    unfold keysM
    rw [hcn]
    simp only
    rw [hE, ← hS1]
  rw [hkm]
  obtain ⟨S2, hS2⟩ : ∃ S2, S2 = offerM S1 i K m.a := ⟨_, rfl⟩
  have hw2 := (offer_ok hw1.1 i K m.a).1
  rw [← hS2] at hw2
  rw [← hS2]
  have HW2 := Aside0.mk hw2
  have HS2 := Aside0.mk hS2
  have HW1 := Aside0.mk hw1.1
  have HG := Aside0.mk hg
  have HS1 := Aside0.mk hS1
  have hg5 : W0.cell? ⟨g, 5, none⟩ = some (.pointer (some ⟨lg, 0, none⟩)) := (blk_cell p0.1 5).trans rfl
  have m3 : W0.cell? ⟨w.heap.size, 3, none⟩ = some (.string m.t) := (blk_cell hM 3).trans rfl
  have hgl0 := blk_lt p0.1
  obtain ⟨WB, hWB⟩ : ∃ WB, WB = Lib.bytesWorld W0.drew 5 m.t := ⟨_, rfl⟩
  have hfB : Fr nope W0 WB := by rw [hWB]; exact fr_bytes (Fr.refl nope W0).drew _ _
  have hszB : WB.heap.size = W0.heap.size + 1 := by rw [hWB, Lib.bytesWorld_size]; rfl
  have hLB : IsLex WB 0 lg c.lx tv := ⟨hfB.blk hL.1 (fun h => h), hfB.own hL.2 (fun _ _ h => h)⟩
  have hRB : ReadsInt WB .u8 (some ⟨W0.heap.size, 0, none⟩) m.t.size (bytesOf m.t) := by
    have := bytes_reads W0.drew 5 m.t (by omega)
    rw [bytesOf_len] at this
    rw [hWB]
    exact this
  have hlgl := blk_lt hL.1
  have hA : 0 < (bytesOf m.t).length → ∀ ad, (some ⟨W0.heap.size, 0, none⟩ : Option Addr) = some ad → ad.block ≠ lg ∧ tv.ownBlock ≠ some ad.block := fun _ ad e => by
    cases e
    exact ⟨fun e => by have e : W0.heap.size = lg := e; omega, fun e => by have := (own_old hL.2 e).2; have : W0.heap.size < W0.heap.size := this; omega⟩
  have kcv : ∀ W, (convert 9 29 (.string m.t)).run Tryz.prog W = .ok (.slice (some ⟨W.heap.size, 0, none⟩) m.t.size (grownCap W m.t.size 0 5)) (Lib.bytesWorld W 5 m.t) := fun W => Lib.run_convert_string_bytes W 9 29 5 m.t Tryz.underlying9 Tryz.underlying29 Tryz.underlying5
  have hcall : ∀ cp, Calls Tryz.prog 115 #[.pointer (some ⟨lg, 0, none⟩), .slice (some ⟨W0.heap.size, 0, none⟩) m.t.size cp] WB fun e w' => ∃ kv ov tvk, e = .returned (.tuple #[kv, ov]) ∧ PushInv WB 0 lg tv s1 K O kv ov tvk w' := fun cp => by
    have := push_to (bytesOf m.t) hE (some ⟨W0.heap.size, 0, none⟩) cp lg tv 0 WB (Nat.zero_le _) hLB hne hlx.1 hlx.2.1 (by rw [bytesOf_len]; exact hRB) hA (by rw [bytesOf_len]; omega)
    rw [bytesOf_len] at this
    exact this
  have HCALL := Aside0.mk hcall
  have hfin : ∀ w1 kv ov tvk, PushInv WB 0 lg tv s1 K O kv ov tvk w1 → ∃ o1, KeysK w L o WB.heap.size ov O o1 S1 w1 ∧ (w1.ownsRow WB.heap.size 5 1 kv K.length (nums .u8 K)) ∧ (∀ b, kv.ownBlock = some b → o1 b = .no) ∧ o1 w.heap.size = .no ∧ w1.heap[w.heap.size]? = some (.cells #[.int .i64 m.k, .int .i64 m.a, .int .i64 m.b, .string m.t] 39 (0, 0)) := by
    rintro w1 kv ov tvk ⟨q1, q2, q3, q4, q5, q6, q7⟩
    have stB := (Step.quiet hno hfB).loose
    have hRB2 := h0.quiet hfB
    obtain ⟨o1, hr1, hs1, hn1⟩ := hRB2.lexq hg (p0.ext stB (fun h => h)) (p1.ext stB (fun h => h)) (p3.ext stB (fun h => h)) (p4.ext stB (fun h => h)) hLB hol htv q1 q2 (fun b hb => by
      rcases q5 with e | e | ⟨b2, e, e2⟩
      · rw [e] at hb; exact .inl hb
      · rw [e] at hb; cases hb
      · rw [e] at hb; cases hb; exact .inr e2) q7
    rw [← hS1] at hr1
    refine ⟨o1, ⟨hr1, hw1.1, ((h.step hf0).trans (h0.step hfB)).trans hs1, q4, fun b hb => hn1 b (own_old q4 hb).1 (ne_types q4 q1.2 (by decide) b hb)⟩, q3, fun b hb => hn1 b (own_old q3 hb).1 (q6 b hb), (hs1.old _ ?_).trans hoM, hs1.fr.blk (hfB.blk hM (fun h => h)) (fun hx => hx hoM)⟩
    have := blk_lt hM
    omega
  have HFIN := Aside0.mk hfin
  have HWB := Aside0.mk hWB
  have HW0 := Aside0.mk hW0
  have HK : Aside0 (∀ w', Fr nope W0 w' → w'.cell? ⟨g, 5, none⟩ = some (.pointer (some ⟨lg, 0, none⟩)) ∧ w'.cell? ⟨w.heap.size, 3, none⟩ = some (.string m.t)) := ⟨fun w' hF => ⟨(blk_cell (hF.blk p0.1 (fun h => h)) 5).trans rfl, (blk_cell (hF.blk hM (fun h => h)) 3).trans rfl⟩⟩
  have hmf := mgB_facts hm
  have ha0 := hmf.2.2.2.2.1
  have ha1 := hmf.2.2.2.2.2.1
  clear h hw hg hm h0 hf0 hno hoM hM hcn p0 p1 hL hne hol htv p3 p4 hlx hE hlen hw1 hS1 hkm hS2 hw2 hWB hfB hszB hLB hRB hlgl hA hcall hfin hmf hW0 hd
  go_enter Tryz.func81, Tryz.ntmps81
  go_wp2
  rw [← HW0.out]
  have hg5B : (Lib.bytesWorld W0.drew 5 m.t).cell? ⟨g, 5, none⟩ = some (.pointer (some ⟨lg, 0, none⟩)) := (HK.out _ (fr_bytes (Fr.refl _ W0).drew _ _)).1
  go_cut [6, 7] (fun s6 s7 wx => ∃ o1 Ak ck Ao co, s6 = .slice Ak K.length ck ∧ s7 = .slice Ao O.length co ∧ Aside0 (KeysK w L o WB.heap.size (.slice Ao O.length co) O o1 S1 wx) ∧ Aside0 (wx.ownsRow WB.heap.size 5 1 (.slice Ak K.length ck) K.length (nums .u8 K)) ∧ Aside0 (∀ b, (Value.slice Ak K.length ck).ownBlock = some b → o1 b = .no) ∧ Aside0 (o1 w.heap.size = .no ∧ wx.heap[w.heap.size]? = some (.cells #[.int .i64 m.k, .int .i64 m.a, .int .i64 m.b, .string m.t] 39 (0, 0))))
  case first =>
    go_region_with (first | (go_at_call 115; rw [← HWB.out]; refine (HCALL.out _).mono ?_; rintro e1 w1 ⟨kv, ov, tvk, rfl, hI⟩; have hI := HFIN.out w1 kv ov tvk hI; obtain ⟨o1, hk1, hrk, hnk, hoM, hM1⟩ := hI; have hv := own_slice hrk; obtain ⟨Ak, ck, rfl⟩ := hv; have hv := own_slice hk1.row; obtain ⟨Ao, co, rfl⟩ := hv; have HK1 := Aside0.mk hk1; have HRK := Aside0.mk hrk; have HNK := Aside0.mk hnk; have HM1 := Aside0.mk (And.intro hoM hM1); clear hk1 hrk hnk hoM hM1))
    all_goals
      go_wp2
      go_meet
      exact ⟨o1, Ak, ck, Ao, co, rfl, rfl, HK1, HRK, HNK, HM1⟩
  case rest =>
    obtain ⟨o1, Ak, ck, Ao, co, rfl, rfl, HK1, HRK, HNK, HM1⟩ := hcut
    have hS2 := HS2.out
    unfold offerM at hS2
    clear hg5 hg5B m3 kcv hgl0
    go_upto_if 26 with fail
    go_cut [] (fun wx => ∃ o2, Aside0 (KeysK w L o WB.heap.size (.slice Ao O.length co) O o2 S2 wx))
    case first =>
      by_cases hK0 : K.length = 0
      · have hKn : K = [] := List.eq_nil_of_length_eq_zero hK0
        rw [if_pos hKn] at hS2
        have t1 : ¬ 0 < K.length := by omega
        have HK2 : Aside0 (KeysK w L o WB.heap.size (.slice Ao O.length co) O o1 S2 wc) := ⟨by rw [hS2]; exact HK1.out⟩
        clear hS2 hKn hK0
        go_wp2
        go_meet
        exact ⟨o1, HK2⟩
      · have hKn : ¬ K = [] := fun e => hK0 (by rw [e]; rfl)
        rw [if_neg hKn] at hS2
        have t1 : 0 < K.length := by omega
        have hr1 := HK1.out.rep
        obtain ⟨gq, v, hI, hgi, hgq, hv⟩ := hr1.inp
        obtain ⟨mb, qv, hT, hgt, hmb, hqv⟩ := hr1.tab
        have hcb := cf_b HK1.out.wf
        have hinp := HK1.out.wf.inp
        obtain ⟨c1, hcn1, fg1, lg1, og1, vv1, r0, _⟩ := hr1.cnOf HG.out
        have HS : Aside0 (∀ w', Fr (inS L.gi gq v) wc w' → w'.cell? ⟨L.bg, 11, none⟩ = some (.pointer (some ⟨L.gi, 0, none⟩)) ∧ w'.cell? ⟨L.bg, 10, none⟩ = some (.pointer (some ⟨L.gt, 0, none⟩)) ∧ w'.cell? ⟨g, 0, none⟩ = some (.int .i64 i)) := ⟨fun w' hF => by
          have b1 := hF.blk hr1.brk.1 (fun hs => by
            have h2 := hr1.brk.2
            rcases hs with hs | hs | hs
            · rw [hs, hgi] at h2; cases h2
            · rw [hs, hgq] at h2; cases h2
            · rw [hv _ hs] at h2; cases h2)
          have b2 := hF.blk r0.1 (fun hs => by
            have h2 := r0.2
            rcases hs with hs | hs | hs
            · rw [hs, hgi] at h2; cases h2
            · rw [hs, hgq] at h2; cases h2
            · rw [hv _ hs] at h2; cases h2)
          exact ⟨(blk_cell b1 11).trans rfl, (blk_cell b1 10).trans rfl, (blk_cell b2 0).trans rfl⟩⟩
        have hA : ∀ ad, Ak = some ad → ¬ inS L.gi gq v ad.block := fun ad e hs => by
          have hown : (Value.slice Ak K.length ck).ownBlock = some ad.block := by
            obtain ⟨g1, cq1, e1, e2, e3⟩ := own_head HRK.out (fun e9 => by injection e9 with _ e10 _; exact hK0 e10)
            injection e1 with e1 _ _
            rw [e1] at e ⊢
            cases e
            simp [Value.ownBlock]
          have h2 := HNK.out _ hown
          rcases hs with hs | hs | hs
          · rw [hs, hgi] at h2; cases h2
          · rw [hs, hgq] at h2; cases h2
          · rw [hv _ hs] at h2; cases h2
        obtain ⟨wy, hwy⟩ : ∃ y, y = inqWhy S1 i K.length := ⟨_, rfl⟩
        have hcall : Calls Tryz.prog 116 #[.pointer (some ⟨L.gi, 0, none⟩), .pointer (some ⟨L.gt, 0, none⟩), .int .i64 i, .slice Ak K.length ck] wc.drew fun e w2 => e = .returned (.int .i64 wy) ∧ Fr (inS L.gi gq v) wc w2 ∧ ∃ o2, KeysK w L o WB.heap.size (.slice Ao O.length co) O o2 { S1 with inp := if wy = 0 then S1.inp ++ K else S1.inp } w2 ∧ w2.heap[w.heap.size]? = some (.cells #[.int .i64 m.k, .int .i64 m.a, .int .i64 m.b, .string m.t] 39 (0, 0)) := by
          refine (ioffer_calls S1.tb i L.gt mb qv L.gi gq v S1.inp S1.cf.a3 S1.inE Ak K ck wc.drew (hT.fr (Fr.refl nope wc).drew (fun h => h) (fun h => h) (fun _ _ h => h)) (hI.fr (Fr.refl nope wc).drew (fun h => h) (fun h => h) (fun _ _ h => h)) hiw (by omega) (by omega) (by omega) (by omega) (own_readsInt HRK.out) hA).mono ?_
          rintro e w2 ⟨v2, he, hI2, hn2, hf2⟩
          rw [why_inq, ← hwy] at he hI2
          have hf3 : Fr (inS L.gi gq v) wc w2 := (Fr.refl _ wc).drew.trans hf2 (fun _ _ h => h)
          obtain ⟨o2, hr2, hs2, _⟩ := hr1.inpq hI hgi hgq hv hI2 (fun b hb => (hn2 b hb).imp id (fun h => h)) hf3
          have hwf2 : WF { S1 with inp := if wy = 0 then S1.inp ++ K else S1.inp } := by
            have h1 := HK1.out.wf
            refine ⟨h1.cf, h1.con, h1.tb, ?_, h1.log, h1.told, h1.code, h1.str⟩
            show ((if wy = 0 then S1.inp ++ K else S1.inp).length : Int) ≤ S1.cf.a3
            by_cases hw0 : wy = 0
            · rw [if_pos hw0]
              have := (offer_ok h1 i K m.a).1.inp
              unfold offerM at this
              rw [if_neg hKn, if_pos (by rw [← hwy]; exact hw0)] at this
              exact this
            · rw [if_neg hw0]; exact h1.inp
          exact ⟨he, hf3, o2, HK1.out.go hr2 hwf2 hs2, hs2.fr.blk HM1.out.2 (fun hx => hx HM1.out.1)⟩
        have HCALL2 := Aside0.mk hcall
        have b11 := (HS.out wc (Fr.refl _ _)).1
        have HHS := Aside0.mk hS2
        have HWY := Aside0.mk hwy
        clear hS2 hKn hK0 hr1 hI hgi hgq hv hT hgt hmb hqv hcb hinp hcn1 r0 hA hcall hwy
        by_cases hw0 : wy = 0
        · subst hw0
          go_wp2
          go_region_held3 (fun w' => w'.cell? ⟨L.bg, 11, none⟩ = some (.pointer (some ⟨L.gi, 0, none⟩)) ∧ w'.cell? ⟨L.bg, 10, none⟩ = some (.pointer (some ⟨L.gt, 0, none⟩)) ∧ w'.cell? ⟨g, 0, none⟩ = some (.int .i64 i))
            (first | exact HS.out _ (Fr.refl _ wc).drew | exact HS.out _ HF2.out | fail)
            (first | (go_at_call 116; refine HCALL2.out.mono ?_; rintro e2 w2 ⟨rfl, hf2, o2, hk2, hm2⟩; have HF2 := Aside0.mk hf2; have HK2 := Aside0.mk hk2; clear hf2 hk2 hm2) | fail)
          all_goals
            go_wp2
            go_meet
            refine ⟨o2, ⟨?_⟩⟩
            rw [HHS.out, if_pos HWY.out.symm]
            exact HK2.out
        · have t3 : (wy == 0) = false := beq_eq_false_iff_ne.2 hw0
          have t4 : (wy != 0) = true := by simp [bne, t3]
          have HW0' := Aside0.mk hw0
          clear hw0
          go_wp2
          go_region_held3 (fun w' => w'.cell? ⟨L.bg, 11, none⟩ = some (.pointer (some ⟨L.gi, 0, none⟩)) ∧ w'.cell? ⟨L.bg, 10, none⟩ = some (.pointer (some ⟨L.gt, 0, none⟩)) ∧ w'.cell? ⟨g, 0, none⟩ = some (.int .i64 i))
            (first | exact HS.out _ (Fr.refl _ wc).drew | exact HS.out _ HF2.out | fail)
            (first | (go_at_call 116; refine HCALL2.out.mono ?_; rintro e2 w2 ⟨rfl, hf2, o2, hk2, hm2⟩; have HF2 := Aside0.mk hf2; rw [if_neg HW0'.out] at hk2; have HK2 := Aside0.mk hk2; have m1 : w2.cell? ⟨w.heap.size, 1, none⟩ = some (.int .i64 m.a) := (blk_cell hm2 1).trans rfl; have hml := blk_lt hm2; clear hf2 hk2 hm2) | fail)
          all_goals
            have hc3 := bsend_calls w2 L o2 S1 i g ⟨8, m.a, wy, ⟨#[]⟩⟩ HK2.out.rep HW1.out HG.out (show (0 : Nat) ≤ 1000000 by omega)
            have HC3 := Aside0.mk hc3
            clear hc3
            go_wp2_with (go_at_call 82; refine HC3.out.mono ?_; rintro e3 w3 ⟨o3, rfl, hr3, hst3⟩; have HR3 := Aside0.mk hr3; have HST3 := Aside0.mk hst3; clear hr3 hst3)
            go_meet
            refine ⟨o3, ⟨?_⟩⟩
            have hem : (⟨#[]⟩ : ByteArray) = strL [] := rfl
            have hq := HHS.out
            rw [if_neg (fun e => HW0'.out (HWY.out.trans e)), ← HWY.out, ← hem] at hq
            rw [hq]
            exact HK2.out.go HR3.out (send_wf HW1.out i _).1 HST3.out
    case rest =>
      obtain ⟨o2, HK2⟩ := hcut
      clear hS2
      go_wp2
      go_loopw [52] (fun v52 wr => ∃ (k : Nat) (o3 : Own) (S3 : St), v52 = .int .i64 k ∧ k ≤ O.length ∧ Aside0 (linesM O S2 i = linesM (O.drop k) S3 i) ∧ Aside0 (KeysK w L o WB.heap.size (.slice Ao O.length co) O o3 S3 wr)) (fun v52 _ => O.length - (intOf v52).toNat)
      case atStart => exact ⟨0, o2, S2, rfl, Nat.zero_le _, ⟨rfl⟩, HK2⟩
      case round =>
        obtain ⟨k, o3, S3, rfl, hk, HE, HK3⟩ := hrel
        by_cases hlt : k < O.length
        · have hr := own_readsOf (d := ByteArray.empty) HK3.out.row
          obtain ⟨aq, e2, hc⟩ := hr.2.2 (by omega)
          cases e2
          obtain ⟨s, hs⟩ : ∃ s, O.getD k ByteArray.empty = s := ⟨_, rfl⟩
          have hcell := hc k hlt
          rw [hs] at hcell
          have hdrop : O.drop k = s :: O.drop (k + 1) := by
            rw [← hs, List.getD_eq_getElem?_getD, List.getElem?_eq_getElem hlt]
            exact List.drop_eq_getElem_cons hlt
          have he := HE.out
          rw [hdrop, linesM_cons] at he
          have hsz2 := HSZ.out s (by rw [← hs, List.getD_eq_getElem?_getD, List.getElem?_eq_getElem hlt]; exact List.getElem_mem hlt)
          have hst3 := HK3.out.rep.stOf HG.out
          have g1 := hst3.1
          have hg1 := hst3.2
          have hkl : (k : Int) < (O.length : Int) := by omega
          have hk0 : (0 : Int) ≤ (k : Int) := by omega
          have hwk : IntKind.i64.wrap ((k : Int) + 1) = (k : Int) + 1 := by rw [IntKind.wrap_i64]; omega
          by_cases hst : S3.stOf i = 1
          · rw [if_pos hst] at he
            have HE2 := Aside0.mk he
            rw [hst] at g1
            have HSO := Aside0.mk hst
            have hpc := parse_calls s (by omega) wr HK3.out.rep.lib.1
            have HPC := Aside0.mk hpc
            have hbg3 := blk_lt HK3.out.rep.brk.1
            clear hc hr hs hdrop he hst3 hst hpc
            rcases hpo : parseO s with _ | ⟨kk, nn⟩
            · have hv : parseV s = .tuple #[.agg #[.int .i64 0, .int .i64 0], .int .i64 8] := by unfold parseV; rw [hpo]
              rw [hv] at HPC
              have hl1 : lineM1 S3 i s = turned (send S3 i ⟨11, 0, 0, s⟩) := by unfold lineM1; rw [hpo]
              rw [hl1] at HE2
              clear hv hpo hl1
              go_wp2_with (first | (go_at_call 117; refine HPC.out.mono ?_; rintro e4 w4 ⟨rfl, hf4⟩; have HF4 := Aside0.mk hf4; clear hf4) | (go_at_call 82; refine (bsend_calls _ L o3 S3 i g ⟨11, 0, 0, s⟩ (HK3.out.rep.quiet (HF4.out.alloc _)) HK3.out.wf HG.out (show s.size ≤ 1000000 by omega)).mono ?_; rintro e5 w5 ⟨o5, rfl, hr5, hst5⟩; have HR5 := Aside0.mk hr5; have HST5 := Aside0.mk ((HK3.out.rep.step (HF4.out.alloc _)).trans hst5); have HWF5 := Aside0.mk (send_wf HK3.out.wf i ⟨11, 0, 0, s⟩).1; clear hr5 hst5) | (go_at_call 59; refine (turned_calls _ L o5 _ HR5.out HWF5.out).mono ?_; rintro e6 w6 ⟨o6, rfl, hr6, hst6⟩; have HR6 := Aside0.mk hr6; have HST6 := Aside0.mk hst6; clear hr6 hst6))
              have hk0' : O.length - (k + 1) < O.length - k := by omega
              refine ⟨⟨k + 1, o6, _, by push_cast; rfl, hlt, HE2, ⟨HK3.out.go HR6.out (turned_wf HWF5.out).1 (HST5.out.trans HST6.out)⟩⟩, by simp only [intOf]; omega⟩
            · have hv : parseV s = .tuple #[.agg #[.int .i64 kk, .int .i64 nn], .int .i64 0] := by unfold parseV; rw [hpo]
              rw [hv] at HPC
              have hob := parseO_ord hpo
              have hnn := ordB_n hob
              obtain ⟨r, hr2⟩ : ∃ r, r = doesM S3 i kk nn := ⟨_, rfl⟩
              have hl1 : lineM1 S3 i s = turned (if r.2 = true then r.1 else send r.1 i ⟨11, 0, 0, s⟩) := by unfold lineM1; rw [hpo, hr2]
              rw [hl1] at HE2
              have hwr := (does_ok HK3.out.wf i kk nn hnn).1
              rw [← hr2] at hwr
              have HWR := Aside0.mk hwr
              have hdc : ∀ W, Fr nope wr W → Calls Tryz.prog 118 #[.pointer (some ⟨L.bg, 0, none⟩), .pointer (some ⟨g, 0, none⟩), .agg #[.int .i64 kk, .int .i64 nn]] W (QB L o3 W r.1 (.bool r.2)) := fun W hF => by rw [hr2]; exact does_calls W L o3 S3 i g kk nn (HK3.out.rep.quiet hF) HK3.out.wf HG.out HSO.out hob
              have HDC := Aside0.mk hdc
              clear hv hpo hl1 hob hr2 hwr hdc
              obtain ⟨R, b⟩ := r
              simp only at HE2 HWR HDC
              cases b with
              | true =>
                rw [if_pos rfl] at HE2
                go_wp2_with (first | (go_at_call 117; refine HPC.out.mono ?_; rintro e4 w4 ⟨rfl, hf4⟩; have HF4 := Aside0.mk hf4; clear hf4) | (go_at_call 118; refine (HDC.out _ (HF4.out.alloc _)).mono ?_; rintro e7 w7 ⟨o7, rfl, hr7, hst7⟩; have HR7 := Aside0.mk hr7; have HST7 := Aside0.mk ((HK3.out.rep.step (HF4.out.alloc _)).trans hst7); clear hr7 hst7) | (go_at_call 59; refine (turned_calls _ L o7 _ HR7.out HWR.out).mono ?_; rintro e6 w6 ⟨o6, rfl, hr6, hst6⟩; have HR6 := Aside0.mk hr6; have HST6 := Aside0.mk hst6; clear hr6 hst6))
                have hk0' : O.length - (k + 1) < O.length - k := by omega
                refine ⟨⟨k + 1, o6, _, by push_cast; rfl, hlt, HE2, ⟨HK3.out.go HR6.out (turned_wf HWR.out).1 (HST7.out.trans HST6.out)⟩⟩, by simp only [intOf]; omega⟩
              | false =>
                rw [if_neg (by decide)] at HE2
                go_wp2_with (first | (go_at_call 117; refine HPC.out.mono ?_; rintro e4 w4 ⟨rfl, hf4⟩; have HF4 := Aside0.mk hf4; clear hf4) | (go_at_call 118; refine (HDC.out _ (HF4.out.alloc _)).mono ?_; rintro e7 w7 ⟨o7, rfl, hr7, hst7⟩; have HR7 := Aside0.mk hr7; have HST7 := Aside0.mk ((HK3.out.rep.step (HF4.out.alloc _)).trans hst7); clear hr7 hst7) | (go_at_call 82; refine (bsend_calls _ L o7 R i g ⟨11, 0, 0, s⟩ HR7.out HWR.out HG.out (show s.size ≤ 1000000 by omega)).mono ?_; rintro e5 w5 ⟨o5, rfl, hr5, hst5⟩; have HR5 := Aside0.mk hr5; have HST5 := Aside0.mk (HST7.out.trans hst5); have HWF5 := Aside0.mk (send_wf HWR.out i ⟨11, 0, 0, s⟩).1; clear hr5 hst5) | (go_at_call 59; refine (turned_calls _ L o5 _ HR5.out HWF5.out).mono ?_; rintro e6 w6 ⟨o6, rfl, hr6, hst6⟩; have HR6 := Aside0.mk hr6; have HST6 := Aside0.mk hst6; clear hr6 hst6))
                have hk0' : O.length - (k + 1) < O.length - k := by omega
                refine ⟨⟨k + 1, o6, _, by push_cast; rfl, hlt, HE2, ⟨HK3.out.go HR6.out (turned_wf HWF5.out).1 (HST5.out.trans HST6.out)⟩⟩, by simp only [intOf]; omega⟩
          · rw [if_neg hst] at he
            have HE2 := Aside0.mk he
            have t1 : (S3.stOf i == 1) = false := beq_eq_false_iff_ne.2 hst
            have t2 : (S3.stOf i != 1) = true := by simp [bne, t1]
            obtain ⟨sv, hsv⟩ : ∃ x, x = S3.stOf i := ⟨_, rfl⟩
            rw [← hsv] at g1 t1 t2
            clear hc hr hs hdrop he hst3 hst hsv
            go_wp2
            go_end0
            rw [HE2.out]
            exact ⟨o3, rfl, HK3.out.rep, HK3.out.st⟩
        · have hkn : k = O.length := by omega
          have HE2 : Aside0 (linesM O S2 i = S3) := ⟨by rw [HE.out, hkn, List.drop_length]; rfl⟩
          have hlt2 : ¬ (k : Int) < (O.length : Int) := by omega
          clear hkn hlt
          go_wp2
          go_end0
          rw [HE2.out]
          exact ⟨o3, rfl, HK3.out.rep, HK3.out.st⟩
end Go.Proofs.YtfkamoiamebngaaGreatDoor.BroW

/- A region that draws, in a round of a range over a function: the plain law serves there. -/
namespace Go.Proofs.YtfkamoiamebngaaGreatDoor.BroW
open Go
set_option linter.unusedVariables false

theorem rows_in {P : Program} {row : String} {args : Array Value} {w : World} {R : Value → World → Prop} (l n : Nat) (h : Rows P row args w R) : RowsIn (Fence.wide.inRound l) n P row args w R :=
  fun c cs _ => let ⟨v, w', r, s⟩ := h c cs; ⟨v, w', r, stepsIn_wide.2 s⟩
theorem wpOpIn_of {P : Program} {ops : Array Oper} {Q : Exit → Act → World → Prop} (l n : Nat) (hQ : ¬ LetsOut Q) {i : Nat} {K : Act → World → Prop} {a : Act} {w : World} (hd : ∀ (o : Oper) (c : Call), ops[i]? = some o → o.op ≠ .defer c) (h : wpOp P ops Q i K a w) : wpOpIn (Fence.wide.inRound l) n P ops Q i K a w := by
  unfold wpOp at h
  unfold wpOpIn
  cases ho : ops[i]? with
  | none => simpa [ho] using h
  | some o =>
    simp only [ho] at h ⊢
    by_cases hw : Region.wanted o (yielded ops a.tmps) = true
    · rw [if_pos hw] at h ⊢
      rcases h with h | ⟨_, h⟩
      · refine ⟨fun _ _ => trivial, ?_⟩
        have hs : o.semAt (Fence.wide.inRound l).round a.eval = execOp a.eval o := Oper.semAt_some l _ _ (fun c => hd o c ho)
        rw [hs]
        unfold Oper.wp at h
        generalize (execOp a.eval o).run P w = r at *
        cases r with
        | ok x w' =>
          cases x <;> simp only [Oper.upon, Oper.uponIn] at h ⊢ <;>
            first
              | exact h
              | exact ⟨fun e => (by cases e), CallsIn.inRound l (callsIn_wide.2 (h.mono (fun e w'' he => by cases e <;> exact he)))⟩
              | exact ⟨fun e => (by cases e), rows_in l _ h⟩
        | halt x w' => cases x <;> simp only [Oper.upon, Oper.uponIn] at h ⊢ <;> exact h
      · exact absurd h hQ
    · rw [if_neg hw] at h ⊢
      exact ⟨fun _ _ => trivial, h⟩
theorem wpAnyIn_of {P : Program} {ops : Array Oper} {Q : Exit → Act → World → Prop} {md : Region.Mode} (l n : Nat) (hQ : ¬ LetsOut Q) (hd : ∀ (i : Nat) (o : Oper) (c : Call), ops[i]? = some o → o.op ≠ .defer c) : ∀ (fuel : Nat) (listed : Array Bool) (a : Act) (w : World), wpAny P md ops Q fuel listed a w → wpAnyIn (Fence.wide.inRound l) n P md ops Q fuel listed a w := by
  intro fuel
  induction fuel with
  | zero => intro listed a w h; exact h
  | succ fuel ih =>
    intro listed a w h
    exact ⟨h.1, fun i hi => wpOpIn_of l n hQ (hd i) (wpOp_mono (fun a' w' h' => ih _ a' w' h') (h.2 i hi))⟩
/-- is an operation no defer statement? -/
def noDefer (ops : Array Oper) : Bool := ops.all fun o => match o.op with
  | .defer _ => false
  | _ => true
theorem noDefer_at {ops : Array Oper} (h : noDefer ops = true) : ∀ (i : Nat) o c, ops[i]? = some o → o.op ≠ .defer c := by
  intro i o c ho e
  unfold noDefer at h
  rw [Array.all_eq_true] at h
  obtain ⟨hi, ho⟩ := Array.getElem?_eq_some_iff.1 ho
  have := h i hi
  rw [ho, e] at this
  cases this
theorem wpIn_region_held {P : Program} {ops : Array Oper} {Q : Exit → Act → World → Prop} {S : World → Prop} {id : Nat} {a : Act} {w : World} (l n : Nat) (hm : P.follows .mixedOrders = true) (hd : noDefer ops = true) (hQ : ¬ LetsOut Q) (hS : S w.drew)
    (h : S w.drew → wpAnyH P .any ops Q S ops.size (Array.replicate ops.size false) a w.drew) : (Code.region id ops true).wpIn (Fence.wide.inRound l) n P Q a w :=
  wpIn_region_any hm (wpAnyIn_of l n hQ (noDefer_at hd) _ _ _ _ (wpAny_of_held _ _ _ _ (h hS)))
end Go.Proofs.YtfkamoiamebngaaGreatDoor.BroW

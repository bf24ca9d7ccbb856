/- broker: hello. -/
import Derived.Test.YtfkamoiamebngaaGreatDoorM15
import Derived.Deep.DeepCutAuto
import Derived.Deep.RegionWith
import Derived.BigRegion
import Derived.Test.YtfkamoiamebngaaGreatDoorM16
import Derived.Test.YtfkamoiamebngaaGreatDoorM18
namespace Go.Proofs.YtfkamoiamebngaaGreatDoor.BroW
open Go.RowKit Go.Proofs.YtfkamoiamebngaaGreatDoorW.PrintWords Go.Proofs.YtfkamoiamebngaaGreatDoorW.PrintMore Go.Proofs.YtfkamoiamebngaaGreatDoor.Fr Go.Proofs.YtfkamoiamebngaaGreatDoor.ScrW Go.Proofs.YtfkamoiamebngaaGreatDoor.ScrP Go.Proofs.YtfkamoiamebngaaGreatDoor.Mod
set_option linter.unusedVariables false
set_option linter.unusedSimpArgs false

theorem setc_setc (S : St) (i : Int) (a b : Option Cn) : (S.setc i a).setc i b = S.setc i b := by
  unfold St.setc
  congr 1
  funext j
  by_cases e : j = i <;> simp [e]
theorem Rep.newView {w w1 w2 : World} {L : Lay} {o : Own} {S : St} (h : Rep w L o S) {i : Int} {g : Nat} (hg : L.cp i = some g) {c : Cn} {fg lg og gv : Nat} {vv : Value} (p0 : PCb w o i g (conCells i c fg lg og vv)) (p1 : PFd w o i fg c.fb c.fe) (p2 : PLx w o i lg c.lx) (p3 : POu w o i og c.out S.cf.a2)
    (hf1 : Fr nope w w1) (hgv : w.heap.size ≤ gv) {x : Vw} (hv : IsV w1 gv x) (hb : w2.heap[g]? = some (.cells (conCells i c fg lg og (.pointer (some ⟨gv, 0, none⟩))) 121 (0, 0))) (hf2 : Fr (only g) w1 w2) :
    ∃ o', Rep w2 L o' (S.setc i (some { c with vw := some x })) ∧ Step (fun t => t ≠ .no) w o w2 o' := by
  have hvl := blk_lt hv
  have hgl := blk_lt p0.1
  have hv2 : IsV w2 gv x := hf2.blk hv (fun hs => by have : gv = g := hs; omega)
  have hff : Fr (only g) w w2 := (frAny (S := only g) hf1).trans hf2 (fun _ _ h => h)
  have st : Step (fun t => t = .con i 0) w o w2 (tagN w o (.con i 4) (fun b => b = gv)) :=
    ⟨fun b hb => tagN_old hb, fun b hb2 => by unfold tagN; rw [if_neg (fun h => by have := blk_lt hv2; have := h.2; omega)]; exact h.fresh b (Nat.le_trans hff.size hb2), hff.mono (fun b _ hb2 => by rw [show b = g from hb2]; exact p0.2)⟩
  refine ⟨_, h.con' hg (st.mono (fun t ht => ⟨0, ht⟩)) ⟨fg, lg, og, .pointer (some ⟨gv, 0, none⟩), ⟨hb, (st.old g hgl).trans p0.2⟩, p1.ext st.loose (by simp), p2.ext st.loose (by simp), p3.ext st.loose (by simp), .inr ⟨gv, x, rfl, rfl, hv2, tagN_new hgv rfl⟩⟩, st.mono (fun t ht => by rw [ht]; simp)⟩

/-- what a new user may do -/
def helloB (a : Int) : Bool := decide (a % 2 = 1)
def helloL (a : Int) : Bool := decide (a % 4 / 2 = 1)
theorem hello_a {a : Int} (h : a / 4 = 1) : ((bits .and .i64 a 2 == 2) = helloL a) ∧ ((bits .and .i64 a 1 == 1) = helloB a) := by
  have : a = 4 ∨ a = 5 ∨ a = 6 ∨ a = 7 := by omega
  rcases this with rfl | rfl | rfl | rfl <;> exact ⟨by decide, by decide⟩

set_option maxRecDepth 100000 in
set_option maxHeartbeats 8000000 in
theorem hello_no (w : World) (L : Lay) (o : Own) (S : St) (i : Int) (g : Nat) (m : Mg) (h : Rep w L o S) (hw : WF S) (hg : L.cp i = some g) (hm : mgB m = true) (hn : ¬ (m.k = 1 ∧ m.a / 4 = 1 ∧ namedL m.t.data.toList = true)) :
    Calls Tryz.prog 80 #[.pointer (some ⟨L.bg, 0, none⟩), .pointer (some ⟨g, 0, none⟩), .agg #[.int .i64 m.k, .int .i64 m.a, .int .i64 m.b, .string m.t]] w (QB L o w (helloM S i m) (.tuple #[])) := by
  obtain ⟨W0, hW0⟩ : ∃ W0, W0 = w.alloc (.cells #[.int .i64 m.k, .int .i64 m.a, .int .i64 m.b, .string m.t] 39) := ⟨_, rfl⟩
  have hf0 : Fr nope w W0 := by rw [hW0]; exact (Fr.refl nope w).alloc _
  have h0 := h.quiet hf0
  have HST0 := Aside0.mk (h.step hf0)
  obtain ⟨S2, hS2⟩ : ∃ S2, S2 = helloM S i m := ⟨_, rfl⟩
  rw [← hS2]
  unfold helloM at hS2
  have hmf := mgB_facts hm
  have hsz := mgB_size hm
  have ha0 := hmf.2.2.2.2.1
  have ha1 := hmf.2.2.2.2.2.1
  have hsh : IntKind.i64.wrap (m.a / 4) = m.a / 4 := by rw [IntKind.wrap_i64]; omega
  have HSH := fun why => Aside0.mk (shut_calls W0 L o S i why g h0 hw hg)
  have HW0 := Aside0.mk hW0
  have HNM := Aside0.mk (fun W => named_calls m.t (by omega) W)
  clear h h0 hf0 hW0 hw hg hm hmf
  by_cases h1 : m.k = 1
  · rw [if_pos h1] at hS2
    have k1 : (m.k == 1) = true := beq_iff_eq.2 h1
    have k2 : (m.k != 1) = false := by simp [bne, k1]
    by_cases h2 : m.a / 4 = 1
    · rw [if_pos h2] at hS2
      have h3 : ¬ namedL m.t.data.toList = true := fun e => hn ⟨h1, h2, e⟩
      rw [if_neg h3] at hS2
      have h4 : namedL m.t.data.toList = false := by simpa using h3
      have HS2 := Aside0.mk hS2
      have H4 := Aside0.mk h4
      have k3 : (m.a / 4 == 1) = true := beq_iff_eq.2 h2
      have k4 : (m.a / 4 != 1) = false := by simp [bne, k3]
      have HC := HSH 3
      clear hn h1 h2 h3 h4 hS2 HSH
      go_enter Tryz.func80, Tryz.ntmps80
      go_wp2_with (first | (go_at_call 109; rw [← HW0.out]; refine (HNM.out _).mono ?_; rintro e1 w1 ⟨rfl, hw1⟩; have hw1 := hw1.symm; subst hw1; rw [H4.out]) | (go_at_call 61; refine HC.out.mono ?_; rintro e2 w2 ⟨o2, rfl, hr2, hst2⟩; have HR2 := Aside0.mk hr2; have HST2 := Aside0.mk hst2; clear hr2 hst2))
      go_end0
      rw [HS2.out]
      exact ⟨o2, rfl, HR2.out, HST0.out.trans HST2.out⟩
    · rw [if_neg h2] at hS2
      have HS2 := Aside0.mk hS2
      have k3 : (m.a / 4 == 1) = false := beq_eq_false_iff_ne.2 h2
      have k4 : (m.a / 4 != 1) = true := by simp [bne, k3]
      have HC := HSH 2
      clear hn h1 h2 hS2 HSH
      go_enter Tryz.func80, Tryz.ntmps80
      go_wp2_with (first | (go_at_call 61; rw [← HW0.out]; refine HC.out.mono ?_; rintro e2 w2 ⟨o2, rfl, hr2, hst2⟩; have HR2 := Aside0.mk hr2; have HST2 := Aside0.mk hst2; clear hr2 hst2))
      go_end0
      rw [HS2.out]
      exact ⟨o2, rfl, HR2.out, HST0.out.trans HST2.out⟩
  · rw [if_neg h1] at hS2
    have HS2 := Aside0.mk hS2
    have k1 : (m.k == 1) = false := beq_eq_false_iff_ne.2 h1
    have k2 : (m.k != 1) = true := by simp [bne, k1]
    have HC := HSH 4
    clear hn h1 hS2 HSH
    go_enter Tryz.func80, Tryz.ntmps80
    go_wp2_with (first | (go_at_call 61; rw [← HW0.out]; refine HC.out.mono ?_; rintro e2 w2 ⟨o2, rfl, hr2, hst2⟩; have HR2 := Aside0.mk hr2; have HST2 := Aside0.mk hst2; clear hr2 hst2))
    go_end0
    rw [HS2.out]
    exact ⟨o2, rfl, HR2.out, HST0.out.trans HST2.out⟩
/-- what lies in the walk of hello -/
structure HelK (w : World) (L : Lay) (o0 : Own) (m : Mg) (o : Own) (S : St) (W : World) : Prop where
  rep : Rep W L o S
  st : Step (fun t => t ≠ .no) w o0 W o
  m : W.heap[w.heap.size]? = some (.cells #[.int .i64 m.k, .int .i64 m.a, .int .i64 m.b, .string m.t] 39 (0, 0))
  mo : o w.heap.size = .no
theorem HelK.go {w W W2 : World} {L : Lay} {o0 o o2 : Own} {m : Mg} {S S2 : St} (h : HelK w L o0 m o S W) (hr : Rep W2 L o2 S2) (hs : Step (fun t => t ≠ .no) W o W2 o2) : HelK w L o0 m o2 S2 W2 :=
  ⟨hr, h.st.trans hs, hs.fr.blk h.m (fun hx => hx h.mo), (hs.old _ (blk_lt h.m)).trans h.mo⟩
/-- the words of who comes -/
def joinL (i : Int) (t : ByteArray) : List UInt8 := [106, 111, 105, 110, 101, 100, 32] ++ dig i ++ [32] ++ t.data.toList
theorem joinL_str (i : Int) (t : ByteArray) : strL (joinL i t) = ⟨#[106, 111, 105, 110, 101, 100, 32]⟩ ++ strL (dig i) ++ ⟨#[32]⟩ ++ t := by
  unfold joinL
  simp only [strL_append, strL_data]
  rfl
set_option maxRecDepth 100000 in
set_option maxHeartbeats 8000000 in
theorem hello_yes (w : World) (L : Lay) (o : Own) (S : St) (i : Int) (g : Nat) (m : Mg) (h : Rep w L o S) (hw : WF S) (hg : L.cp i = some g) (hs : S.stOf i = 0) (hm : mgB m = true) (hk : m.k = 1) (ha : m.a / 4 = 1) (hna : namedL m.t.data.toList = true) :
    Calls Tryz.prog 80 #[.pointer (some ⟨L.bg, 0, none⟩), .pointer (some ⟨g, 0, none⟩), .agg #[.int .i64 m.k, .int .i64 m.a, .int .i64 m.b, .string m.t]] w (QB L o w (helloM S i m) (.tuple #[])) := by
  have hd := h.map.1.1 i (by simp [hg])
  have hiw := mpWf hd.1 hd.2
  obtain ⟨n, rfl⟩ : ∃ n : Nat, i = (n : Int) := ⟨i.toNat, by omega⟩
  obtain ⟨W0, hW0⟩ : ∃ W0, W0 = w.alloc (.cells #[.int .i64 m.k, .int .i64 m.a, .int .i64 m.b, .string m.t] 39) := ⟨_, rfl⟩
  have hf0 : Fr nope w W0 := by rw [hW0]; exact (Fr.refl nope w).alloc _
  have h0 := h.quiet hf0
  have hoM : o w.heap.size = .no := h.fresh _ (Nat.le_refl _)
  have hM : W0.heap[w.heap.size]? = some (.cells #[.int .i64 m.k, .int .i64 m.a, .int .i64 m.b, .string m.t] 39 (0, 0)) := by rw [hW0]; exact blk_new w _
  have hmf := mgB_facts hm
  have hsz := mgB_size hm
  have ha0 := hmf.2.2.2.2.1
  have ha1 := hmf.2.2.2.2.2.1
  have hb0 := hmf.2.2.2.2.2.2.1
  have hb1 := hmf.2.2.2.2.2.2.2.1
  have hsh : IntKind.i64.wrap (m.a / 4) = m.a / 4 := by rw [IntKind.wrap_i64]; omega
  have hbits := hello_a ha
  obtain ⟨bl, hbl⟩ : ∃ b, helloL m.a = b := ⟨_, rfl⟩
  obtain ⟨bb, hbb⟩ : ∃ b, helloB m.a = b := ⟨_, rfl⟩
  rw [hbl, hbb] at hbits
  obtain ⟨hbits1, hbits2⟩ := hbits
  -- the model, step by step
  obtain ⟨S1, hS1⟩ : ∃ S1, S1 = tell S (note (joinL n m.t)) := ⟨_, rfl⟩
  have hw1 := tell_wf hw (note (joinL n m.t))
  rw [← hS1] at hw1
  have hex : ∃ c, S1.cn n = some c ∧ c.st ≠ 1 := by
    have hx := hw1.2.1 n
    obtain ⟨c0, hc0, _⟩ := h.cnOf hg
    rw [hc0] at hx
    obtain ⟨c, hc⟩ := Option.isSome_iff_exists.1 hx
    refine ⟨c, hc, fun e => ?_⟩
    have := hw1.2.2.2.2 n (by unfold isOpen; rw [hc]; simp [e])
    obtain ⟨c1, hc1, he⟩ := isOpen_some this
    unfold St.stOf at hs
    rw [hc1] at hs
    have hs : c1.st = 0 := hs
    omega
  obtain ⟨c, hc, hcs⟩ := hex
  have hrn : S1.tb.roles n = none := by
    cases hr : S1.tb.roles n with
    | none => rfl
    | some r =>
      obtain ⟨c1, hc1, he⟩ := isOpen_some (hw1.1.tb.role n r hr).2.2
      rw [hc] at hc1; cases hc1
      exact absurd he hcs
  obtain ⟨at_, hat⟩ : ∃ a, a = startM S1.log S1.cf.a0 m.b bl := ⟨_, rfl⟩
  obtain ⟨S2, hS2⟩ : ∃ S2, S2 = S1.setc n (some { c with st := 1, name := m.t, vw := some ⟨at_, 0⟩ }) := ⟨_, rfl⟩
  have hw2 : WF S2 := by rw [hS2]; exact hw1.1.setOpen hc (by omega) ⟨by rw [hat]; exact startM_le _ _ _ _, Int.le_refl _, by show (0 : Int) ≤ 100; omega⟩
  have hop2 : isOpen S2 n = true := by rw [hS2]; unfold isOpen St.setc; simp
  obtain ⟨r, hr⟩ : ∃ r, r = roleFor S2 bb := ⟨_, rfl⟩
  have hrb := roleFor_b S2 bb
  rw [← hr] at hrb
  obtain ⟨S3, hS3⟩ : ∃ S3, S3 = { S2 with tb := S2.tb.join n r } := ⟨_, rfl⟩
  have hw3 : WF S3 := by rw [hS3]; exact hw2.tb' (hw2.tb.join hrb hop2)
  obtain ⟨S4, hS4⟩ : ∃ S4, S4 = send S3 n ⟨5, n, at_, strL (wordR r)⟩ := ⟨_, rfl⟩
  have hw4 : WF S4 := by rw [hS4]; exact (send_wf hw3 _ _).1
  obtain ⟨S5, hS5⟩ : ∃ S5, S5 = send S4 n ⟨9, S4.told, 0, strL []⟩ := ⟨_, rfl⟩
  have hw5 : WF S5 := by rw [hS5]; exact (send_wf hw4 _ _).1
  obtain ⟨S6, hS6⟩ : ∃ S6, S6 = helloM S n m := ⟨_, rfl⟩
  rw [← hS6]
  have hfin : S6 = if S5.ended = true then send S5 n ⟨15, S5.code, 0, strL []⟩ else S5 := by
    rw [hS6]
    unfold helloM
    rw [if_pos hk, if_pos ha, if_pos hna]
    have e1 : tell S (note ([106, 111, 105, 110, 101, 100, 32] ++ dig n ++ [32] ++ m.t.data.toList)) = S1 := hS1.symm
    simp only
    rw [e1, hc]
    simp only
    rw [show decide (m.a % 4 / 2 = 1) = bl from hbl, show decide (m.a % 2 = 1) = bb from hbb, ← hat, ← hS2, ← hr, ← hS3, ← hS4, ← hS5]
  have htb2 : S2.tb = S1.tb := by rw [hS2]; rfl
  have HK0 : Aside0 (HelK w L o m o S W0) := ⟨h0, h.step hf0, hM, hoM⟩
  have hct : ∀ W, Fr nope W0 W → Calls Tryz.prog 67 #[.pointer (some ⟨L.bg, 0, none⟩), .agg #[.int .i64 10, .int .i64 0, .int .i64 0, .string (⟨#[106, 111, 105, 110, 101, 100, 32]⟩ ++ strL (dig n) ++ ⟨#[32]⟩ ++ m.t)]] W (QB L o W S1 (.tuple #[])) := fun W hF => by
    have hd1 : (strL (dig (n : Int))).size ≤ 2 := dig_len _
    have := btell_calls W L o S (note (joinL n m.t)) (h0.quiet hF) hw (by show (strL (joinL n m.t)).size ≤ 1000000; rw [joinL_str]; simp only [ByteArray.size_append]; have e1 : (⟨#[106, 111, 105, 110, 101, 100, 32]⟩ : ByteArray).size = 7 := rfl; have e2 : (⟨#[32]⟩ : ByteArray).size = 1 := rfl; omega)
    rw [← hS1] at this
    unfold note at this
    simp only at this
    rw [joinL_str] at this
    exact this
  have HCT := Aside0.mk hct
  have hd1 : (strL (dig (n : Int))).size ≤ 2 := dig_len _
  have z1 : ¬ 9223372036854775807 < 7 + (strL (dig (n : Int))).size := by omega
  have z2 : ¬ 9223372036854775807 < 7 + (strL (dig (n : Int))).size + 1 := by omega
  have z3 : ¬ 9223372036854775807 < 7 + (strL (dig (n : Int))).size + 1 + m.t.size := by omega
  have HNM := Aside0.mk (fun W => named_calls m.t (by omega) W)
  have HNA := Aside0.mk hna
  have HG := Aside0.mk hg
  have HC := Aside0.mk hc
  have HW1 := Aside0.mk hw1.1
  have HW2 := Aside0.mk hw2
  have HW3 := Aside0.mk hw3
  have HW4 := Aside0.mk hw4
  have HW5 := Aside0.mk hw5
  have HS2 := Aside0.mk hS2
  have HS3 := Aside0.mk hS3
  have HS4 := Aside0.mk hS4
  have HS5 := Aside0.mk hS5
  have HFIN := Aside0.mk hfin
  have HAT := Aside0.mk hat
  have HRR := Aside0.mk hr
  have HTB := Aside0.mk (And.intro htb2 hrn)
  have HW0 := Aside0.mk hW0
  have hiN1 := hd.1
  have hiN2 := hd.2
  have g0 : W0.cell? ⟨g, 0, none⟩ = some (.int .i64 (n : Int)) := by
    obtain ⟨c0, hc0, fg0, lg0, og0, vv0, q0, _⟩ := h0.cnOf hg
    exact (blk_cell q0.1 0).trans rfl
  have m0 : W0.cell? ⟨w.heap.size, 0, none⟩ = some (.int .i64 1) := by rw [← hk]; exact (blk_cell hM 0).trans rfl
  have m1 : W0.cell? ⟨w.heap.size, 1, none⟩ = some (.int .i64 m.a) := (blk_cell hM 1).trans rfl
  have m3 : W0.cell? ⟨w.heap.size, 3, none⟩ = some (.string m.t) := (blk_cell hM 3).trans rfl
  have hgl0 : g < W0.heap.size := (h0.stOf hg).2
  have hml0 := blk_lt hM
  have k1 : (m.k == 1) = true := beq_iff_eq.2 hk
  have k2 : (m.k != 1) = false := by simp [bne, k1]
  have k3 : (m.a / 4 == 1) = true := beq_iff_eq.2 ha
  have k4 : (m.a / 4 != 1) = false := by simp [bne, k3]
  clear h hw hg hs hm hk ha hna hf0 h0 hoM hM hmf hbl hbb hS1 hw1 hc hcs hrn hat hS2 hw2 hop2 hr hS3 hw3 hS4 hw4 hS5 hw5 hS6 hfin htb2 hct hd hW0
  go_enter Tryz.func80, Tryz.ntmps80
  go_upto_region 7 with (go_at_call 109; rw [← HW0.out]; refine (HNM.out _).mono ?_; rintro e1 w1 ⟨rfl, hw1⟩; have hw1 := hw1.symm; subst hw1; rw [HNA.out])
  go_cut [] (fun wx => ∃ o1, Aside0 (HelK w L o m o1 S1 wx))
  case first =>
    go_region_with (first | (go_at_call 91; refine (itoa_calls n (by omega) _).mono ?_; rintro e1 w1 ⟨rfl, hw1⟩; have hw1 := hw1.symm; subst hw1) | (go_at_call 67; refine (HCT.out _ (Fr.refl nope W0).drew).mono ?_; rintro e2 w2 ⟨o2, rfl, hr2, hst2⟩; have HK2 := Aside0.mk ((HK0.out.go (HK0.out.rep.quiet (Fr.refl nope W0).drew) (HK0.out.rep.step (Fr.refl nope W0).drew)).go hr2 hst2); clear hr2 hst2))
    all_goals
      go_wp2
      go_meet
      exact ⟨o2, HK2⟩
  case rest =>
    obtain ⟨o1, HK1⟩ := hcut
    -- the state and the name
    have hrep1 := HK1.out.rep
    obtain ⟨c0, hc0, fg, lg, og, vv, p0, p1, p2, p3, p4⟩ := hrep1.cnOf HG.out
    rw [HC.out] at hc0
    cases hc0
    obtain ⟨S1a, hS1a⟩ : ∃ S1a, S1a = S1.setc n (some { c with st := 1, name := m.t, idle := c.idle }) := ⟨_, rfl⟩
    have h8 : ∀ W2, Fr (only g) wc W2 → W2.heap[g]? = some (.cells (conCells n { c with st := 1, name := m.t, idle := c.idle } fg lg og vv) 121 (0, 0)) → HelK w L o m o1 S1a W2 := fun W2 hF hB => by
      have := hrep1.conC HG.out p0 p1 p2 p3 p4 1 m.t c.idle hB hF
      rw [← hS1a] at this
      exact HK1.out.go this.1 this.2
    have H8 := Aside0.mk h8
    have HP0 := Aside0.mk p0
    have HS1A := Aside0.mk hS1a
    have c1 : wc.cell? ⟨g, 1, none⟩ = some (.int .i64 c.st) := (blk_cell p0.1 1).trans rfl
    have c2 : wc.cell? ⟨g, 2, none⟩ = some (.string c.name) := (blk_cell p0.1 2).trans rfl
    have f1 := blk_frozen p0.1 1
    have f2 := blk_frozen p0.1 2
    have d3 : wc.cell? ⟨w.heap.size, 3, none⟩ = some (.string m.t) := (blk_cell HK1.out.m 3).trans rfl
    have hgl1 := blk_lt p0.1
    have hml1 := blk_lt HK1.out.m
    have hne : w.heap.size ≠ g := fun e => by have h1 := HK1.out.mo; rw [e, p0.2] at h1; cases h1
    clear hrep1 p0 p1 p2 p3 p4 hS1a h8 g0 m0 m1 m3
    go_upto_region 8 with fail
    go_cut [] (fun wx => Aside0 (HelK w L o m o1 S1a wx))
    case first =>
      go_region
      all_goals
        go_wp2
        go_meet
        exact ⟨H8.out _ (((Fr.refl (only g) wc).set (fun _ => rfl) _ _).set (fun _ => rfl) _ _).drew (by first | exact blk_set (blk_set HP0.out.1 1 _) 2 _ | exact blk_set (blk_set HP0.out.1 2 _) 1 _)⟩
    case rest =>
      have HK2 := hcut
      clear c1 c2 f1 f2 d3 hgl1 hml1
      -- the view
      have hrep2 := HK2.out.rep
      have hS1c : S1a.cn n = some { c with st := 1, name := m.t, idle := c.idle } := by rw [HS1A.out]; unfold St.setc; simp
      obtain ⟨c0, hc0, fg2, lg2, og2, vv2, p0, p1, p2, p3, p4⟩ := hrep2.cnOf HG.out
      rw [hS1c] at hc0
      cases hc0
      have hlog1 : S1a.log = S1.log := by rw [HS1A.out]; rfl
      have hcf1 : S1a.cf = S1.cf := by rw [HS1A.out]; rfl
      obtain ⟨gb, hLg, hl1, hl2⟩ := hrep2.log
      rw [hlog1, hcf1] at hLg
      have hcb := cf_b HW1.out
      have h810 := HW1.out.log
      obtain ⟨nn, hnn⟩ : ∃ nn, nn = S1.cf.a0.toNat := ⟨_, rfl⟩
      have hna2 : S1.cf.a0 = (nn : Int) := by omega
      rw [← hnn] at hLg
      have hsetc : S1a.setc n (some { c with st := 1, name := m.t, idle := c.idle, vw := some ⟨at_, 0⟩ }) = S2 := by rw [HS1A.out, setc_setc, HS2.out]
      have h9 : ∀ w1 w2 gv, Fr nope wc.drew w1 → wc.heap.size ≤ gv → IsV w1 gv ⟨at_, 0⟩ → w2.heap[g]? = some (.cells (conCells n { c with st := 1, name := m.t, idle := c.idle } fg2 lg2 og2 (.pointer (some ⟨gv, 0, none⟩))) 121 (0, 0)) → Fr (only g) w1 w2 → ∃ o2, HelK w L o m o2 S2 w2 := fun w1 w2 gv q1 q2 q3 q4 q5 => by
        obtain ⟨o2, r2, s2⟩ := hrep2.newView HG.out p0 p1 p2 p3 ((Fr.refl nope wc).drew.trans q1 (fun _ _ h => h)) q2 q3 q4 q5
        rw [hsetc] at r2
        exact ⟨o2, HK2.out.go r2 s2⟩
      have H9 := Aside0.mk h9
      have hcall := vnew_calls S1.log nn L.gl gb m.b bl wc.drew (hLg.fr (Fr.refl nope wc).drew (fun h => h) (fun h => h)) (by omega) (by omega) (by omega) ⟨hb0, hb1⟩
      rw [← hna2, ← HAT.out] at hcall
      have HCALL := Aside0.mk hcall
      have HP0 := Aside0.mk p0
      have c7 : wc.cell? ⟨g, 7, none⟩ = some vv2 := (blk_cell p0.1 7).trans rfl
      have d8 : wc.cell? ⟨L.bg, 8, none⟩ = some (.pointer (some ⟨L.gl, 0, none⟩)) := (blk_cell hrep2.brk.1 8).trans rfl
      have d1 : wc.cell? ⟨w.heap.size, 1, none⟩ = some (.int .i64 m.a) := (blk_cell HK2.out.m 1).trans rfl
      have d2 : wc.cell? ⟨w.heap.size, 2, none⟩ = some (.int .i64 m.b) := (blk_cell HK2.out.m 2).trans rfl
      have hbgl2 := blk_lt hrep2.brk.1
      have HK9 : Aside0 (∀ w', Fr (only g) wc w' → w'.cell? ⟨L.bg, 8, none⟩ = some (.pointer (some ⟨L.gl, 0, none⟩)) ∧ w'.cell? ⟨w.heap.size, 1, none⟩ = some (.int .i64 m.a) ∧ w'.cell? ⟨w.heap.size, 2, none⟩ = some (.int .i64 m.b)) := ⟨fun w' hF => by
        have b1 := hF.blk hrep2.brk.1 (fun e => by have h2 := hrep2.brk.2; rw [show L.bg = g from e, p0.2] at h2; cases h2)
        have b2 := hF.blk HK2.out.m (fun e => hne e)
        exact ⟨(blk_cell b1 8).trans rfl, (blk_cell b2 1).trans rfl, (blk_cell b2 2).trans rfl⟩⟩
      clear hrep2 hS1c p0 p1 p2 p3 p4 hlog1 hcf1 hLg hl1 hl2 hcb h810 hnn hna2 hsetc h9 hcall
      go_upto_region 9 with fail
      go_cut [] (fun wx => ∃ o2, Aside0 (HelK w L o m o2 S2 wx))
      case first =>
        go_region_held3 (fun w' => w'.cell? ⟨L.bg, 8, none⟩ = some (.pointer (some ⟨L.gl, 0, none⟩)) ∧ w'.cell? ⟨w.heap.size, 1, none⟩ = some (.int .i64 m.a) ∧ w'.cell? ⟨w.heap.size, 2, none⟩ = some (.int .i64 m.b))
          (first | exact HK9.out _ (Fr.refl _ wc).drew | exact HK9.out _ (frAny HF1.out) | exact HK9.out _ (((frAny (S := only g) HF1.out).trans ((Fr.refl (only g) w1).set (fun _ => rfl) 7 _) (fun _ _ h => h))) | fail)
          (first | (go_at_call 110; refine HCALL.out.mono ?_; rintro e1 w1 ⟨gv, rfl, hv1, hle1, hf1⟩; have HV1 := Aside0.mk hv1; have HF1 := Aside0.mk ((Fr.refl nope wc).drew.trans hf1 (fun _ _ h => h)); have HF1' := Aside0.mk hf1; have HLE1 := Aside0.mk hle1; have hB1 := ((Fr.refl nope wc).drew.trans hf1 (fun _ _ h => h)).blk HP0.out.1 (fun h => h); have c7' : w1.cell? ⟨g, 7, none⟩ = some vv2 := (blk_cell hB1 7).trans rfl; have f7 := blk_frozen hB1 7; have HB1 := Aside0.mk hB1; clear hv1 hf1 hle1 hB1) | fail)
        all_goals
          go_wp2
          go_meet
          obtain ⟨o2, hk2⟩ := H9.out w1 _ gv HF1'.out HLE1.out HV1.out (blk_set HB1.out 7 _) ((Fr.refl (only g) w1).set (fun _ => rfl) 7 _)
          exact ⟨o2, ⟨hk2⟩⟩
      case rest =>
        obtain ⟨o2, HK3⟩ := hcut
        clear c7 d8 d1 d2 hbgl2
        -- the role, and the floor's table
        have hrep3 := HK3.out.rep
        obtain ⟨mb, qv, hT, hgt, hmb, hqv⟩ := hrep3.tab
        have HT := Aside0.mk hT
        have HTG := Aside0.mk (And.intro hmb hqv)
        have hKK := hrep3.tabK HG.out hgt hmb
        have HKK := Aside0.mk hKK
        have d1 : wc.cell? ⟨w.heap.size, 1, none⟩ = some (.int .i64 m.a) := (blk_cell HK3.out.m 1).trans rfl
        have hml3 := blk_lt HK3.out.m
        have hrolec := role_calls wc L o2 S2 bb hrep3 HW2.out
        rw [← HRR.out] at hrolec
        have HRC := Aside0.mk hrolec
        have hjoin : ∀ W, Fr nope wc W → Calls Tryz.prog 112 #[.pointer (some ⟨L.gt, 0, none⟩), .int .i64 (n : Int), .int .i64 r] W fun e w' => e = .returned (.bool true) ∧ Fr (tbS L.gt mb) W w' ∧ ∃ o3, HelK w L o m o3 S3 w' := fun W hF => by
          refine (tjoin_calls S2.tb n r L.gt mb qv W (HT.out.fr hF (fun h => h) (fun h => h) (fun _ _ h => h)) hiN1 hiN2 hrb.1 hrb.2 (by rw [HTB.out.1]; exact HTB.out.2)).mono ?_
          intro e w' hq
          obtain ⟨he, o3, r3, s3⟩ := HK3.out.rep.tabQ (HT.out.fr hF (fun h => h) (fun h => h) (fun _ _ h => h)) hF HTG.out.1 HTG.out.2 hq
          rw [← HS3.out] at r3
          obtain ⟨_, _, _, _, hf9⟩ := hq
          exact ⟨he, hf9, o3, HK3.out.go r3 s3⟩
        have HJ := Aside0.mk hjoin
        clear hrep3 hT hgt hmb hqv hKK hrolec hjoin
        go_upto_region 11 with (go_at_call 111; refine HRC.out.mono ?_; rintro e1 w1 ⟨rfl, hf1⟩; have HF1 := Aside0.mk hf1; have hk1 := HKK.out w1 (frAny hf1); have c10 := hk1.1; have c00 := hk1.2; have hbg1 := Nat.lt_of_lt_of_le (blk_lt HK3.out.rep.brk.1) hf1.size; have hgl2 := Nat.lt_of_lt_of_le (HK3.out.rep.stOf HG.out).2 hf1.size; clear hf1 hk1)
        go_cut [] (fun wx => ∃ o3, Aside0 (HelK w L o m o3 S3 wx))
        case first =>
          go_region_held3 (fun w' => w'.cell? ⟨L.bg, 10, none⟩ = some (.pointer (some ⟨L.gt, 0, none⟩)) ∧ w'.cell? ⟨g, 0, none⟩ = some (.int .i64 (n : Int)))
            (first | exact HKK.out _ (frAny HF1.out.drew) | exact HKK.out _ HF3.out | fail)
            (first | (go_at_call 112; refine (HJ.out _ HF1.out.drew).mono ?_; rintro e3 w3 ⟨rfl, hf3, o3, hk3⟩; have HF3 := Aside0.mk ((frAny (S := tbS L.gt mb) HF1.out.drew).trans hf3 (fun _ _ h => h)); have HK3' := Aside0.mk hk3; clear hf3 hk3) | fail)
          all_goals
            go_wp2
            go_meet
            exact ⟨o3, HK3'⟩
        case rest =>
          obtain ⟨o3, HK4⟩ := hcut
          clear c10 c00 hbg1 hgl2 d1 hml3
          -- welcome
          have hrep4 := HK4.out.rep
          have hst4 : S3.stOf n = 1 := by rw [HS3.out]; show S2.stOf n = 1; rw [HS2.out]; unfold St.stOf St.setc; simp
          obtain ⟨c4, v4, fg4, lg4, og4, gv4, hcn4, _, hv4, q0, q1, q2, q3, hV4, hgv4⟩ := hrep4.vwOf HW3.out HG.out hst4
          have hv5 : v4 = ⟨at_, 0⟩ := by
            have : S3.cn n = some { c with st := 1, name := m.t, vw := some ⟨at_, 0⟩ } := by rw [HS3.out]; show S2.cn n = _; rw [HS2.out]; unfold St.setc; simp
            rw [this] at hcn4
            cases hcn4
            cases hv4
            rfl
          rw [hv5] at hV4
          have HV4 : Aside0 (IsV wc.drew gv4 ⟨at_, 0⟩) := ⟨(Fr.refl nope wc).drew.blk hV4 (fun h => h)⟩
          have g0 : wc.cell? ⟨g, 0, none⟩ = some (.int .i64 (n : Int)) := (blk_cell q0.1 0).trans rfl
          have g7 : wc.cell? ⟨g, 7, none⟩ = some (.pointer (some ⟨gv4, 0, none⟩)) := (blk_cell q0.1 7).trans rfl
          have hgl4 := blk_lt q0.1
          have hwl : (strL (wordR r)).size ≤ 8 := word_len r
          have hsend4 : ∀ W, Fr nope wc W → Calls Tryz.prog 82 #[.pointer (some ⟨L.bg, 0, none⟩), .pointer (some ⟨g, 0, none⟩), .agg #[.int .i64 5, .int .i64 (n : Int), .int .i64 at_, .string (strL (wordR r))]] W fun e w' => e = .returned (.tuple #[]) ∧ ∃ o4, HelK w L o m o4 S4 w' := fun W hF => by
            refine (bsend_calls W L o3 S3 n g ⟨5, n, at_, strL (wordR r)⟩ (HK4.out.rep.quiet hF) HW3.out HG.out (by show (strL (wordR r)).size ≤ 1000000; omega)).mono ?_
            rintro e w' ⟨o4, he, r4, s4⟩
            rw [← HS4.out] at r4
            exact ⟨he, o4, HK4.out.go r4 ((HK4.out.rep.step hF).trans s4)⟩
          have HSEND4 := Aside0.mk hsend4
          clear hrep4 hst4 hcn4 hv4 q0 q1 q2 q3 hV4 hgv4 hv5 hsend4
          go_upto_region 12 with fail
          go_cut [] (fun wx => ∃ o4, Aside0 (HelK w L o m o4 S4 wx))
          case first =>
            go_region_with (first | (go_at_call 113; refine (vat_calls gv4 ⟨at_, 0⟩ _ HV4.out).mono ?_; rintro e4 w4 ⟨rfl, hw4⟩; have hw4 := hw4.symm; subst hw4) | (go_at_call 114; refine (word_calls r hrb.1 hrb.2 _).mono ?_; rintro e5 w5 ⟨rfl, hw5⟩; have hw5 := hw5.symm; subst hw5) | (go_at_call 82; refine (HSEND4.out _ (Fr.refl nope wc).drew).mono ?_; rintro e6 w6 ⟨rfl, o6, hk6⟩; have HK6 := Aside0.mk hk6; clear hk6))
            all_goals
              go_wp2
              go_meet
              exact ⟨o6, HK6⟩
          case rest =>
            obtain ⟨o4, HK5⟩ := hcut
            clear g0 g7 hgl4
            have d16 : wc.cell? ⟨L.bg, 16, none⟩ = some (.int .i64 S4.told) := (blk_cell HK5.out.rep.brk.1 16).trans rfl
            have hbg5 := blk_lt HK5.out.rep.brk.1
            have hsend5 : Calls Tryz.prog 82 #[.pointer (some ⟨L.bg, 0, none⟩), .pointer (some ⟨g, 0, none⟩), .agg #[.int .i64 9, .int .i64 S4.told, .int .i64 0, .string ⟨#[]⟩]] wc fun e w' => e = .returned (.tuple #[]) ∧ ∃ o5, HelK w L o m o5 S5 w' := by
              have hem : (strL [] : ByteArray) = ⟨#[]⟩ := rfl
              have hq := bsend_calls wc L o4 S4 n g ⟨9, S4.told, 0, strL []⟩ HK5.out.rep HW4.out HG.out (show (0 : Nat) ≤ 1000000 by omega)
              rw [← HS5.out] at hq
              simp only at hq
              rw [hem] at hq
              refine hq.mono ?_
              rintro e w' ⟨o5, he, r5, s5⟩
              exact ⟨he, o5, HK5.out.go r5 s5⟩
            have HSEND5 := Aside0.mk hsend5
            obtain ⟨te, hte⟩ : ∃ x, x = S4.told := ⟨_, rfl⟩
            rw [← hte] at d16 HSEND5
            clear hsend5 hte
            have hfn := HFIN.out
            cases he : S5.ended with
            | false =>
              rw [he, if_neg (by decide)] at hfn
              have HE := Aside0.mk he
              have HFN := Aside0.mk hfn
              clear he hfn
              go_wp2_with (go_at_call 82; refine HSEND5.out.mono ?_; rintro e6 w6 ⟨rfl, o6, hk6⟩; have d14 : w6.cell? ⟨L.bg, 14, none⟩ = some (.bool S5.ended) := (blk_cell hk6.rep.brk.1 14).trans rfl; rw [HE.out] at d14; have hbg6 := blk_lt hk6.rep.brk.1; have HK6 := Aside0.mk hk6; clear hk6)
              go_end0
              rw [HFN.out]
              exact ⟨o6, rfl, HK6.out.rep, HK6.out.st⟩
            | true =>
              rw [he, if_pos rfl] at hfn
              have HE := Aside0.mk he
              have HFN := Aside0.mk hfn
              have hem : (strL [] : ByteArray) = ⟨#[]⟩ := rfl
              have HEM := Aside0.mk hem
              obtain ⟨cd, hcd⟩ : ∃ x, x = S5.code := ⟨_, rfl⟩
              have HCD := Aside0.mk hcd
              clear he hfn hem hcd
              go_wp2_with (first | (go_at_call 82; (with_reducible refine HSEND5.out.mono ?_); rintro e6 w6 ⟨rfl, o6, hk6⟩; have d14 : w6.cell? ⟨L.bg, 14, none⟩ = some (.bool S5.ended) := (blk_cell hk6.rep.brk.1 14).trans rfl; have d15 : w6.cell? ⟨L.bg, 15, none⟩ = some (.int .i64 S5.code) := (blk_cell hk6.rep.brk.1 15).trans rfl; rw [HE.out] at d14; rw [← HCD.out] at d15; have hbg6 := blk_lt hk6.rep.brk.1; have HK6 := Aside0.mk hk6; clear hk6) | (go_at_call 82; have hq7 := bsend_calls w6 L o6 S5 n g ⟨15, cd, 0, ⟨#[]⟩⟩ HK6.out.rep HW5.out HG.out (show (0 : Nat) ≤ 1000000 by omega); simp only at hq7; (with_reducible refine hq7.mono ?_); rintro e7 w7 ⟨o7, rfl, hr7, hst7⟩; have HR7 := Aside0.mk hr7; have HST7 := Aside0.mk hst7; clear hr7 hst7 hq7))
              go_end0
              rw [HFN.out, HEM.out, ← HCD.out]
              exact ⟨o7, rfl, HR7.out, HK6.out.st.trans HST7.out⟩
theorem hello_calls (w : World) (L : Lay) (o : Own) (S : St) (i : Int) (g : Nat) (m : Mg) (h : Rep w L o S) (hw : WF S) (hg : L.cp i = some g) (hs : S.stOf i = 0) (hm : mgB m = true) :
    Calls Tryz.prog 80 #[.pointer (some ⟨L.bg, 0, none⟩), .pointer (some ⟨g, 0, none⟩), .agg #[.int .i64 m.k, .int .i64 m.a, .int .i64 m.b, .string m.t]] w (QB L o w (helloM S i m) (.tuple #[])) := by
  by_cases hn : m.k = 1 ∧ m.a / 4 = 1 ∧ namedL m.t.data.toList = true
  · exact hello_yes w L o S i g m h hw hg hs hm hn.1 hn.2.1 hn.2.2
  · exact hello_no w L o S i g m h hw hg hm hn
end Go.Proofs.YtfkamoiamebngaaGreatDoor.BroW

/- broker: message. -/
namespace Go.Proofs.YtfkamoiamebngaaGreatDoor.BroW
open Go.RowKit Go.Proofs.YtfkamoiamebngaaGreatDoorW.PrintWords Go.Proofs.YtfkamoiamebngaaGreatDoorW.PrintMore Go.Proofs.YtfkamoiamebngaaGreatDoor.Fr Go.Proofs.YtfkamoiamebngaaGreatDoor.ScrW Go.Proofs.YtfkamoiamebngaaGreatDoor.ScrP Go.Proofs.YtfkamoiamebngaaGreatDoor.Mod
set_option linter.unusedVariables false
set_option linter.unusedSimpArgs false

set_option maxRecDepth 100000 in
set_option maxHeartbeats 8000000 in
theorem message_calls (w : World) (L : Lay) (o : Own) (S : St) (i : Int) (g : Nat) (f : Frm) (A : Option Addr) (cp : Nat) (h : Rep w L o S) (hw : WF S) (hg : L.cp i = some g) (hs : S.stOf i ≠ 2)
    (hk : 0 ≤ f.1 ∧ f.1 ≤ 255) (hl : f.2.length ≤ 2048) (hc : f.2.length ≤ cp) (hcm : cp ≤ 9223372036854775807) (hr : ReadsInt w .u8 A f.2.length f.2) (hb : isB f.2) :
    Calls Tryz.prog 58 #[.pointer (some ⟨L.bg, 0, none⟩), .pointer (some ⟨g, 0, none⟩), .agg #[.int .u8 f.1, .slice A f.2.length cp]] w (QB L o w (messageM S i f) (.tuple #[])) := by
  have hst : S.stOf i = 0 ∨ S.stOf i = 1 := by
    obtain ⟨c, hcn, _⟩ := h.cnOf hg
    have := (hw.con i c hcn).2.2.st
    unfold St.stOf at hs ⊢
    rw [hcn] at hs ⊢
    simp only at hs ⊢
    omega
  have hf0 : Fr nope w (w.alloc (.cells #[.int .u8 f.1, .slice A f.2.length cp] 50)) := (Fr.refl nope w).alloc _
  have hof := mof_calls f.1 f.2 A cp (w.alloc (.cells #[.int .u8 f.1, .slice A f.2.length cp] 50)) hk hl hc hcm (hf0.reads hr (fun _ _ h => h)) hb
  obtain ⟨m, ok, hmo⟩ : ∃ m ok, mOf f = (m, ok) := ⟨_, _, rfl⟩
  unfold MOf at hof
  rw [show ((f.1, f.2) : Frm) = f from rfl, hmo] at hof
  unfold mgV at hof
  simp only at hof
  have HOF := Aside0.mk hof
  have HF0 := Aside0.mk hf0
  have HR := Aside0.mk h
  have HW := Aside0.mk hw
  have HG := Aside0.mk hg
  obtain ⟨S2, hS2⟩ : ∃ S2, S2 = messageM S i f := ⟨_, rfl⟩
  rw [← hS2]
  unfold messageM at hS2
  rw [hmo] at hS2
  simp only at hS2
  have hmm : ok = true → mgB m = true := fun e => by have := mOf_ok (f := f); rw [hmo] at this; exact this e
  clear h hw hg hs hk hl hc hcm hr hb hf0 hof hmo
  cases ok with
  | false =>
    rw [if_pos rfl] at hS2
    have HS2 := Aside0.mk hS2
    clear hS2 hmm hst
    go_enter Tryz.func58, Tryz.ntmps58
    go_wp2_with (first | (go_at_call 16; refine HOF.out.mono ?_; rintro e1 w1 ⟨rfl, hf1⟩; have hst1 := (HR.out.quiet (HF0.out.trans hf1 (fun _ _ h => h))).stOf HG.out; have c1 := hst1.1; have hgl1 := hst1.2;  have HF1 := Aside0.mk (HF0.out.trans hf1 (fun _ _ h => h)); clear hf1 hst1) | (go_at_call 61; refine (shut_calls _ L o S i 4 g (HR.out.quiet (HF1.out.alloc _)) HW.out HG.out).mono ?_; rintro e2 w2 ⟨o2, rfl, hr2, hst2⟩; have HR2 := Aside0.mk hr2; have HST2 := Aside0.mk ((HR.out.step (HF1.out.alloc _)).trans hst2); clear hr2 hst2))
    go_end0
    rw [HS2.out]
    exact ⟨o2, rfl, HR2.out, HST2.out⟩
  | true =>
    rw [if_neg (by decide)] at hS2
    have hm := hmm rfl
    have HM := Aside0.mk hm
    clear hmm hm
    rcases hst with hst | hst
    · rw [if_pos hst] at hS2
      have HS2 := Aside0.mk hS2
      have HST := Aside0.mk hst
      clear hS2 hst
      go_enter Tryz.func58, Tryz.ntmps58
      go_wp2_with (first | (go_at_call 16; refine HOF.out.mono ?_; rintro e1 w1 ⟨rfl, hf1⟩; have hst1 := (HR.out.quiet (HF0.out.trans hf1 (fun _ _ h => h))).stOf HG.out; have c1 := hst1.1; have hgl1 := hst1.2; rw [HST.out] at c1; have HF1 := Aside0.mk (HF0.out.trans hf1 (fun _ _ h => h)); clear hf1 hst1) | (go_at_call 80; refine (hello_calls _ L o S i g m (HR.out.quiet (HF1.out.alloc _)) HW.out HG.out HST.out HM.out).mono ?_; rintro e2 w2 ⟨o2, rfl, hr2, hst2⟩; have HR2 := Aside0.mk hr2; have HST2 := Aside0.mk ((HR.out.step (HF1.out.alloc _)).trans hst2); clear hr2 hst2))
      go_end0
      rw [HS2.out]
      exact ⟨o2, rfl, HR2.out, HST2.out⟩
    · rw [if_neg (by omega)] at hS2
      have HST := Aside0.mk hst
      clear hst
      by_cases h2 : m.k = 2
      · rw [if_pos h2] at hS2
        have HS2 := Aside0.mk hS2
        have t2 : (m.k == 2) = true := beq_iff_eq.2 h2
        clear hS2 h2
        go_enter Tryz.func58, Tryz.ntmps58
        go_wp2_with (first | (go_at_call 16; refine HOF.out.mono ?_; rintro e1 w1 ⟨rfl, hf1⟩; have hst1 := (HR.out.quiet (HF0.out.trans hf1 (fun _ _ h => h))).stOf HG.out; have c1 := hst1.1; have hgl1 := hst1.2; rw [HST.out] at c1; have HF1 := Aside0.mk (HF0.out.trans hf1 (fun _ _ h => h)); clear hf1 hst1) | (go_at_call 81; refine (keys_calls _ L o S i g m (HR.out.quiet (HF1.out.alloc _)) HW.out HG.out HM.out).mono ?_; rintro e2 w2 ⟨o2, rfl, hr2, hst2⟩; have HR2 := Aside0.mk hr2; have HST2 := Aside0.mk ((HR.out.step (HF1.out.alloc _)).trans hst2); clear hr2 hst2))
        go_end0
        rw [HS2.out]
        exact ⟨o2, rfl, HR2.out, HST2.out⟩
      rw [if_neg h2] at hS2
      have t2 : (m.k == 2) = false := beq_eq_false_iff_ne.2 h2
      by_cases h3 : m.k = 3
      · rw [if_pos h3] at hS2
        have HS2 := Aside0.mk hS2
        have t3 : (m.k == 3) = true := beq_iff_eq.2 h3
        clear hS2 h3
        have hem : (strL [] : ByteArray) = ⟨#[]⟩ := rfl
        rw [hem] at HS2
        clear hem
        go_enter Tryz.func58, Tryz.ntmps58
        go_wp2_with (first | (go_at_call 16; refine HOF.out.mono ?_; rintro e1 w1 ⟨rfl, hf1⟩; have hst1 := (HR.out.quiet (HF0.out.trans hf1 (fun _ _ h => h))).stOf HG.out; have c1 := hst1.1; have hgl1 := hst1.2; rw [HST.out] at c1; have HF1 := Aside0.mk (HF0.out.trans hf1 (fun _ _ h => h)); clear hf1 hst1) | (go_at_call 82; refine (bsend_calls _ L o S i g ⟨14, 0, 0, ⟨#[]⟩⟩ (HR.out.quiet (HF1.out.alloc _)) HW.out HG.out (show (0 : Nat) ≤ 1000000 by omega)).mono ?_; rintro e2 w2 ⟨o2, rfl, hr2, hst2⟩; have HR2 := Aside0.mk hr2; have HST2 := Aside0.mk ((HR.out.step (HF1.out.alloc _)).trans hst2); clear hr2 hst2))
        go_end0
        rw [HS2.out]
        exact ⟨o2, rfl, HR2.out, HST2.out⟩
      rw [if_neg h3] at hS2
      have t3 : (m.k == 3) = false := beq_eq_false_iff_ne.2 h3
      by_cases h4 : m.k = 4
      · rw [if_pos h4] at hS2
        have HS2 := Aside0.mk hS2
        have t4 : (m.k == 4) = true := beq_iff_eq.2 h4
        clear hS2 h4
        go_enter Tryz.func58, Tryz.ntmps58
        go_wp2_with (first | (go_at_call 16; refine HOF.out.mono ?_; rintro e1 w1 ⟨rfl, hf1⟩; have hst1 := (HR.out.quiet (HF0.out.trans hf1 (fun _ _ h => h))).stOf HG.out; have c1 := hst1.1; have hgl1 := hst1.2; rw [HST.out] at c1; have HF1 := Aside0.mk (HF0.out.trans hf1 (fun _ _ h => h)); clear hf1 hst1) | (go_at_call 61; refine (shut_calls _ L o S i 0 g (HR.out.quiet (HF1.out.alloc _)) HW.out HG.out).mono ?_; rintro e2 w2 ⟨o2, rfl, hr2, hst2⟩; have HR2 := Aside0.mk hr2; have HST2 := Aside0.mk ((HR.out.step (HF1.out.alloc _)).trans hst2); clear hr2 hst2))
        go_end0
        rw [HS2.out]
        exact ⟨o2, rfl, HR2.out, HST2.out⟩
      rw [if_neg h4] at hS2
      have t4 : (m.k == 4) = false := beq_eq_false_iff_ne.2 h4
      have HS2 := Aside0.mk hS2
      clear hS2
      go_enter Tryz.func58, Tryz.ntmps58
      go_wp2_with (first | (go_at_call 16; refine HOF.out.mono ?_; rintro e1 w1 ⟨rfl, hf1⟩; have hst1 := (HR.out.quiet (HF0.out.trans hf1 (fun _ _ h => h))).stOf HG.out; have c1 := hst1.1; have hgl1 := hst1.2; rw [HST.out] at c1; have HF1 := Aside0.mk (HF0.out.trans hf1 (fun _ _ h => h)); clear hf1 hst1) | (go_at_call 61; refine (shut_calls _ L o S i 4 g (HR.out.quiet (HF1.out.alloc _)) HW.out HG.out).mono ?_; rintro e2 w2 ⟨o2, rfl, hr2, hst2⟩; have HR2 := Aside0.mk hr2; have HST2 := Aside0.mk ((HR.out.step (HF1.out.alloc _)).trans hst2); clear hr2 hst2))
      go_end0
      rw [HS2.out]
      exact ⟨o2, rfl, HR2.out, HST2.out⟩
end Go.Proofs.YtfkamoiamebngaaGreatDoor.BroW

/- broker: Tick, Bytes. -/
namespace Go.Proofs.YtfkamoiamebngaaGreatDoor.BroW
open Go.RowKit Go.Proofs.YtfkamoiamebngaaGreatDoorW.PrintWords Go.Proofs.YtfkamoiamebngaaGreatDoorW.PrintMore Go.Proofs.YtfkamoiamebngaaGreatDoor.Fr Go.Proofs.YtfkamoiamebngaaGreatDoor.ScrW Go.Proofs.YtfkamoiamebngaaGreatDoor.ScrP Go.Proofs.YtfkamoiamebngaaGreatDoor.Mod
set_option linter.unusedVariables false
set_option linter.unusedSimpArgs false

theorem tick_fold (cp : Int → Option Nat) (l : List Int) : ∀ S : St, (∀ i, (S.cn i).isSome = (cp i).isSome) → WF S → (l.filter fun i => (cp i).isSome).foldl tickOne S = l.foldl tickOne S := by
  induction l with
  | nil => intro S _ _; rfl
  | cons a l ih =>
    intro S hd hw
    simp only [List.filter_cons, List.foldl_cons]
    by_cases ha : (cp a).isSome = true
    · rw [if_pos ha, List.foldl_cons]
      refine ih _ (fun i => ?_) (tick1_ok hw a).1
      rw [← hd i]
      unfold tickOne
      cases hc : S.cn a with
      | none => rfl
      | some c =>
        simp only
        have h1 : SameC S (S.setc a (some { c with idle := IntKind.i64.wrap (c.idle + 1) })) := sameC_setc hc (fun e => e)
        have hk := (hw.con a c hc).2.2
        have h2 : WF (S.setc a (some { c with idle := IntKind.i64.wrap (c.idle + 1) })) := hw.setc hc ⟨hk.st, hk.name, hk.fb, hk.lx, hk.out, hk.vw, hk.op⟩ (fun e => e)
        split
        · exact ((shut_wf h2 a 6).2.1 i).trans (h1.1 i)
        · exact h1.1 i
    · rw [if_neg ha]
      have : tickOne S a = S := by
        unfold tickOne
        have := hd a
        cases hc : S.cn a with
        | none => rfl
        | some c => rw [hc] at this; exact absurd this.symm ha
      rw [this]
      exact ih S hd hw

set_option maxRecDepth 100000 in
set_option maxHeartbeats 8000000 in
theorem btick_calls (w : World) (L : Lay) (o : Own) (S : St) (h : Rep w L o S) (hw : WF S) :
    Calls Tryz.prog 42 #[.pointer (some ⟨L.bg, 0, none⟩)] w (QL L o w (tickM S) (.tuple #[])) := by
  have HR := Aside0.mk h
  have b10 : w.cell? ⟨L.bg, 10, none⟩ = some (.pointer (some ⟨L.gt, 0, none⟩)) := (blk_cell h.brk.1 10).trans rfl
  have hbg := blk_lt h.brk.1
  obtain ⟨mb, qv, hT, hgt, hmb, hqv⟩ := h.tab
  obtain ⟨S0, hS0⟩ : ∃ S0, S0 = { S with tb := S.tb.tick } := ⟨_, rfl⟩
  have hw0 : WF S0 := by rw [hS0]; exact (k_tb hw hw.tb.tick).1
  have hlf := hw.tb.left
  have hls := hw.tb.lease
  have htick : Calls Tryz.prog 68 #[.pointer (some ⟨L.gt, 0, none⟩)] w (QB L o w S0 (.tuple #[])) := by
    refine (ttick_calls S.tb L.gt mb qv w hT (by omega) (by omega)).mono ?_
    intro e w1 hq
    obtain ⟨he, o1, r1, s1⟩ := h.tabQ hT (Fr.refl nope w) hmb hqv hq
    rw [← hS0] at r1
    exact ⟨o1, he, r1, s1⟩
  obtain ⟨ids, hids⟩ : ∃ l, l = idsL L.cp := ⟨_, rfl⟩
  have hil : ids.length ≤ 16 := by rw [hids]; exact List.length_filter_le _ _
  have hfold : tickM S = Mod.settle (ids.foldl tickOne S0) := by
    unfold tickM
    rw [← hS0, hids]
    unfold idsL
    rw [tick_fold L.cp ids16 S0 (by rw [hS0]; exact h.dom) hw0]
  rw [hfold]
  have hdom : ∀ i ∈ ids, ∃ g, L.cp i = some g := fun i hi => by
    rw [hids] at hi
    exact Option.isSome_iff_exists.1 (List.mem_filter.1 hi).2
  have HDOM := Aside0.mk hdom
  have HTICK := Aside0.mk htick
  have HW0 := Aside0.mk hw0
  have HIDS := Aside0.mk hids
  clear h hw hT hgt hmb hqv hS0 hw0 hlf hls htick hids hfold hdom
  go_enter Tryz.func42, Tryz.ntmps42
  go_wp2_with (first | (go_at_call 68; refine HTICK.out.mono ?_; rintro e1 w1 ⟨o1, rfl, hr1, hst1⟩; have HR1 := Aside0.mk hr1; have HST1 := Aside0.mk hst1; clear hr1 hst1) | (go_at_call 45; refine (ids_calls w1 L HR1.out.map.1 HR1.out.brk.1 rfl).mono ?_; rintro e4 w4 ⟨v, rfl, ho4, hf4⟩; rw [← HIDS.out] at ho4; have hv := own_slice ho4; obtain ⟨A4, cv4, rfl⟩ := hv; have HO4 := Aside0.mk ho4; have HF4 := Aside0.mk hf4; clear ho4 hf4))
  go_loopw [13] (fun v13 wr => ∃ (k : Nat) (o5 : Own) (S5 : St), v13 = .int .i64 k ∧ k ≤ ids.length ∧ Aside0 (S5 = (ids.take k).foldl tickOne S0) ∧ Aside0 (Rep wr L o5 S5 ∧ WF S5) ∧ Aside0 (Step (fun t => t ≠ .no) w o wr o5) ∧
      Aside0 (wr.ownsRow w1.heap.size 3 1 (.slice A4 ids.length cv4) ids.length (nums .i64 ids)) ∧ Aside0 (∀ b, (Value.slice A4 ids.length cv4).ownBlock = some b → o5 b = .no)) (fun v13 _ => ids.length - (intOf v13).toNat)
  case atStart =>
    exact ⟨0, o1, S0, rfl, Nat.zero_le _, ⟨rfl⟩, ⟨HR1.out.quiet HF4.out, HW0.out⟩, ⟨HST1.out.trans (HR1.out.step HF4.out)⟩, HO4, ⟨fun b hb => HR1.out.fresh b (own_old HO4.out hb).1⟩⟩
  case round =>
    obtain ⟨k, o5, S5, rfl, hk, HS5, HR5, HST5, HO5, HN5⟩ := hrel
    by_cases hlt : k < ids.length
    · have hr := own_readsInt HO5.out
      obtain ⟨aq, e2, hc⟩ := hr.2.2 (by omega)
      cases e2
      obtain ⟨id, hid⟩ : ∃ id, ids.getD k 0 = id := ⟨_, rfl⟩
      have hcell := hc k hlt
      rw [hid] at hcell
      have hidk : ids[k] = id := by rw [← hid, List.getD_eq_getElem?_getD, List.getElem?_eq_getElem hlt]; rfl
      have hmem : id ∈ ids := by rw [← hidk]; exact List.getElem_mem hlt
      obtain ⟨g, hg⟩ := HDOM.out id hmem
      obtain ⟨c, hcn5, fg, lg, og, vv, p0, p1, p2, p3, p4⟩ := HR5.out.1.cnOf hg
      have hd := HR5.out.1.map.1.1 id (by simp [hg])
      have hiw := mpWf hd.1 hd.2
      have c12 : wr.cell? ⟨L.bg, 12, none⟩ = some (.map (some L.mc)) := (blk_cell HR5.out.1.brk.1 12).trans rfl
      have hbgl := blk_lt HR5.out.1.brk.1
      have hlook := HR5.out.1.look hg
      have g3 : wr.cell? ⟨g, 3, none⟩ = some (.int .i64 c.idle) := (blk_cell p0.1 3).trans rfl
      have f3 := blk_frozen p0.1 3
      have hgl := blk_lt p0.1
      have hne : L.bg ≠ g := fun e => by have h2 := HR5.out.1.brk.2; rw [e, p0.2] at h2; cases h2
      obtain ⟨id2, hid2⟩ : ∃ x, x = IntKind.i64.wrap (c.idle + 1) := ⟨_, rfl⟩
      obtain ⟨S6, hS6⟩ : ∃ S6, S6 = S5.setc id (some { c with idle := id2 }) := ⟨_, rfl⟩
      have hk6 := (HR5.out.2.con id c hcn5).2.2
      have hw6 : WF S6 := by rw [hS6]; exact HR5.out.2.setc hcn5 ⟨hk6.st, hk6.name, hk6.fb, hk6.lx, hk6.out, hk6.vw, hk6.op⟩ (fun e => e)
      have hR6 := HR5.out.1.conC hg p0 p1 p2 p3 p4 c.st c.name id2 (w1 := wr.setCell ⟨g, 3, none⟩ (.int .i64 id2)) (blk_set p0.1 3 _) ((Fr.refl (only g) wr).set (fun _ => rfl) 3 _)
      have hR6' : Rep (wr.setCell ⟨g, 3, none⟩ (.int .i64 id2)) L o5 S6 ∧ Step (fun t => t ≠ .no) wr o5 (wr.setCell ⟨g, 3, none⟩ (.int .i64 id2)) o5 := by rw [hS6]; exact hR6
      have HR6 := Aside0.mk hR6'
      obtain ⟨W6, hW6⟩ : ∃ W6, W6 = wr.setCell ⟨g, 3, none⟩ (.int .i64 id2) := ⟨_, rfl⟩
      have hg61 : W6.cell? ⟨g, 1, none⟩ = some (.int .i64 c.st) := by rw [hW6]; exact (blk_cell (blk_set p0.1 3 (.int .i64 id2)) 1).trans rfl
      have hg63 : W6.cell? ⟨g, 3, none⟩ = some (.int .i64 id2) := by rw [hW6]; exact (blk_cell (blk_set p0.1 3 (.int .i64 id2)) 3).trans rfl
      have hb66 : W6.cell? ⟨L.bg, 6, none⟩ = some (.int .i64 S5.cf.a6) := by rw [hW6]; exact (blk_cell (blk_other HR5.out.1.brk.1 hne 3 (.int .i64 id2)) 6).trans rfl
      have hgl6 : g < W6.heap.size := by rw [hW6, size_set]; exact hgl
      have hbgl6 : L.bg < W6.heap.size := by rw [hW6, size_set]; exact hbgl
      have HW6 := Aside0.mk hW6
      rw [← hW6] at HR6
      have HWF6 := Aside0.mk hw6
      have HC6 := Aside0.mk (fun W (hF : Fr nope W6 W) => shut_calls W L o5 S6 id 6 g (HR6.out.1.quiet hF) hw6 hg)
      have HTK : Aside0 ((ids.take (k + 1)).foldl tickOne S0 = if 0 < S5.cf.a6 ∧ S5.cf.a6 ≤ id2 ∧ c.st ≠ 2 then shut S6 id 6 else S6) := ⟨by
        rw [List.take_add_one, List.getElem?_eq_getElem hlt, hidk, Option.toList_some, List.foldl_append, ← HS5.out]
        show tickOne S5 id = _
        unfold tickOne
        rw [hcn5]
        simp only
        rw [← hid2, ← hS6]⟩
      have hkl : (k : Int) < (ids.length : Int) := by omega
      have hk0 : (0 : Int) ≤ (k : Int) := by omega
      have hwk : IntKind.i64.wrap ((k : Int) + 1) = (k : Int) + 1 := by rw [IntKind.wrap_i64]; omega
      obtain ⟨a6, ha6⟩ : ∃ x, x = S5.cf.a6 := ⟨_, rfl⟩
      rw [← ha6] at hb66 HTK
      obtain ⟨st, hst⟩ : ∃ x, x = c.st := ⟨_, rfl⟩
      rw [← hst] at hg61 HTK
      have hid3 := hid2.symm
      have hend : ∀ W o6 S7, Rep W L o6 S7 → WF S7 → Step (fun t => t ≠ .no) wr o5 W o6 → S7 = (if 0 < a6 ∧ a6 ≤ id2 ∧ st ≠ 2 then shut S6 id 6 else S6) → Aside0 (S7 = (ids.take (k + 1)).foldl tickOne S0) ∧ Aside0 (Rep W L o6 S7 ∧ WF S7) ∧ Aside0 (Step (fun t => t ≠ .no) w o W o6) ∧
          Aside0 (W.ownsRow w1.heap.size 3 1 (.slice (some aq) ids.length cv4) ids.length (nums .i64 ids)) ∧ Aside0 (∀ b, (Value.slice (some aq) ids.length cv4).ownBlock = some b → o6 b = .no) := fun W o6 S7 q1 q2 q3 q4 =>
        ⟨⟨by rw [HTK.out, q4]⟩, ⟨q1, q2⟩, ⟨HST5.out.trans q3⟩, ⟨q3.fr.own HO5.out (fun b hb hy => hy (HN5.out b hb))⟩, ⟨fun b hb => (q3.old b (own_old HO5.out hb).2).trans (HN5.out b hb)⟩⟩
      have hnot : ∀ W, Fr nope W6 W → ¬ (0 < a6 ∧ a6 ≤ id2 ∧ st ≠ 2) → Aside0 (S6 = (ids.take (k + 1)).foldl tickOne S0) ∧ Aside0 (Rep W L o5 S6 ∧ WF S6) ∧ Aside0 (Step (fun t => t ≠ .no) w o W o5) ∧
          Aside0 (W.ownsRow w1.heap.size 3 1 (.slice (some aq) ids.length cv4) ids.length (nums .i64 ids)) ∧ Aside0 (∀ b, (Value.slice (some aq) ids.length cv4).ownBlock = some b → o5 b = .no) := fun W hF hx =>
        hend W o5 S6 (HR6.out.1.quiet hF) hw6 (HR6.out.2.trans (HR6.out.1.step hF)) (by rw [if_neg hx])
      have HEND := Aside0.mk hend
      have HNOT := Aside0.mk hnot
      clear hc hr hid hidk hmem hg hcn5 p0 p1 p2 p3 p4 hd hS6 hk6 hw6 hR6 hR6' hW6 hnot hend ha6 hst hne hid2
      go_wp2
      rw [← HW6.out]
      by_cases h1 : 0 < a6
      · have t1 : decide (0 < a6) = true := decide_eq_true h1
        by_cases h2 : a6 ≤ id2
        · have t2 : decide (a6 ≤ id2) = true := decide_eq_true h2
          by_cases h3 : st = 2
          · subst h3
            go_quiet (fail)
            go_wp2
            go_roundw
            case rel =>
              refine ⟨k + 1, o5, S6, by push_cast; rfl, hlt, HNOT.out _ (by first | exact (Fr.refl nope W6).drewN _ | exact (Fr.refl nope W6).drew | exact Fr.refl nope W6) (by omega)⟩
            case measure => simp only [intOf]; omega
          · have t3 : (st == 2) = false := beq_eq_false_iff_ne.2 h3
            have t4 : (st != 2) = true := by simp [bne, t3]
            go_quiet (fail)
            go_wp2_with (go_at_call 61; refine (HC6.out _ ((Fr.refl nope W6).drewN _)).mono ?_; rintro e7 w7 ⟨o7, rfl, hr7, hst7⟩; have HR7 := Aside0.mk hr7; have HST7 := Aside0.mk ((HR6.out.2.trans (HR6.out.1.step ((Fr.refl nope W6).drewN _))).trans hst7); clear hr7 hst7)
            go_roundw
            case rel =>
              refine ⟨k + 1, o7, shut S6 id 6, by push_cast; rfl, hlt, HEND.out _ o7 _ HR7.out (shut_wf HWF6.out id 6).1 HST7.out (by rw [if_pos ⟨h1, h2, h3⟩])⟩
            case measure => simp only [intOf]; omega
        · have t2 : decide (a6 ≤ id2) = false := decide_eq_false h2
          go_quiet (fail)
          go_wp2
          go_roundw
          case rel =>
            refine ⟨k + 1, o5, S6, by push_cast; rfl, hlt, HNOT.out _ (by first | exact (Fr.refl nope W6).drewN _ | exact (Fr.refl nope W6).drew | exact Fr.refl nope W6) (by omega)⟩
          case measure => simp only [intOf]; omega
      · have t1 : decide (0 < a6) = false := decide_eq_false h1
        go_quiet (fail)
        go_wp2
        go_roundw
        case rel =>
          refine ⟨k + 1, o5, S6, by push_cast; rfl, hlt, HNOT.out _ (by first | exact (Fr.refl nope W6).drewN _ | exact (Fr.refl nope W6).drew | exact Fr.refl nope W6) (by omega)⟩
        case measure => simp only [intOf]; omega
    · have hkn : k = ids.length := by omega
      have HE : Aside0 (ids.foldl tickOne S0 = S5) := ⟨by rw [HS5.out, hkn, List.take_length]⟩
      have hlt2 : ¬ (k : Int) < (ids.length : Int) := by omega
      clear hkn hlt
      go_wp2_with (go_at_call 62; refine (settle_calls wr L o5 S5 HR5.out.1 HR5.out.2).mono ?_; rintro e3 w3 ⟨L3, o3, rfl, hr3, hb3, hst3⟩; have HR3 := Aside0.mk (And.intro hr3 (And.intro hb3 hst3)); clear hr3 hb3 hst3)
      go_end0
      rw [HE.out]
      exact ⟨L3, o3, rfl, HR3.out.1, HR3.out.2.1, HST5.out.trans HR3.out.2.2⟩
end Go.Proofs.YtfkamoiamebngaaGreatDoor.BroW

/- What is told does not touch what comes in. Plain. -/
namespace Go.Proofs.YtfkamoiamebngaaGreatDoor.Mod
open Go.RowKit Go.Proofs.YtfkamoiamebngaaGreatDoorW.PrintWords Go.Proofs.YtfkamoiamebngaaGreatDoor.ScrP Go.Proofs.YtfkamoiamebngaaGreatDoor.LexP Go.Proofs.YtfkamoiamebngaaGreatDoor.BroW
set_option linter.unusedVariables false

/-- why each connection's feed is broken, if it is -/
def FS (S S' : St) : Prop := ∀ i, (S'.cn i).map Cn.fe = (S.cn i).map Cn.fe
theorem FS.refl (S : St) : FS S S := fun _ => rfl
theorem FS.trans {A B C : St} (h : FS A B) (k : FS B C) : FS A C := fun i => (k i).trans (h i)
theorem fs_setc {S : St} {i : Int} {c c' : Cn} (hc : S.cn i = some c) (he : c'.fe = c.fe) : FS S (S.setc i (some c')) := by
  intro j
  unfold St.setc
  by_cases e : j = i
  · simp [e, hc, he]
  · simp [e]
theorem sendW_fs {lv : St → Int → St} (H : ∀ S i, FS S (lv S i)) (S : St) (i : Int) (g : Mg) : FS S (sendW lv S i g) := by
  unfold sendW
  split
  · exact FS.refl S
  · rename_i c hc
    split
    · exact FS.refl S
    · split
      · exact fs_setc hc rfl
      · exact H S i
theorem fold_fs {f : St → Int → St} (hf : ∀ S i, FS S (f S i)) (l : List Int) : ∀ S, FS S (l.foldl f S) := by
  induction l with
  | nil => intro S; exact FS.refl S
  | cons a l ih => intro S; exact (hf S a).trans (ih _)
theorem tellW_fs {lv : St → Int → St} (H : ∀ S i, FS S (lv S i)) (S : St) (g : Mg) : FS S (tellW lv S g) := by
  unfold tellW
  refine fold_fs (fun S i => ?_) ids16 S
  unfold tellOne
  split
  · exact sendW_fs H S i g
  · exact FS.refl S
theorem leaveF_fs (n : Nat) : ∀ S i, FS S (leaveF n S i) := by
  induction n with
  | zero => intro S i; exact FS.refl S
  | succ n ih =>
    intro S i
    cases hc : S.cn i with
    | none => rw [leaveF_none n hc]; exact FS.refl S
    | some c =>
      by_cases hs : c.st = 1
      · rw [leaveF_open n hc hs]
        have h1 : FS S { S.setc i (some { c with st := 2 }) with tb := S.tb.leave i } := fs_setc hc rfl
        exact h1.trans (tellW_fs ih _ _)
      · rw [leaveF_shut n hc hs]
        exact fs_setc hc rfl
theorem leave_fs (S : St) (i : Int) : FS S (leave S i) := leaveF_fs 17 S i
theorem send_fs (S : St) (i : Int) (g : Mg) : FS S (send S i g) := sendW_fs leave_fs S i g
theorem tell_fs (S : St) (g : Mg) : FS S (tell S g) := tellW_fs leave_fs S g
theorem shut_fs (S : St) (i why : Int) : FS S (shut S i why) := by
  unfold shut
  simp only
  split
  · exact send_fs S i _
  · exact (send_fs S i _).trans (leave_fs _ i)
theorem turnF_fs (n : Nat) : ∀ S, FS S (turnF n S) := by
  induction n with
  | zero => intro S; exact FS.refl S
  | succ n ih =>
    intro S
    by_cases hh : S.tb.holder = S.told
    · rw [turnF_stop n hh]; exact FS.refl S
    · rw [turnF_go n hh]
      have h1 : FS S (turnS S) := fun i => (tell_fs { S with told := S.tb.holder } _ i)
      exact h1.trans (ih _)
theorem turned_fs (S : St) : FS S (turned S) := turnF_fs 18 S
theorem hello_fs (S : St) (id : Int) (m : Mg) : FS S (helloM S id m) := by
  unfold helloM
  split
  · split
    · split
      · simp only
        have h1 := tell_fs S (note ([106, 111, 105, 110, 101, 100, 32] ++ dig id ++ [32] ++ m.t.data.toList))
        generalize tell S (note ([106, 111, 105, 110, 101, 100, 32] ++ dig id ++ [32] ++ m.t.data.toList)) = S1 at h1
        split
        · exact h1
        · rename_i c hc
          have h2 : FS S1 (S1.setc id (some { c with st := 1, name := m.t, vw := some ⟨startM S1.log S1.cf.a0 m.b (decide (m.a % 4 / 2 = 1)), 0⟩ })) := fs_setc hc rfl
          generalize (S1.setc id (some { c with st := 1, name := m.t, vw := some ⟨startM S1.log S1.cf.a0 m.b (decide (m.a % 4 / 2 = 1)), 0⟩ })) = S2 at h2
          have h3 : FS S2 { S2 with tb := S2.tb.join id (roleFor S2 (decide (m.a % 2 = 1))) } := FS.refl S2
          have h4 := (((h1.trans h2).trans h3).trans (send_fs _ id ⟨5, id, startM S1.log S1.cf.a0 m.b (decide (m.a % 4 / 2 = 1)), strL (wordR (roleFor S2 (decide (m.a % 2 = 1))))⟩))
          generalize send _ id ⟨5, id, startM S1.log S1.cf.a0 m.b (decide (m.a % 4 / 2 = 1)), strL (wordR (roleFor S2 (decide (m.a % 2 = 1))))⟩ = S4 at h4
          have h5 := h4.trans (send_fs S4 id ⟨9, S4.told, 0, strL []⟩)
          generalize send S4 id ⟨9, S4.told, 0, strL []⟩ = S5 at h5
          split
          · exact h5.trans (send_fs _ _ _)
          · exact h5
      · exact shut_fs S id 3
    · exact shut_fs S id 2
  · exact shut_fs S id 4
theorem toOther_fs (S : St) (k n : Int) : FS S (toOther S k n).1 := by
  unfold toOther
  split
  · split
    · exact FS.refl S
    · split
      · exact shut_fs S n 5
      · split <;> exact FS.refl S
  · exact FS.refl S
theorem does_fs (S : St) (id k n : Int) : FS S (doesM S id k n).1 := by
  unfold doesM
  split
  · exact FS.refl S
  split
  · exact FS.refl S
  split
  · exact FS.refl S
  split
  · show FS S (listM S id)
    unfold listM
    exact fold_fs (fun S u => send_fs S id _) _ S
  split
  · exact shut_fs S id 0
  split
  · exact FS.refl S
  split
  · split
    · exact FS.refl S
    · rename_i c hc; exact fs_setc hc rfl
  split
  · split
    · exact FS.refl S
    · exact FS.refl S
  · exact toOther_fs S k n
theorem line1_fs (S : St) (id : Int) (s : ByteArray) : FS S (lineM1 S id s) := by
  unfold lineM1
  split
  · exact (send_fs S id _).trans (turned_fs _)
  · rename_i k n hp
    simp only
    split
    · exact (does_fs S id k n).trans (turned_fs _)
    · exact ((does_fs S id k n).trans (send_fs _ id _)).trans (turned_fs _)
theorem lines_fs (l : List ByteArray) : ∀ S id, FS S (linesM l S id) := by
  induction l with
  | nil => intro S id; exact FS.refl S
  | cons s l ih =>
    intro S id
    show FS S (if S.stOf id = 1 then linesM l (lineM1 S id s) id else S)
    split
    · exact (line1_fs S id s).trans (ih _ id)
    · exact FS.refl S
theorem offer_fs (S : St) (id : Int) (keys : List Int) (seq : Int) : FS S (offerM S id keys seq) := by
  unfold offerM
  split
  · exact FS.refl S
  split
  · exact FS.refl S
  · exact send_fs S id _
theorem keys_fs (S : St) (id : Int) (m : Mg) : FS S (keysM S id m) := by
  unfold keysM
  split
  · exact FS.refl S
  · rename_i c hc
    simp only
    have h1 : FS S (S.setc id (some { c with lx := (lexAll c.lx (bytesOf m.t)).1 })) := fs_setc hc rfl
    exact (h1.trans (offer_fs _ id _ m.a)).trans (lines_fs _ _ id)
theorem message_fs (S : St) (id : Int) (f : Frm) : FS S (messageM S id f) := by
  unfold messageM
  simp only
  split
  · exact shut_fs S id 4
  split
  · exact hello_fs S id _
  split
  · exact keys_fs S id _
  split
  · exact send_fs S id _
  split
  · exact shut_fs S id 0
  · exact shut_fs S id 4
theorem frames_fs (l : List Frm) : ∀ S id, FS S (framesM l S id) := by
  induction l with
  | nil => intro S id; exact FS.refl S
  | cons f l ih =>
    intro S id
    show FS S (framesM l (if S.stOf id = 2 then S else turned (messageM S id f)) id)
    refine FS.trans ?_ (ih _ id)
    split
    · exact FS.refl S
    · exact (message_fs S id f).trans (turned_fs _)
/-- frames that were got -/
theorem getB_frame (bs : List Int) (hb : isB bs) : isB (getB bs).1.2 ∧ (getB bs).1.2.length ≤ 2048 ∧ 0 ≤ (getB bs).1.1 ∧ (getB bs).1.1 ≤ 255 := by
  unfold getB
  split
  · exact ⟨fun _ h => (by cases h), Nat.zero_le _, Int.le_refl _, by show (0 : Int) ≤ 255; omega⟩
  · simp only
    split
    · exact ⟨fun _ h => (by cases h), Nat.zero_le _, Int.le_refl _, by show (0 : Int) ≤ 255; omega⟩
    · split
      · exact ⟨fun _ h => (by cases h), Nat.zero_le _, Int.le_refl _, by show (0 : Int) ≤ 255; omega⟩
      · split
        · rename_i h1 h2 h3 h4
          refine ⟨fun x hx => hb x (List.mem_of_mem_take (List.mem_of_mem_drop hx)), ?_, ?_⟩
          · show (List.drop 3 _).length ≤ 2048
            rw [List.length_drop, List.length_take]
            omega
          · show 0 ≤ bs.getD 2 0 ∧ bs.getD 2 0 ≤ 255
            by_cases h5 : 2 < bs.length
            · have := hb _ (List.getElem_mem h5)
              rw [List.getD_eq_getElem?_getD, List.getElem?_eq_getElem h5]
              exact this
            · rw [List.getD_eq_getElem?_getD, List.getElem?_eq_none (by omega)]
              simp
        · exact ⟨fun _ h => (by cases h), Nat.zero_le _, Int.le_refl _, by show (0 : Int) ≤ 255; omega⟩
theorem feedGo_frames (f : Nat) : ∀ b, isB b → ∀ x ∈ (feedGo f b).1, isB x.2 ∧ x.2.length ≤ 2048 ∧ 0 ≤ x.1 ∧ x.1 ≤ 255 := by
  induction f with
  | zero => intro b _ x hx; cases hx
  | succ f ih =>
    intro b hb x hx
    unfold feedGo at hx
    simp only at hx
    split at hx
    · rcases List.mem_cons.1 hx with e | e
      · rw [e]; exact getB_frame b hb
      · exact ih _ (fun y hy => hb y (List.mem_of_mem_drop hy)) x e
    · split at hx
      · cases hx
      · cases hx
theorem feedPush_frames (fb : List Int) (fe : Int) (bs : List Int) (h : isB fb) (hb : isB bs) : ∀ x ∈ (feedPush fb fe bs).1, isB x.2 ∧ x.2.length ≤ 2048 ∧ 0 ≤ x.1 ∧ x.1 ≤ 255 := by
  unfold feedPush
  split
  · refine feedGo_frames _ _ (fun y hy => ?_)
    rcases List.mem_append.1 hy with hy | hy
    · exact h y hy
    · exact hb y hy
  · intro x hx; cases hx
end Go.Proofs.YtfkamoiamebngaaGreatDoor.Mod

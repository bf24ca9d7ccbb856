/- play: Events, Bytes. -/
import Derived.Test.YtfkamoiamebngaaGreatDoorM21
import Derived.Test.YtfkamoiamebngaaGreatDoorM03
import Derived.Test.YtfkamoiamebngaaGreatDoorM09
import Derived.Test.YtfkamoiamebngaaGreatDoorRows
import Derived.Test.YtfkamoiamebngaaGreatDoorCards
import Derived.Test.YtfkamoiamebngaaGreatDoorTie
import Derived.LaidMore
import Derived.Stop.Joined
import Derived.Stop.LaidErr
import Derived.Lib.LaidTab
import Derived.LaidSub
namespace Go.Proofs.YtfkamoiamebngaaGreatDoor.BroW
open Go.RowKit Go.Proofs.YtfkamoiamebngaaGreatDoorW.PrintWords Go.Proofs.YtfkamoiamebngaaGreatDoorW.PrintMore Go.Proofs.YtfkamoiamebngaaGreatDoor.Fr Go.Proofs.YtfkamoiamebngaaGreatDoor.ScrW Go.Proofs.YtfkamoiamebngaaGreatDoor.ScrP Go.Proofs.YtfkamoiamebngaaGreatDoor.Mod
set_option linter.unusedVariables false
set_option linter.unusedSimpArgs false

theorem run_snoc (L : List Ev) (e : Ev) : ∀ S, run (L ++ [e]) S = ((Mod.step (run L S).1 e).1, (run L S).2 ++ [(Mod.step (run L S).1 e).2]) := by
  induction L with
  | nil => intro S; rfl
  | cons x L ih =>
    intro S
    show run (x :: (L ++ [e])) S = _
    simp only [run]
    rw [ih]
    rfl
/-- an event's answer as cells -/
def outC (p : Int × List Int) : List Value := [.int .i64 p.1, .string (strOfNums p.2)]
def outs (L : List (Int × List Int)) : List Value := (L.map outC).flatten
theorem outs_snoc (L : List (Int × List Int)) (p : Int × List Int) : outs (L ++ [p]) = outs L ++ outC p := by simp [outs]
theorem infoOut : (Tryz.prog.info? 46).map (fun i => (i.zero, i.size, i.bytes)) = some (some (.agg #[.int .i64 0, .string ⟨#[]⟩]), 2, 24) := by kernel_rfl
theorem readsEv_frS {N : Nat → Prop} {w w1 : World} {A : Option Addr} {L : List Ev} (h : ReadsEv w A L) (hF : Fr N w w1) (hA : 0 < L.length → ∀ ad, A = some ad → ¬ N ad.block) : ReadsEv w1 A L := by
  refine ⟨h.1, fun h0 => ?_⟩
  obtain ⟨ad, rfl, hcs⟩ := h.2 h0
  have hb : ∀ j, (ad.add j).block = ad.block := fun j => by unfold Addr.add; split <;> rfl
  have back : ∀ {j : Nat} {v : Value}, w.cell? (ad.add j) = some v → w1.cell? (ad.add j) = some v := fun {j v} hc => by
    rw [World.cell?_of_block (hF.block _ (World.block_lt_of_cell? w _ hc) (by rw [hb]; exact hA h0 ad rfl))]; exact hc
  refine ⟨ad, rfl, fun j hj => ?_⟩
  obtain ⟨h0, h1, h2, h3, h4⟩ := hcs j hj
  exact ⟨back h0, back h1, back h2, back h3, h4⟩
theorem outSum_take (L : List Ev) (k : Nat) (h : k < L.length) (e : Ev) (he : L.getD k ev0 = e) : outSum (L.take k) + outLen e ≤ outSum L := by
  have h1 : L.take (k + 1) = L.take k ++ [e] := by
    rw [List.take_succ_eq_append_getElem h, ← he]
    simp [h]
  have h2 : outSum L = outSum (L.take (k + 1)) + outSum (L.drop (k + 1)) := by
    unfold outSum
    rw [← List.sum_append, ← List.map_append, List.take_append_drop]
  have h3 : outSum (L.take (k + 1)) = outSum (L.take k) + outLen e := by rw [h1]; unfold outSum; simp
  omega

/-- what Events leaves -/
def QE (o : Own) (w : World) (S : St) (R : List (Int × List Int)) (e : Ending) (w' : World) : Prop := ∃ L' o' v, e = .returned (.tuple #[.pointer (some ⟨L'.bg, 0, none⟩), v]) ∧ Rep w' L' o' S ∧ Step (fun t => t ≠ .no) w o w' o' ∧ w'.ownsRow w.heap.size 46 2 v R.length (outs R) ∧ ∀ b, v.ownBlock = some b → o' b = .no
/-- between two events -/
structure EvK (w : World) (o0 : Own) (bg : Nat) (b0 : Nat) (v : Value) (R : List (Int × List Int)) (L : Lay) (o : Own) (S : St) (W : World) : Prop where
  rep : Rep W L o S
  wf : WF S
  bg : L.bg = bg
  st : Step (fun t => t ≠ .no) w o0 W o
  row : W.ownsRow b0 46 2 v R.length (outs R)
  no : ∀ b, v.ownBlock = some b → o b = .no

set_option maxRecDepth 100000 in
set_option maxHeartbeats 8000000 in
theorem events_yes (c : Cf) (Ls : List Ev) (A : Option Addr) (cp : Nat) (w : World) (o : Own) (hlib : LibOK w ∧ ∀ i, libB i → o i = .no) (hfresh : ∀ b, w.heap.size ≤ b → o b = .no) (hcb : cfB c = true) (hl : outSum Ls ≤ 8100) (hr : ReadsEv w A Ls) (hA : 0 < Ls.length → ∀ ad, A = some ad → o ad.block = .no) (hlen : Ls.length ≤ 100000) :
    Calls Tryz.prog 49 #[.agg #[.int .i64 c.a0, .int .i64 c.a1, .int .i64 c.a2, .int .i64 c.a3, .int .i64 c.a4, .int .i64 c.a5, .int .i64 c.a6, .int .i64 c.a7], .slice A Ls.length cp] w (QE o w (run Ls (stNew c)).1 (run Ls (stNew c)).2) := by
  have HCB := Aside0.mk hcb
  have HL := Aside0.mk hl
  have HRE := Aside0.mk hr
  have HA := Aside0.mk hA
  have hw0 := new_wf hcb
  have HW0 := Aside0.mk hw0
  have hf0 : Fr nope w (w.alloc (.cells #[.int .i64 c.a0, .int .i64 c.a1, .int .i64 c.a2, .int .i64 c.a3, .int .i64 c.a4, .int .i64 c.a5, .int .i64 c.a6, .int .i64 c.a7] 23)) := (Fr.refl nope w).alloc _
  have st0 := Step.quiet hfresh hf0
  have hnc := bnew_yes c (w.alloc (.cells #[.int .i64 c.a0, .int .i64 c.a1, .int .i64 c.a2, .int .i64 c.a3, .int .i64 c.a4, .int .i64 c.a5, .int .i64 c.a6, .int .i64 c.a7] 23)) o (lib_ext hlib st0.loose (fun h => h)) st0.new hcb
  have HNC := Aside0.mk hnc
  have HST0 : Aside0 (Step (fun t => t ≠ .no) w o (w.alloc (.cells #[.int .i64 c.a0, .int .i64 c.a1, .int .i64 c.a2, .int .i64 c.a3, .int .i64 c.a4, .int .i64 c.a5, .int .i64 c.a6, .int .i64 c.a7] 23)) o) := ⟨st0.mono (fun t h => h.elim)⟩
  have hlm := hr.1
  have HLT : Aside0 (∀ {i : Nat}, libB i → i < w.heap.size) := ⟨fun hi => hlib.1.lt hi⟩
  clear hlib hfresh hcb hl hr hA hw0 hf0 st0 hnc
  go_enter Tryz.func49, Tryz.ntmps49
  go_wp2_with (go_at_call 74; refine HNC.out.mono ?_; rintro e w1 ⟨L1, o1, rfl, hr1, hst1⟩; have HR1 := Aside0.mk hr1; have HST1 := Aside0.mk (HST0.out.trans hst1); have hsz1 := hst1.fr.size; clear hr1 hst1)
  rw [World.size_alloc] at hsz1
  go_loopw [7, 16] (fun v7 v16 wr => ∃ (k : Nat) (L5 : Lay) (o5 : Own) (A7 : Option Addr) (c7 : Nat), v16 = .int .i64 k ∧ k ≤ Ls.length ∧ v7 = .slice A7 k c7 ∧ Aside0 ((run (Ls.take k) (stNew c)).2.length = k) ∧ Aside0 (EvK w o L1.bg w.heap.size (.slice A7 k c7) (run (Ls.take k) (stNew c)).2 L5 o5 (run (Ls.take k) (stNew c)).1 wr)) (fun _ v16 _ => Ls.length - (intOf v16).toNat)
  case atStart => exact ⟨0, L1, o1, none, 0, rfl, Nat.zero_le _, rfl, ⟨rfl⟩, ⟨⟨HR1.out, HW0.out, rfl, HST1.out, World.ownsRow_nil _ _ _ _, fun b hb => (by cases hb)⟩⟩⟩
  case round =>
    obtain ⟨k, L5, o5, A7, c7, rfl, hk, rfl, HRL, HK⟩ := hrel
    by_cases hlt : k < Ls.length
    · obtain ⟨e, he⟩ : ∃ e, Ls.getD k ev0 = e := ⟨_, rfl⟩
      have hre := readsEv_frS HRE.out HK.out.st.fr (fun h0 ad ea hx => hx (HA.out h0 ad ea))
      obtain ⟨ad, eA, q0, q1, q2, q3, q4⟩ := evCells hre k hlt e he (Fr.refl nope wr)
      cases eA
      have hadl := World.block_lt_of_cell? _ _ q0
      have hkl : (k : Int) < (Ls.length : Int) := by omega
      have hk0 : (0 : Int) ≤ (k : Int) := by omega
      have hwk : IntKind.i64.wrap ((k : Int) + 1) = (k : Int) + 1 := by rw [IntKind.wrap_i64]; omega
      have htk : Ls.take (k + 1) = Ls.take k ++ [e] := by
        rw [List.take_succ_eq_append_getElem hlt, ← he]
        simp [hlt]
      obtain ⟨S5, hS5⟩ : ∃ S5, S5 = (run (Ls.take k) (stNew c)).1 := ⟨_, rfl⟩
      obtain ⟨R5, hR5⟩ : ∃ R5, R5 = (run (Ls.take k) (stNew c)).2 := ⟨_, rfl⟩
      have hlog : S5.log.length + outLen e ≤ 8100 := by
        have h1 := (run_ok (Ls.take k) (stNew c) HW0.out (by have := outSum_take Ls k hlt e he; have := HL.out; show 0 + outSum (Ls.take k) ≤ 8100; omega)).2.2.1
        have h2 := outSum_take Ls k hlt e he
        have h3 := HL.out
        have h4 : (stNew c).log.length = 0 := rfl
        rw [hS5]
        omega
      have hstep := run_snoc (Ls.take k) e (stNew c)
      rw [← htk, ← hS5, ← hR5] at hstep
      have HSTEP := Aside0.mk hstep
      rw [← hS5, ← hR5] at HK
      rw [← hR5] at HRL
      have HWF := Aside0.mk (step_ok HK.out.wf e hlog).1
      have hdo : ∀ W, Fr nope wr W → Calls Tryz.prog 23 #[.pointer (some ⟨L1.bg, 0, none⟩), .agg #[.int .i64 e.k, .int .i64 e.i, .int .i64 e.n, .string e.d]] W (QD L5 o5 W (Mod.step S5 e).1 (Mod.step S5 e).2.1 (Mod.step S5 e).2.2) := fun W hF => by
        rw [← HK.out.bg]
        exact do_calls W L5 o5 S5 e (HK.out.rep.quiet hF) HK.out.wf hlog
      have HDO := Aside0.mk hdo
      clear he hre q4 htk hS5 hR5 hlog hstep hdo
      obtain ⟨x2, hx2⟩ : ∃ x, x = (Mod.step S5 e).2.1 := ⟨_, rfl⟩
      obtain ⟨bs2, hbs2⟩ : ∃ x, x = (Mod.step S5 e).2.2 := ⟨_, rfl⟩
      rw [← hx2, ← hbs2] at HDO
      have HX := Aside0.mk (And.intro hx2 hbs2)
      clear hx2 hbs2
      have HXO : Aside0 (outs R5 ++ [.int .i64 x2, .string (strOfNums bs2)] = outs (R5 ++ [(x2, bs2)])) := ⟨by rw [outs_snoc]; rfl⟩
      go_wp2_with (first | (go_at_call 23; refine (HDO.out _ ((Fr.refl nope wr).alloc _)).mono ?_; rintro e2 w2 ⟨L6, o6, rfl, hr6, hb6, hst6⟩; have HR6 := Aside0.mk hr6; have HB6 := Aside0.mk hb6; have HST6 := Aside0.mk ((HK.out.rep.step ((Fr.refl nope wr).alloc _)).trans hst6); clear hr6 hb6 hst6) | ((with_reducible refine gate_builtin (b := .append) (xs := #[.tmp 20, .tmp 24]) rfl ?_); at_builtin; refine app_lit rfl (.tmp 20) (.tmp 24) 41 46 (.agg #[.int .i64 0, .string ⟨#[]⟩]) 2 24 rfl Tryz.underlying41 infoOut (by decide) (by decide) w.heap.size (.slice A7 k c7) k (outs R5) w2.heap.size 1 #[.int .i64 x2, .string (strOfNums bs2)] 46 rfl rfl ?aG rfl ?a1 ?aO ?aB ?aN (by decide) ?_; (case aG => exact blk_new w2 _); (case a1 => intro u hu; simp only [List.mem_cons, List.not_mem_nil, or_false] at hu; rcases hu with rfl | rfl <;> rfl); (case aO => exact (by have h0 := HST6.out.fr.own HK.out.row (fun i hi hs => hs (HK.out.no i hi)); rw [HRL.out] at h0; exact h0.alloc _)); (case aB => exact (by have h0 := HST6.out.fr.size; have h1 := HK.out.st.fr.size; rw [World.size_alloc]; omega)); (case aN => exact (by omega)); intro v3 w3 ho3 hf3 hat3; obtain ⟨A3, c3, rfl⟩ := own_slice ho3; have HO3 := Aside0.mk ho3; have HF3 := Aside0.mk hf3; have HAT3 := Aside0.mk hat3; clear ho3 hf3 hat3))
      have hF : Fr (rowOf (.slice A7 k c7)) w2 w3 := ((Fr.refl _ w2).alloc _).trans HF3.out (fun i hi hs => hs)
      have hrowold : ∀ i, rowOf (.slice A7 k c7) i → w.heap.size ≤ i ∧ i < wr.heap.size := fun i hi => own_old HK.out.row hi
      have hno6 : ∀ i, rowOf (.slice A7 k c7) i → o6 i = .no := fun i hi => (HST6.out.old i (hrowold i hi).2).trans (HK.out.no i hi)
      have hrep : Rep w3 L6 o6 (Mod.step S5 e).1 := HR6.out.fr hF (fun b hb => ⟨hno6 b hb, fun hl => by have h1 := HLT.out hl; have h2 := (hrowold b hb).1; omega⟩)
      refine ⟨⟨k + 1, L6, o6, A3, c3, ?_, by omega, ?_, ?_, ?_⟩, ?_⟩
      · rfl
      · rfl
      · exact ⟨by rw [HSTEP.out, List.length_append, HRL.out]; rfl⟩
      · refine ⟨?_⟩
        rw [HSTEP.out]
        refine ⟨hrep, HWF.out, HB6.out.trans HK.out.bg, ?_, ?_, ?_⟩
        · exact (HK.out.st.trans HST6.out).more hF (fun b hb => (hrowold b hb).1)
        · have h0 := HO3.out
          rw [HXO.out, HX.out.1, HX.out.2] at h0
          rw [List.length_append, HRL.out]
          exact h0
        · intro b hb
          rcases HAT3.out with h | h
          · rw [h] at hb; exact hno6 b hb
          · rw [h] at hb; injection hb with hb
            rw [← hb]
            exact HR6.out.fresh _ (by rw [World.size_alloc]; omega)
      · show Ls.length - ((k : Int) + 1).toNat < Ls.length - (k : Int).toNat
        omega
    · have hkn : k = Ls.length := by omega
      subst hkn
      have htk : Ls.take Ls.length = Ls := List.take_length
      rw [htk] at HK
      have hlt2 : ¬ ((Ls.length : Nat) : Int) < (Ls.length : Int) := by omega
      have hrl := HRL.out
      rw [htk] at hrl
      have HRL2 := Aside0.mk hrl
      clear hlt htk hrl HRL
      go_wp2
      go_returns
      refine ⟨L5, o5, .slice A7 Ls.length c7, by rw [HK.out.bg]; rfl, HK.out.rep, HK.out.st, HK.out.row, HK.out.no⟩
end Go.Proofs.YtfkamoiamebngaaGreatDoor.BroW

/- play: Bytes; kibitzertop: played, few. -/
namespace Go.Proofs.YtfkamoiamebngaaGreatDoor.BroW
open Go.RowKit Go.Proofs.YtfkamoiamebngaaGreatDoorW.PrintWords Go.Proofs.YtfkamoiamebngaaGreatDoorW.PrintMore Go.Proofs.YtfkamoiamebngaaGreatDoor.Fr Go.Proofs.YtfkamoiamebngaaGreatDoor.ScrW Go.Proofs.YtfkamoiamebngaaGreatDoor.ScrP Go.Proofs.YtfkamoiamebngaaGreatDoor.Mod
set_option linter.unusedVariables false
set_option linter.unusedSimpArgs false

theorem isB_be3 (n : Int) : isB (be3 n) := by intro x hx; simp [be3] at hx; omega
theorem isB_be2 (n : Int) : isB (be2 n) := by intro x hx; simp [be2] at hx; omega
theorem isB_evBytes (e : Ev) : isB (evBytes e) := by
  intro x hx
  unfold evBytes at hx
  rcases List.mem_append.1 hx with hx | hx
  · rcases List.mem_append.1 hx with hx | hx
    · rcases List.mem_append.1 hx with hx | hx
      · simp at hx; omega
      · exact isB_be3 _ x hx
    · exact isB_be2 _ x hx
  · exact bytesOf_isB' _ x hx
theorem isB_enc (c : Cf) (L : List Ev) : isB (encB c L) := by
  intro x hx
  unfold encB cfBytes at hx
  rcases List.mem_append.1 hx with hx | hx
  · obtain ⟨l, hl, hx⟩ := List.mem_flatten.1 hx
    obtain ⟨n, _, rfl⟩ := List.mem_map.1 hl
    exact isB_be3 n x hx
  · obtain ⟨l, hl, hx⟩ := List.mem_flatten.1 hx
    obtain ⟨n, _, rfl⟩ := List.mem_map.1 hl
    exact isB_evBytes n x hx
theorem cfBytes_len (c : Cf) : (cfBytes c).length = 24 := by simp [cfBytes, cfL, be3]
theorem encB_len (c : Cf) (L : List Ev) : (encB c L).length = 24 + 7 * L.length + sz L := by
  rw [encB_eq, List.length_append, cfBytes_len, flat_len]; omega
theorem decP_enc (c : Cf) (L : List Ev) (hc : cfB c = true) (he : ∀ e ∈ L, evB e = true) (hl : L.length ≤ 8192) (hs : sz L ≤ 100000) : decP (encB c L) = (c, L, (encB c L).length, 0) := by
  have hlen := encB_len c L
  have hcf : cfOf (encB c L) = c := by rw [encB_eq]; exact cfOf_enc c _ hc
  unfold decP
  rw [if_neg (by omega), if_neg (by omega), hcf, if_pos hc]
  have h := decGo_enc L (encB c L).length (cfBytes c) [] he (by omega) (by simpa using hl)
  rw [cfBytes_len, ← encB_eq] at h
  rw [h]
  rfl

/-- what a whole play leaves: the broker, and what came of each event; nothing of before is touched -/
def PlQ (w : World) (S : St) (R : List (Int × List Int)) (f : Value → Value → Ending) (e : Ending) (w' : World) : Prop :=
  ∃ L' o' v, e = f (.pointer (some ⟨L'.bg, 0, none⟩)) v ∧ Rep w' L' o' S ∧ Fr nope w w' ∧ (∀ b, b < w.heap.size → o' b = .no) ∧ w'.ownsRow w.heap.size 46 2 v R.length (outs R) ∧ (∀ b, v.ownBlock = some b → o' b = .no)

set_option maxRecDepth 100000 in
set_option maxHeartbeats 8000000 in
theorem bytes_calls (bs : List Int) (A : Option Addr) (cp : Nat) (w : World) (c : Cf) (Ls : List Ev) (n x : Nat) (hlib : LibOK w) (hc : bs.length ≤ cp) (hcm : cp ≤ 9223372036854775807) (hr : ReadsInt w .u8 A bs.length bs) (hb : isB bs) (hd : decP bs = (c, Ls, n, x)) (hcb : cfB c = true) (hl : outSum Ls ≤ 8100) (hlen : Ls.length ≤ 8192) (hsz : ∀ e ∈ Ls, e.d.size ≤ 65535) :
    Calls Tryz.prog 27 #[.slice A bs.length cp] w (PlQ w (run Ls (stNew c)).1 (run Ls (stNew c)).2 (fun p v => .returned (.tuple #[p, v, .int .i64 n, .int .i64 x]))) := by
  have hdc := decode_calls bs A cp w hc hcm hr hb
  unfold DecOk at hdc
  rw [hd] at hdc
  simp only at hdc
  have HDC := Aside0.mk hdc
  have HLIB := Aside0.mk hlib
  have HCB := Aside0.mk hcb
  have HL := Aside0.mk hl
  have HSZ := Aside0.mk hsz
  clear hdc hlib hcb hl hsz hr hb hd
  go_enter Tryz.func27, Tryz.ntmps27
  go_wp2_with (first | (go_at_call 48; refine HDC.out.mono ?_; unfold cfV; rintro e1 w1 ⟨v, rfl, hf1, ho1⟩; obtain ⟨A1, c1, rfl, hc1, hr1⟩ := own_readsEv ho1 (fun e he => by have := HSZ.out e he; omega) (by omega); have HR1 := Aside0.mk hr1; have HF1 := Aside0.mk hf1; clear hr1 hf1 ho1) | (go_at_call 49; refine (events_yes c Ls A1 c1 _ (fun _ => .no) ⟨HLIB.out.fr (HF1.out.alloc _) (fun _ _ h => h), fun _ _ => rfl⟩ (fun _ _ => rfl) HCB.out HL.out (readsEv_frS HR1.out ((Fr.refl nope w1).alloc _) (fun _ _ _ h => h)) (fun _ _ _ => rfl) (by omega)).mono ?_; rintro e2 w2 ⟨L2, o2, v2, rfl, hr2, hs2, ho2, hn2⟩; have HQ := Aside0.mk (And.intro hr2 (And.intro hs2 (And.intro ho2 hn2))); clear hr2 hs2 ho2 hn2))
  go_returns
  obtain ⟨q1, q2, q3, q4⟩ := HQ.out
  have hf := HF1.out.alloc (.cells #[.int .i64 c.a0, .int .i64 c.a1, .int .i64 c.a2, .int .i64 c.a3, .int .i64 c.a4, .int .i64 c.a5, .int .i64 c.a6, .int .i64 c.a7] 23)
  refine ⟨L2, o2, v2, rfl, q1, hf.trans (q2.fr.mono (fun i _ h => h rfl)) (fun _ _ h => h), fun b hb => q2.old b (Nat.lt_of_lt_of_le hb hf.size), own_base_le q3 hf.size, q4⟩

theorem own_caps {w : World} {base n m c : Nat} {e : TypeId} {size : Nat} {A : Option Addr} {xs : List Value} (h : w.ownsRow base e size (.slice A m c) n xs) : n ≤ c ∧ c ≤ 9223372036854775807 := by
  obtain ⟨_, h2⟩ := h
  rcases h2 with ⟨h2, rfl⟩ | ⟨g, cap, cur, h2, _, _, h3, h4, _⟩
  · injection h2 with _ _ h2; omega
  · injection h2 with _ _ h2; subst h2; unfold maxLen at h4; omega
theorem ev_size {e : Ev} (h : evB e = true) : e.d.size ≤ 65535 := by have := (evB_facts h).2.2.2; omega

set_option maxRecDepth 100000 in
set_option maxHeartbeats 8000000 in
theorem played_calls (c : Cf) (Ls : List Ev) (A : Option Addr) (cp : Nat) (w : World) (hlib : LibOK w) (hcb : cfB c = true) (hev : ∀ e ∈ Ls, evB e = true) (hl : outSum Ls ≤ 8100) (hlen : Ls.length ≤ 8192) (hsz : sz Ls ≤ 100000) (hr : ReadsEv w A Ls) :
    Calls Tryz.prog 15 #[.agg #[.int .i64 c.a0, .int .i64 c.a1, .int .i64 c.a2, .int .i64 c.a3, .int .i64 c.a4, .int .i64 c.a5, .int .i64 c.a6, .int .i64 c.a7], .slice A Ls.length cp] w (PlQ w (run Ls (stNew c)).1 (run Ls (stNew c)).2 (fun p v => .returned (.tuple #[p, v, .bool true]))) := by
  have HLIB := Aside0.mk hlib
  have HCB := Aside0.mk hcb
  have HEV := Aside0.mk hev
  have HL := Aside0.mk hl
  have HSZ := Aside0.mk hsz
  have HR := Aside0.mk hr
  have hrl : (run Ls (stNew c)).2.length = Ls.length := (run_ok Ls (stNew c) (new_wf hcb) (by show 0 + outSum Ls ≤ 8100; omega)).2.2.2
  have HRL := Aside0.mk hrl
  clear hlib hcb hev hl hsz hr hrl
  go_enter Tryz.func15, Tryz.ntmps15
  go_wp2_with (first | (go_at_call 26; refine (encode_calls c Ls A cp _ (readsEv_frS HR.out ((Fr.refl nope w).alloc _) (fun _ _ _ h => h)) (.inr HSZ.out)).mono ?_; rintro e1 w1 ⟨v, x, rfl, hf1, ho1⟩; unfold EncOk at ho1; rcases ho1 with ⟨h, _⟩ | ⟨_, h, _⟩ | ⟨_, _, _, rfl, ho1⟩; exact absurd h (by omega); exact absurd ⟨HCB.out, HEV.out⟩ h; obtain ⟨A1, c1, rfl⟩ := own_slice ho1; have HO1 := Aside0.mk ho1; have HF1 := Aside0.mk (((Fr.refl nope w).alloc (.cells #[.int .i64 c.a0, .int .i64 c.a1, .int .i64 c.a2, .int .i64 c.a3, .int .i64 c.a4, .int .i64 c.a5, .int .i64 c.a6, .int .i64 c.a7] 23)).trans hf1 (fun _ _ h => h)); have hc1 : (encB c Ls).length ≤ c1 := (own_caps ho1).1; have hc2 : c1 ≤ 9223372036854775807 := (own_caps ho1).2; clear hf1 ho1) | (go_at_call 27; refine (bytes_calls (encB c Ls) A1 c1 w1 c Ls (encB c Ls).length 0 (HLIB.out.fr HF1.out (fun _ _ h => h)) hc1 hc2 (own_readsInt HO1.out) (isB_enc c Ls) (decP_enc c Ls HCB.out HEV.out hlen HSZ.out) HCB.out HL.out hlen (fun e he => ev_size (HEV.out e he))).mono ?_; rintro e2 w2 ⟨L2, o2, v2, rfl, hr2, hf2, ho2, hw2, hn2⟩; have hw3 := hw2; rw [HRL.out] at hw3; obtain ⟨A2, c2, rfl⟩ := own_slice hw3; have HQ := Aside0.mk (And.intro hr2 (And.intro hf2 (And.intro ho2 (And.intro hw2 hn2)))); clear hr2 hf2 ho2 hw2 hn2 hw3))
  go_returns
  obtain ⟨q1, q2, q3, q4, q5⟩ := HQ.out
  refine ⟨L2, o2, .slice A2 Ls.length c2, by simp, q1, HF1.out.trans q2 (fun _ _ h => h), fun b hb => q3 b (Nat.lt_of_lt_of_le hb HF1.out.size), own_base_le q4 HF1.out.size, q5⟩
end Go.Proofs.YtfkamoiamebngaaGreatDoor.BroW

/- kibitzertop: said, all, command, comes. -/
namespace Go.Proofs.YtfkamoiamebngaaGreatDoor.BroW
open Go.RowKit Go.Proofs.YtfkamoiamebngaaGreatDoorW.PrintWords Go.Proofs.YtfkamoiamebngaaGreatDoorW.PrintMore Go.Proofs.YtfkamoiamebngaaGreatDoor.Fr Go.Proofs.YtfkamoiamebngaaGreatDoor.ScrW Go.Proofs.YtfkamoiamebngaaGreatDoor.ScrP Go.Proofs.YtfkamoiamebngaaGreatDoor.Mod
set_option linter.unusedVariables false
set_option linter.unusedSimpArgs false

theorem set4 {w1 : World} {g : Nat} {x0 x1 x2 x3 : Value} {T : TypeId} (hB : w1.heap[g]? = some (.cells #[x0, x1, x2, x3] T (0, 0))) (v0 v1 v2 v3 : Value) :
    ∃ W4, W4 = (((w1.setCell ⟨g, 0, none⟩ v0).setCell ⟨g, 1, none⟩ v1).setCell ⟨g, 2, none⟩ v2).setCell ⟨g, 3, none⟩ v3 ∧ W4.cell? ⟨g, 0, none⟩ = some v0 ∧ W4.cell? ⟨g, 1, none⟩ = some v1 ∧ W4.cell? ⟨g, 2, none⟩ = some v2 ∧ W4.cell? ⟨g, 3, none⟩ = some v3 := by
  have h := blk_set (blk_set (blk_set (blk_set hB 0 v0) 1 v1) 2 v2) 3 v3
  exact ⟨_, rfl, (blk_cell h 0).trans rfl, (blk_cell h 1).trans rfl, (blk_cell h 2).trans rfl, (blk_cell h 3).trans rfl⟩
theorem fr_set4 {w w1 : World} {g : Nat} (h : Fr nope w w1) (hg : w.heap.size ≤ g) (v0 v1 v2 v3 : Value) : Fr nope w ((((w1.setCell ⟨g, 0, none⟩ v0).setCell ⟨g, 1, none⟩ v1).setCell ⟨g, 2, none⟩ v2).setCell ⟨g, 3, none⟩ v3) :=
  (((h.set (fun h => absurd h (by omega)) 0 _).set (fun h => absurd h (by omega)) 1 _).set (fun h => absurd h (by omega)) 2 _).set (fun h => absurd h (by omega)) 3 _
def evV (e : Ev) : Value := .agg #[.int .i64 e.k, .int .i64 e.i, .int .i64 e.n, .string e.d]
/-- an event is the answer, and nothing of before is touched -/
def QV (w : World) (x : Ev) (e : Ending) (w' : World) : Prop := e = .returned (evV x) ∧ Fr nope w w'
def allE (id : Int) : Ev := ⟨2, id, 65536, ⟨#[]⟩⟩
def sayE (id : Int) (m : Mg) : Ev := ⟨1, id, 0, strOfNums (mB m)⟩

set_option maxRecDepth 100000 in
set_option maxHeartbeats 4000000 in
theorem allE_calls (id : Int) (w : World) : Calls Tryz.prog 13 #[.int .i64 id] w (QV w (allE id)) := by
  go_enter Tryz.func13, Tryz.ntmps13
  go_wp2
  go_returns
  exact ⟨rfl, (Fr.refl nope w).alloc _⟩

set_option maxRecDepth 100000 in
set_option maxHeartbeats 1000000 in
theorem said_calls (id : Int) (m : Mg) (w : World) (ht : m.t.size ≤ 140737488351232) : Calls Tryz.prog 14 #[.int .i64 id, .agg #[.int .i64 m.k, .int .i64 m.a, .int .i64 m.b, .string m.t]] w (QV w (sayE id m)) := by
  have HP := Aside0.mk (fun w => mput_calls m w ht)
  unfold mgV at HP
  have HBN : Aside0 (∀ (W : World) (o : Obj), (W.alloc o).heap[W.heap.size]? = some o) := ⟨fun W o => blk_new W o⟩
  go_enter Tryz.func14, Tryz.ntmps14
  go_wp2_with (go_at_call 29; refine (HP.out _).mono ?_; rintro e1 w1 ⟨v, rfl, ho1, hf1⟩; have hcv := conv_out (v := v) (bs := mB m) (w := w1) (o := fun _ => .no) (base := 0) (.inr ⟨own_base_le ho1 (Nat.zero_le _), fun _ _ => rfl⟩); have hB := hf1.blk (HBN.out _ _) (fun h => h); rw [World.size_alloc] at hB; have p0 := (blk_cell hB 0).trans rfl; have p1 := (blk_cell hB 1).trans rfl; have p2 := (blk_cell hB 2).trans rfl; have p3 := (blk_cell hB 3).trans rfl; have q0 := blk_frozen hB 0; have q1 := blk_frozen hB 1; have q2 := blk_frozen hB 2; have q3 := blk_frozen hB 3; have hbl := blk_lt hB; have HB := Aside0.mk hB; have HF1 := Aside0.mk hf1; clear ho1 hf1 hB)
  obtain ⟨W4, hW4, z0, z1, z2, z3⟩ := set4 HB.out (.int .i64 1) (.int .i64 id) (.int .i64 0) (.string (strOfNums (mB m)))
  rw [← hW4]
  refine bodyPost_ret (by simp [results, Tryz.results14, go_sem, z0, z1, z2, z3]; try rfl) rfl ?_
  rw [hW4]
  exact ⟨rfl, fr_set4 ((((Fr.refl nope w).alloc _).alloc _).trans HF1.out (fun _ _ h => h)) (by omega) _ _ _ _⟩

/-- the text of a command -/
def cmdT (s : ByteArray) : ByteArray := (⟨#[29, 58]⟩ ++ s) ++ ⟨#[10]⟩
def cmdM (s : ByteArray) : Mg := ⟨2, 1, 0, cmdT s⟩
def cmdE (id : Int) (s : ByteArray) : Ev := sayE id (cmdM s)
set_option maxRecDepth 100000 in
set_option maxHeartbeats 1000000 in
theorem command_calls (id : Int) (s : ByteArray) (w : World) (ht : s.size ≤ 100000) : Calls Tryz.prog 12 #[.int .i64 id, .string s] w (QV w (cmdE id s)) := by
  have hz : (cmdT s).size ≤ 140737488351232 := by
    unfold cmdT; rw [ByteArray.size_append, ByteArray.size_append]; show 2 + s.size + 1 ≤ _; omega
  have HP : Aside0 (∀ w, Calls Tryz.prog 14 #[.int .i64 id, .agg #[.int .i64 2, .int .i64 1, .int .i64 0, .string ((⟨#[29, 58]⟩ ++ s) ++ ⟨#[10]⟩)]] w (QV w (cmdE id s))) := ⟨fun w => said_calls id (cmdM s) w hz⟩
  have HBN : Aside0 (∀ (W : World) (o : Obj), (W.alloc o).heap[W.heap.size]? = some o) := ⟨fun W o => blk_new W o⟩
  go_enter Tryz.func12, Tryz.ntmps12
  go_wp2_with (go_at_call 14; (with_reducible refine (HP.out _).mono ?_); unfold QV evV; rintro e1 w1 ⟨rfl, hf1⟩; have hB := hf1.blk (HBN.out _ _) (fun h => h); have p0 := (blk_cell hB 0).trans rfl; have p1 := (blk_cell hB 1).trans rfl; have p2 := (blk_cell hB 2).trans rfl; have p3 := (blk_cell hB 3).trans rfl; have q0 := blk_frozen hB 0; have q1 := blk_frozen hB 1; have q2 := blk_frozen hB 2; have q3 := blk_frozen hB 3; have hbl := blk_lt hB; have HB := Aside0.mk hB; have HF1 := Aside0.mk hf1; clear hf1 hB)
  obtain ⟨W4, hW4, z0, z1, z2, z3⟩ := set4 HB.out (.int .i64 (cmdE id s).k) (.int .i64 (cmdE id s).i) (.int .i64 (cmdE id s).n) (.string (cmdE id s).d)
  rw [← hW4]
  refine bodyPost_ret (by simp [results, Tryz.results12, go_sem, z0, z1, z2, z3]; try rfl) rfl ?_
  rw [hW4]
  exact ⟨rfl, fr_set4 (((Fr.refl nope w).alloc _).trans HF1.out (fun _ _ h => h)) (Nat.le_refl _) _ _ _ _⟩

/-- who comes: a writer or none -/
def helloM (wr : Bool) (back : Int) : Mg := ⟨1, if wr then 5 else 4, back, ⟨#[117]⟩⟩
def connE (id : Int) : Ev := ⟨0, id, 0, ⟨#[]⟩⟩
def comesL (id : Int) (wr : Bool) (back : Int) : List Ev := [connE id, sayE id (helloM wr back)]
/-- a row of events is the answer, and nothing of before is touched -/
theorem own_litE (W : World) (base : Nat) (L : List Ev) (k : Nat) (cs : Array Value) (hk : L.length = k) (hcs : cs = (evs L).toArray) (hb : base ≤ W.heap.size) (hm : k ≤ 1000) :
    OwnsEv base (W.alloc (.cells cs 33)) (.slice (some ⟨W.heap.size, 0, none⟩) k k) L := by
  subst hk hcs
  have hl : (evs L).length = L.length * 4 := evs_len L
  exact ⟨hl, .inr ⟨W.heap.size, L.length, _, rfl, hb, heap_alloc_new W _, Nat.le_refl _, by unfold maxLen; omega, by simp [hl], by rw [← hl]; simp⟩⟩
def QL4 (w : World) (Ls : List Ev) (e : Ending) (w' : World) : Prop := ∃ v, e = .returned v ∧ OwnsEv w.heap.size w' v Ls ∧ Fr nope w w'
set_option maxRecDepth 100000 in
set_option maxHeartbeats 1000000 in
theorem comes_calls (id : Int) (wr : Bool) (back : Int) (w : World) : Calls Tryz.prog 11 #[.int .i64 id, .bool wr, .int .i64 back] w (QL4 w (comesL id wr back)) := by
  have HP5 : Aside0 (∀ w, Calls Tryz.prog 14 #[.int .i64 id, .agg #[.int .i64 1, .int .i64 5, .int .i64 back, .string ⟨#[117]⟩]] w (QV w (sayE id (helloM true back)))) := ⟨fun w => said_calls id (helloM true back) w (by show 1 ≤ _; decide)⟩
  have HP4 : Aside0 (∀ w, Calls Tryz.prog 14 #[.int .i64 id, .agg #[.int .i64 1, .int .i64 4, .int .i64 back, .string ⟨#[117]⟩]] w (QV w (sayE id (helloM false back)))) := ⟨fun w => said_calls id (helloM false back) w (by show 1 ≤ _; decide)⟩
  cases wr
  · go_enter Tryz.func11, Tryz.ntmps11
    go_wp2_with (go_at_call 14; (with_reducible refine (HP4.out _).mono ?_); unfold QV evV; rintro e1 w1 ⟨rfl, hf1⟩; have HF1 := Aside0.mk hf1; clear hf1)
    go_returns
    exact ⟨_, rfl, own_litE w1 w.heap.size (comesL id _ back) 2 _ rfl rfl (Nat.le_trans (by rw [World.size_alloc]; omega) HF1.out.size) (by decide), (((Fr.refl nope w).alloc _).trans HF1.out (fun _ _ h => h)).alloc _⟩
  · go_enter Tryz.func11, Tryz.ntmps11
    go_wp2_with (go_at_call 14; (with_reducible refine (HP5.out _).mono ?_); unfold QV evV; rintro e1 w1 ⟨rfl, hf1⟩; have HF1 := Aside0.mk hf1; clear hf1)
    go_returns
    exact ⟨_, rfl, own_litE w1 w.heap.size (comesL id _ back) 2 _ rfl rfl (Nat.le_trans (by rw [World.size_alloc]; omega) HF1.out.size) (by decide), (((Fr.refl nope w).alloc _).trans HF1.out (fun _ _ h => h)).alloc _⟩
end Go.Proofs.YtfkamoiamebngaaGreatDoor.BroW

/- kibitzerlaw14: Messages. -/
namespace Go.Proofs.YtfkamoiamebngaaGreatDoor.BroW
open Go.RowKit Go.Proofs.YtfkamoiamebngaaGreatDoorW.PrintWords Go.Proofs.YtfkamoiamebngaaGreatDoorW.PrintMore Go.Proofs.YtfkamoiamebngaaGreatDoor.Fr Go.Proofs.YtfkamoiamebngaaGreatDoor.ScrW Go.Proofs.YtfkamoiamebngaaGreatDoor.ScrP Go.Proofs.YtfkamoiamebngaaGreatDoor.Mod
set_option linter.unusedVariables false
set_option linter.unusedSimpArgs false

/-- the messages of bytes, and whether they are whole ones -/
def msgsGo : Nat → List Int → List Mg × Bool
  | 0, _ => ([], true)
  | f + 1, b =>
    if b = [] then ([], true)
    else if (getB b).2.2 = 0 ∧ (mOf (getB b).1).2 = true then
      ((mOf (getB b).1).1 :: (msgsGo f (b.drop (getB b).2.1)).1, (msgsGo f (b.drop (getB b).2.1)).2)
    else ([], false)
def msgsM (b : List Int) : List Mg × Bool := msgsGo (b.length + 1) b
def mgC (m : Mg) : List Value := [.int .i64 m.k, .int .i64 m.a, .int .i64 m.b, .string m.t]
def mgs (L : List Mg) : List Value := (L.map mgC).flatten
theorem mgs_snoc (L : List Mg) (m : Mg) : mgs (L ++ [m]) = mgs L ++ mgC m := by simp [mgs]
theorem infoMsg : (Tryz.prog.info? 39).map (fun i => (i.zero, i.size, i.bytes)) = some (some (.agg #[.int .i64 0, .int .i64 0, .int .i64 0, .string ⟨#[]⟩]), 4, 40) := by kernel_rfl
def MsgsQ (w : World) (r : List Mg × Bool) (e : Ending) (w' : World) : Prop := ∃ v, e = .returned (.tuple #[v, .bool r.2]) ∧ w'.ownsRow w.heap.size 39 4 v r.1.length (mgs r.1) ∧ Fr nope w w'
def lenS (v : Value) : Nat := match v with | .slice _ n _ => n | _ => 0

set_option maxRecDepth 100000 in
set_option maxHeartbeats 2000000 in
theorem messages_calls (bs : List Int) (A : Option Addr) (cp : Nat) (w : World) (hl : bs.length ≤ 100000) (hc : bs.length ≤ cp) (hcm : cp ≤ 9223372036854775807) (hr : ReadsInt w .u8 A bs.length bs) (hb : isB bs) :
    Calls Tryz.prog 18 #[.slice A bs.length cp] w (MsgsQ w (msgsM bs)) := by
  have HR := Aside0.mk hr
  have HB := Aside0.mk hb
  have hsz5 : (Tryz.prog.info? 5).map (·.size) = some 1 := by kernel_rfl
  obtain ⟨i5, hi5, hz5⟩ := Option.map_eq_some_iff.1 hsz5
  have HI5 := Aside0.mk (And.intro hi5 hz5)
  obtain ⟨R, hR⟩ : ∃ R, R = msgsM bs := ⟨_, rfl⟩
  have HRR : Aside0 (R = msgsGo (bs.length + 1) bs) := ⟨hR⟩
  rw [← hR]
  clear hr hb hsz5 hi5 hz5 hR
  go_enter Tryz.func18, Tryz.ntmps18
  go_wp2
  go_loopw [0, 4] (fun v0 v4 wr => ∃ (f : Nat) (rest : List Int) (L : List Mg) (A0 : Option Addr) (c0 : Nat) (A4 : Option Addr) (c4 : Nat), v0 = .slice A0 rest.length c0 ∧ v4 = .slice A4 L.length c4 ∧ rest.length + L.length ≤ bs.length ∧ rest.length < f ∧ rest.length ≤ c0 ∧ c0 ≤ 9223372036854775807 ∧ Aside0 (R = (L ++ (msgsGo f rest).1, (msgsGo f rest).2)) ∧ Aside0 (ReadsInt w .u8 A0 rest.length rest) ∧ Aside0 (isB rest) ∧ Aside0 (wr.ownsRow w.heap.size 39 4 (.slice A4 L.length c4) L.length (mgs L)) ∧ Aside0 (Fr nope w wr)) (fun v0 _ _ => lenS v0)
  case atStart =>
    refine ⟨bs.length + 1, bs, [], A, cp, _, _, rfl, rfl, by simp, by omega, hc, hcm, ⟨?_⟩, HR, HB, ⟨?_⟩, ⟨?_⟩⟩
    · rw [HRR.out]; simp
    · exact World.ownsRow_made w #[] 0 (Nat.le_refl _) (by unfold maxLen; omega) rfl
    · exact (Fr.refl nope w).alloc _
  case round =>
    obtain ⟨f, rest, L, A0, c0, A4, c4, rfl, rfl, hll, hf, hc0, hcm0, HE, HRE, HBB, HRW, HF⟩ := hrel
    obtain ⟨f1, rfl⟩ : ∃ f1, f = f1 + 1 := ⟨f - 1, by omega⟩
    by_cases hn : rest = []
    · subst hn
      have HE2 : Aside0 (R = (L, true)) := ⟨by rw [HE.out]; simp [msgsGo]⟩
      clear HE
      go_wp2
      go_returns
      refine ⟨.slice A4 L.length c4, by rw [HE2.out]; rfl, by rw [HE2.out]; exact HRW.out, HF.out⟩
    · have hpos : (0 : Int) < (rest.length : Int) := by
        cases rest with
        | nil => exact absurd rfl hn
        | cons x l => simp only [List.length_cons]; omega
      have HN := Aside0.mk hn
      obtain ⟨gg, hgg⟩ : ∃ x, getB rest = x := ⟨_, rfl⟩
      have hgb := getB_body rest HBB.out
      obtain ⟨⟨kk, body⟩, nn, ee⟩ := gg
      rw [hgg] at hgb
      have HGG := Aside0.mk hgg
      have HGB := Aside0.mk hgb
      obtain ⟨mm, ok, hmo⟩ : ∃ mm ok, mOf (kk, body) = (mm, ok) := ⟨_, _, rfl⟩
      have HMO := Aside0.mk hmo
      have HGET : Aside0 (∀ W, Fr nope w W → Calls Tryz.prog 32 #[.slice A0 rest.length c0] W (FGet W ((kk, body), nn, ee))) := ⟨fun W hF => by
        have h := fget_calls rest A0 c0 W hc0 hcm0 (hF.reads HRE.out (fun _ _ h => h)) HBB.out
        rw [HGG.out] at h
        exact h⟩
      have HOF : Aside0 (∀ (W : World) (base : Nat) (Ab : Option Addr) (cb : Nat), W.ownsRow base 5 1 (.slice Ab body.length cb) body.length (nums .u8 body) → Calls Tryz.prog 16 #[.agg #[.int .u8 kk, .slice Ab body.length cb]] W (fun e w' => e = .returned (.tuple #[.agg #[.int .i64 mm.k, .int .i64 mm.a, .int .i64 mm.b, .string mm.t], .bool ok]) ∧ Fr nope W w')) := ⟨fun W base Ab cb ho => by
        have h := mof_calls kk body Ab cb W HGB.out.2.2 HGB.out.2.1 (own_caps ho).1 (own_caps ho).2 (own_readsInt ho) HGB.out.1
        unfold MOf mgV at h
        rw [HMO.out] at h
        exact h⟩
      clear hgg hgb hmo hn
      by_cases hok : ee = 0 ∧ ok = true
      · obtain ⟨rfl, rfl⟩ := hok
        have hg := getB_ok rest (by rw [HGG.out])
        rw [HGG.out] at hg
        have hn5 : 5 ≤ nn := hg.1
        have hnl : nn ≤ rest.length := hg.2
        have HS : Aside0 (R = ((L ++ [mm]) ++ (msgsGo f1 (rest.drop nn)).1, (msgsGo f1 (rest.drop nn)).2)) := ⟨by
          rw [HE.out, msgsGo, if_neg HN.out, HGG.out]
          simp [HMO.out]⟩
        obtain ⟨A2, hdr, hrr, hll2⟩ := print_drop_of (P := Tryz.prog) (Value.int .u8) (0 : Int) 29 5 .i64 Tryz.underlying29 HI5.out.1 HI5.out.2 A0 c0 rest (nn : Int) (by omega) (by omega) hc0
        rw [Int.toNat_natCast] at hdr hrr hll2
        have hrd := hrr w HRE.out
        obtain ⟨r2, hr2⟩ : ∃ r2, r2 = rest.drop nn := ⟨_, rfl⟩
        have hb2 : isB r2 := fun x hx => HBB.out x (List.mem_of_mem_drop (by rw [← hr2]; exact hx))
        have hlr : r2.length + nn = rest.length := by rw [hr2, List.length_drop]; omega
        rw [← hr2] at hdr hrd hll2 HS
        have HRD := Aside0.mk hrd
        have HB2 := Aside0.mk hb2
        clear hrr hg hr2 hb2 hrd HE
        go_wp2_with (first | (go_at_call 32; (with_reducible refine (HGET.out wr HF.out).mono ?_); rintro e1 w1 ⟨vb, rfl, ho1, hf1⟩; obtain ⟨Ab, cb, rfl⟩ := own_slice ho1; have HO1 : Aside0 (w1.ownsRow wr.heap.size 5 1 (.slice Ab body.length cb) body.length (nums .u8 body)) := ⟨ho1⟩; have HF1 := Aside0.mk hf1; have hs1 : wr.heap.size ≤ w1.heap.size := hf1.size; clear ho1 hf1) | (go_at_call 16; (with_reducible refine (HOF.out _ wr.heap.size Ab cb (HO1.out.alloc _)).mono ?_); rintro e2 w2 ⟨rfl, hf2⟩; have HF2 := Aside0.mk hf2; have hs2 : w1.heap.size + 1 ≤ w2.heap.size := (by have h := hf2.size; rw [World.size_alloc] at h; exact h); clear hf2) | ((with_reducible refine gate_builtin (b := .append) (xs := #[.tmp 32, .tmp 34]) rfl ?_); at_builtin; refine app_lit rfl (.tmp 32) (.tmp 34) 52 39 (.agg #[.int .i64 0, .int .i64 0, .int .i64 0, .string ⟨#[]⟩]) 4 40 rfl Tryz.underlying52 infoMsg (by decide) (by decide) w.heap.size (.slice A4 L.length c4) L.length (mgs L) (w2.heap.size + 1) 1 #[.int .i64 mm.k, .int .i64 mm.a, .int .i64 mm.b, .string mm.t] 39 rfl rfl ?aG rfl ?a1 ?aO ?aB ?aN (by decide) ?_; (case aG => exact blk_second w2 _ _); (case a1 => intro u hu; simp only [List.mem_cons, List.not_mem_nil, or_false] at hu; rcases hu with rfl | rfl | rfl | rfl <;> rfl); (case aO => exact ((HF2.out.own ((HF1.out.own HRW.out (fun _ _ h => h)).alloc _) (fun _ _ h => h)).alloc _ |>.alloc _)); (case aB => exact (by have := HF.out.size; rw [World.size_alloc, World.size_alloc]; omega)); (case aN => exact (by omega)); intro v3 w3 ho3 hf3 hat3; obtain ⟨A3, c3, rfl⟩ := own_slice ho3; have HO3 := Aside0.mk ho3; have HF3 := Aside0.mk hf3; clear ho3 hf3 hat3))
        have hF : Fr nope w w3 := (((((HF.out.trans HF1.out (fun _ _ h => h)).alloc _).trans HF2.out (fun _ _ h => h)).alloc _).alloc _).trans HF3.out (fun i hi hs => by have := (own_old HRW.out hs).1; omega)
        refine ⟨⟨f1, r2, L ++ [mm], A2, c0 - nn, A3, c3, rfl, by rw [List.length_append]; rfl, by rw [List.length_append, List.length_singleton]; omega, by omega, by omega, by omega, HS, HRD, HB2, ⟨?_⟩, ⟨hF⟩⟩, ?_⟩
        · rw [List.length_append, mgs_snoc]; exact HO3.out
        · show r2.length < rest.length; omega
      · have HE2 : Aside0 (R = (L, false)) := ⟨by
          rw [HE.out, msgsGo, if_neg HN.out, HGG.out]
          have hk : ¬ (ee = 0 ∧ (mOf (kk, body)).2 = true) := by rw [HMO.out]; exact hok
          dsimp only
          rw [if_neg hk]
          simp⟩
        clear HE
        have hee : ee ≠ 0 ∨ (ee = 0 ∧ ok = false) := by
          by_cases h0 : ee = 0
          · exact .inr ⟨h0, by cases ok with | false => rfl | true => exact absurd ⟨h0, rfl⟩ hok⟩
          · exact .inl h0
        clear hok
        rcases hee with hee | ⟨rfl, rfl⟩
        · go_wp2_with (first | (go_at_call 32; (with_reducible refine (HGET.out wr HF.out).mono ?_); rintro e1 w1 ⟨vb, rfl, ho1, hf1⟩; obtain ⟨Ab, cb, rfl⟩ := own_slice ho1; have HO1 : Aside0 (w1.ownsRow wr.heap.size 5 1 (.slice Ab body.length cb) body.length (nums .u8 body)) := ⟨ho1⟩; have HF1 := Aside0.mk hf1; have hs1 : wr.heap.size ≤ w1.heap.size := hf1.size; clear ho1 hf1) | (go_at_call 16; (with_reducible refine (HOF.out _ wr.heap.size Ab cb (HO1.out.alloc _)).mono ?_); rintro e2 w2 ⟨rfl, hf2⟩; have HF2 := Aside0.mk hf2; have hs2 : w1.heap.size + 1 ≤ w2.heap.size := (by have h := hf2.size; rw [World.size_alloc] at h; exact h); clear hf2))
          go_returns
          refine ⟨.slice A4 L.length c4, by rw [HE2.out]; rfl, by rw [HE2.out]; exact (HF2.out.own ((HF1.out.own HRW.out (fun _ _ h => h)).alloc _) (fun _ _ h => h)).alloc _, (((HF.out.trans HF1.out (fun _ _ h => h)).alloc _).trans HF2.out (fun _ _ h => h)).alloc _⟩
        · go_wp2_with (first | (go_at_call 32; (with_reducible refine (HGET.out wr HF.out).mono ?_); rintro e1 w1 ⟨vb, rfl, ho1, hf1⟩; obtain ⟨Ab, cb, rfl⟩ := own_slice ho1; have HO1 : Aside0 (w1.ownsRow wr.heap.size 5 1 (.slice Ab body.length cb) body.length (nums .u8 body)) := ⟨ho1⟩; have HF1 := Aside0.mk hf1; have hs1 : wr.heap.size ≤ w1.heap.size := hf1.size; clear ho1 hf1) | (go_at_call 16; (with_reducible refine (HOF.out _ wr.heap.size Ab cb (HO1.out.alloc _)).mono ?_); rintro e2 w2 ⟨rfl, hf2⟩; have HF2 := Aside0.mk hf2; have hs2 : w1.heap.size + 1 ≤ w2.heap.size := (by have h := hf2.size; rw [World.size_alloc] at h; exact h); clear hf2))
          go_returns
          refine ⟨.slice A4 L.length c4, by rw [HE2.out]; rfl, by rw [HE2.out]; exact (HF2.out.own ((HF1.out.own HRW.out (fun _ _ h => h)).alloc _) (fun _ _ h => h)).alloc _, (((HF.out.trans HF1.out (fun _ _ h => h)).alloc _).trans HF2.out (fun _ _ h => h)).alloc _⟩
end Go.Proofs.YtfkamoiamebngaaGreatDoor.BroW

/- kibitzertop: alive. -/
namespace Go.Proofs.YtfkamoiamebngaaGreatDoor.BroW
open Go.RowKit Go.Proofs.YtfkamoiamebngaaGreatDoorW.PrintWords Go.Proofs.YtfkamoiamebngaaGreatDoorW.PrintMore Go.Proofs.YtfkamoiamebngaaGreatDoor.Fr Go.Proofs.YtfkamoiamebngaaGreatDoor.ScrW Go.Proofs.YtfkamoiamebngaaGreatDoor.ScrP Go.Proofs.YtfkamoiamebngaaGreatDoor.Mod
set_option linter.unusedVariables false
set_option linter.unusedSimpArgs false

theorem evs_one (M : List Ev) : ∀ u ∈ evs M, u.oneCell' = true := by
  intro u hu
  obtain ⟨l, hl, hu⟩ := List.mem_flatten.1 hu
  obtain ⟨e, _, rfl⟩ := List.mem_map.1 hl
  simp only [evC, List.mem_cons, List.not_mem_nil, or_false] at hu
  rcases hu with rfl | rfl | rfl | rfl <;> rfl
theorem infoEv4 : (Tryz.prog.info? 33).map (fun i => (i.zero, i.size, i.bytes)) = some (some (.agg #[.int .i64 0, .int .i64 0, .int .i64 0, .string ⟨#[]⟩]), 4, 40) := by kernel_rfl
section
variable {ops : Array Oper} {Q : Exit → Act → World → Prop} {rest : List Oper} {a : Act} {o : Oper} {W : World}
/-- append of a row of events that stands for itself, onto a row of events of the call's own -/
theorem app_evs (hgd : o.guard = none) (s x : Operand) (ho : o.op = .call { callee := .builtin .append, args := #[s, x], argTypes := #[27, 27] })
    (base b2 : Nat) (v : Value) (L M : List Ev) (A : Option Addr) (m c k : Nat) (hm : M.length = m) (hk : (L ++ M).length = k) (hpos : 0 < m) (hs : a.eval s = v) (hx : a.eval x = .slice A m c)
    (hown : OwnsEv base W v L) (hM : OwnsEv b2 W (.slice A m c) M) (hlen : L.length + m ≤ 100000) (hbase : base ≤ W.heap.size)
    (h : ∀ A1 c1 w1, OwnsEv base w1 (.slice A1 k c1) (L ++ M) → Fr (rowOf v) W w1 → wpList Tryz.prog ops Q rest (a.put o.dst (.slice A1 k c1)) w1) :
    wpList Tryz.prog ops Q (o :: rest) a W := by
  subst hm hk
  obtain ⟨i0, hi, hzz⟩ := Option.map_eq_some_iff.1 infoEv4
  simp only [Prod.mk.injEq] at hzz
  obtain ⟨hz0, hz1, hz2⟩ := hzz
  obtain ⟨g, rfl⟩ : ∃ g, A = some ⟨g, 0, none⟩ := by
    rcases hM.2 with ⟨_, h0⟩ | ⟨g, cap, cur, hv, _⟩
    · omega
    · injection hv with e1 _ _; exact ⟨g, e1⟩
  have hc := World.ownsRow.cells hM (g := g) rfl
  refine wpList_append_own_at W hgd s x 27 ho base 33 i0 _ 4 40 Tryz.underlying27 hi hz0 hz1 hz2 rfl (by decide) v L.length (evs L) hs hown ⟨g, 0, none⟩ M.length c (evs M) hx (evs_len M) (fun j u hu => ?_) (evs_one M) (by unfold maxLen; omega) (by omega) hbase ?_
  · have hadd : (⟨g, 0, none⟩ : Addr).add j = ⟨g, j, none⟩ := by unfold Addr.add; split <;> simp_all
    rw [hadd]; have h0 := hc j u hu; rw [hadd] at h0; exact h0
  · intro v1 w1 h2 h3 _ h5
    have h2' : OwnsEv base w1 v1 (L ++ M) := by
      unfold OwnsEv
      rw [List.length_append, show evs (L ++ M) = evs L ++ evs M by simp [evs]]
      exact h2
    obtain ⟨A1, c1, rfl⟩ := own_slice h2'
    exact h A1 c1 w1 h2' ((Fr.refl (rowOf v) W).grown h3 (fun _ hb _ => hb))
end
deriving instance DecidableEq for Mg
/-- the events of alive -/
def aliveL : List Ev := (comesL 1 true 0 ++ comesL 2 false 0) ++ [cmdE 1 ⟨#[102, 108, 111, 111, 114]⟩, ⟨3, 0, 0, ⟨#[36, 32]⟩⟩, sayE 1 ⟨2, 9, 0, ⟨#[108, 115, 10]⟩⟩, sayE 2 ⟨2, 3, 0, ⟨#[120]⟩⟩, allE 2, ⟨4, 0, 99, ⟨#[]⟩⟩]
def aliveR : List (Int × List Int) := (run aliveL (stNew cfD)).2
theorem alive_len : aliveR.length = 10 := by decide +kernel
theorem alive_ev : ∀ e ∈ aliveL, evB e = true := by decide +kernel
theorem alive_out : outSum aliveL ≤ 8100 := by decide +kernel
theorem alive_sz : sz aliveL ≤ 100000 := by decide +kernel
theorem alive_msgs : msgsM (bytesOf (strOfNums (aliveR.getD 8 (0, [])).2)) = ((msgsM (bytesOf (strOfNums (aliveR.getD 8 (0, [])).2))).1.take 3 ++ [⟨6, 0, 0, ⟨#[36, 32]⟩⟩, ⟨8, 3, 3, ⟨#[]⟩⟩], true) ∧ (msgsM (bytesOf (strOfNums (aliveR.getD 8 (0, [])).2))).1.length = 5 := by decide +kernel
theorem alive_drain : strOfNums (aliveR.getD 9 (0, [])).2 = ⟨#[108, 115, 10]⟩ := by decide +kernel
theorem alive_small : (strOfNums (aliveR.getD 8 (0, [])).2).size ≤ 100000 := by decide +kernel
theorem outs_at : ∀ (L : List (Int × List Int)) (j : Nat), j < L.length → (outs L)[j * 2 + 1]? = some (.string (strOfNums (L.getD j (0, [])).2))
  | [], j, h => by simp at h
  | p :: L, 0, _ => by simp [outs, outC]
  | p :: L, j + 1, h => by
    have : outs (p :: L) = outC p ++ outs L := by simp [outs]
    rw [this, List.getElem?_append_right (by simp [outC]; omega), show (j + 1) * 2 + 1 - (outC p).length = j * 2 + 1 by simp [outC]; omega, outs_at L j (by simpa using h)]
    rfl
theorem mgs_at : ∀ (L : List Mg) (j f : Nat), j < L.length → f < 4 → (mgs L)[j * 4 + f]? = (mgC (L.getD j mg0))[f]?
  | [], j, f, h, _ => by simp at h
  | e :: L, 0, f, _, hf => by
    have : mgs (e :: L) = mgC e ++ mgs L := by simp [mgs]
    rw [this, Nat.zero_mul, Nat.zero_add, List.getElem?_append_left (by simpa [mgC] using hf)]
    rfl
  | e :: L, j + 1, f, h, hf => by
    have : mgs (e :: L) = mgC e ++ mgs L := by simp [mgs]
    rw [this, List.getElem?_append_right (by simp [mgC]; omega), show (j + 1) * 4 + f - (mgC e).length = j * 4 + f by simp [mgC]; omega, mgs_at L j f (by simpa using h) hf]
    rfl

theorem own_some {w : World} {base n m c : Nat} {e : TypeId} {size : Nat} {A : Option Addr} {xs : List Value} (h : w.ownsRow base e size (.slice A m c) n xs) (hn : 0 < n) : ∃ g, A = some ⟨g, 0, none⟩ := by
  rcases h.2 with ⟨_, h0⟩ | ⟨g, cap, cur, hv, _⟩
  · omega
  · injection hv with e1 _ _; exact ⟨g, e1⟩
theorem own_cellAt {w : World} {base n m c g : Nat} {e : TypeId} {size : Nat} {xs : List Value} (h : w.ownsRow base e size (.slice (some ⟨g, 0, none⟩) m c) n xs) (j : Nat) (u : Value) (hu : xs[j]? = some u) : w.cell? ⟨g, j, none⟩ = some u := by
  have hadd : (⟨g, 0, none⟩ : Addr).add j = ⟨g, j, none⟩ := by unfold Addr.add; split <;> simp_all
  have h0 := World.ownsRow.cells h (g := g) rfl j u hu
  rw [hadd] at h0; exact h0
theorem reads_of_own {w : World} {base m c : Nat} {A : Option Addr} {L : List Ev} (h : OwnsEv base w (.slice A m c) L) (hev : ∀ e ∈ L, evB e = true) (hl : L.length ≤ 8192) : ReadsEv w A L := by
  obtain ⟨A', c', e, _, hr⟩ := own_readsEv h (fun e he => by have := ev_size (hev e he); omega) (by omega)
  injection e with e1 _ _
  rw [e1]; exact hr
theorem fr_cell {w w1 : World} (h : Fr nope w w1) {ad : Addr} {v : Value} (hc : w.cell? ad = some v) : w1.cell? ad = some v := by
  rw [World.cell?_of_block (h.block _ (World.block_lt_of_cell? w _ hc) (fun h => h))]; exact hc
/-- script.Encode of events that are right -/
theorem enc_calls (c : Cf) (L : List Ev) (A : Option Addr) (cp : Nat) (w : World) (hc : cfB c = true) (hev : ∀ e ∈ L, evB e = true) (hl : L.length ≤ 8192) (hs : sz L ≤ 100000) (hr : ReadsEv w A L) :
    Calls Tryz.prog 26 #[cfV c, .slice A L.length cp] w fun e w' => ∃ A1 c1, e = .returned (.tuple #[.slice A1 (encB c L).length c1, .int .i64 0]) ∧ Fr nope w w' ∧ w'.ownsRow w.heap.size 5 1 (.slice A1 (encB c L).length c1) (encB c L).length (nums .u8 (encB c L)) := by
  refine (encode_calls c L A cp w hr (.inr hs)).mono ?_
  rintro e1 w1 ⟨v, x, rfl, hf1, ho1⟩
  unfold EncOk at ho1
  rcases ho1 with ⟨h, _⟩ | ⟨_, h, _⟩ | ⟨_, _, _, rfl, ho1⟩
  · exact absurd h (by omega)
  · exact absurd ⟨hc, hev⟩ h
  · obtain ⟨A1, c1, rfl⟩ := own_slice ho1
    exact ⟨A1, c1, rfl, hf1, ho1⟩
/-- play.Bytes of what was encoded -/
theorem byt_calls (c : Cf) (L : List Ev) (A : Option Addr) (cp : Nat) (w : World) (base : Nat) (hlib : LibOK w) (hc : cfB c = true) (hev : ∀ e ∈ L, evB e = true) (hl : L.length ≤ 8192) (hs : sz L ≤ 100000) (ho : outSum L ≤ 8100) (hr : w.ownsRow base 5 1 (.slice A (encB c L).length cp) (encB c L).length (nums .u8 (encB c L))) :
    Calls Tryz.prog 27 #[.slice A (encB c L).length cp] w (PlQ w (run L (stNew c)).1 (run L (stNew c)).2 (fun p v => .returned (.tuple #[p, v, .int .i64 (encB c L).length, .int .i64 0]))) :=
  bytes_calls (encB c L) A cp w c L (encB c L).length 0 hlib (own_caps hr).1 (own_caps hr).2 (own_readsInt hr) (isB_enc c L) (decP_enc c L hc hev hl hs) hc ho hl (fun e he => ev_size (hev e he))
/-- Messages of a string -/
theorem msgs_calls (s : ByteArray) (W : World) (hs : s.size ≤ 100000) :
    Calls Tryz.prog 18 #[.slice (some ⟨W.heap.size, 0, none⟩) s.size (grownCap W s.size 0 5)] (Lib.bytesWorld W 5 s) (MsgsQ (Lib.bytesWorld W 5 s) (msgsM (bytesOf s))) := by
  have hr := bytes_reads W 5 s (by omega)
  have h := messages_calls (bytesOf s) (some ⟨W.heap.size, 0, none⟩) (grownCap W s.size 0 5) (Lib.bytesWorld W 5 s) (by rw [bytesOf_len]; exact hs) (by rw [bytesOf_len]; exact grownCap_ge _ _ _ _) (by have h := grownCap_le_maxLen W s.size 0 5 (by unfold maxLen; omega); unfold maxLen at h; omega) hr (bytesOf_isB' s)
  rw [bytesOf_len] at h
  exact h
theorem cfD_right : cfB cfD = true := by decide +kernel
theorem alive_len2 : aliveL.length = 10 := rfl

set_option maxRecDepth 100000 in
set_option maxHeartbeats 8000000 in
theorem alive_calls (w : World) (hlib : LibOK w) : Calls Tryz.prog 9 #[] w fun e w' => e = .returned (.bool true) ∧ Fr nope w w' := by
  have HLIB := Aside0.mk hlib
  have HSA : Aside0 (∀ W, Calls Tryz.prog 14 #[.int .i64 1, .agg #[.int .i64 2, .int .i64 9, .int .i64 0, .string ⟨#[108, 115, 10]⟩]] W (QV W (sayE 1 ⟨2, 9, 0, ⟨#[108, 115, 10]⟩⟩))) := ⟨fun W => said_calls 1 ⟨2, 9, 0, ⟨#[108, 115, 10]⟩⟩ W (by decide)⟩
  have HSB : Aside0 (∀ W, Calls Tryz.prog 14 #[.int .i64 2, .agg #[.int .i64 2, .int .i64 3, .int .i64 0, .string ⟨#[120]⟩]] W (QV W (sayE 2 ⟨2, 3, 0, ⟨#[120]⟩⟩))) := ⟨fun W => said_calls 2 ⟨2, 3, 0, ⟨#[120]⟩⟩ W (by decide)⟩
  obtain ⟨B, hB⟩ : ∃ B, B = encB cfD aliveL := ⟨_, rfl⟩
  obtain ⟨s8, hs8⟩ : ∃ s, s = strOfNums (aliveR.getD 8 (0, [])).2 := ⟨_, rfl⟩
  have HENC : Aside0 (∀ (W : World) (A : Option Addr) (cp : Nat), ReadsEv W A aliveL → Calls Tryz.prog 26 #[.agg #[.int .i64 4096, .int .i64 512, .int .i64 2048, .int .i64 256, .int .i64 3, .int .i64 100, .int .i64 0, .int .i64 80], .slice A 10 cp] W fun e w' => ∃ A1 c1, e = .returned (.tuple #[.slice A1 B.length c1, .int .i64 0]) ∧ Fr nope W w' ∧ w'.ownsRow W.heap.size 5 1 (.slice A1 B.length c1) B.length (nums .u8 B)) := ⟨fun W A cp hr => by
    have h := enc_calls cfD aliveL A cp W cfD_right alive_ev (by decide) alive_sz hr
    rw [alive_len2, ← hB] at h
    exact h⟩
  have HBYT : Aside0 (∀ (W : World) (A : Option Addr) (cp base : Nat), LibOK W → W.ownsRow base 5 1 (.slice A B.length cp) B.length (nums .u8 B) → Calls Tryz.prog 27 #[.slice A B.length cp] W fun e w' => ∃ b g c, e = .returned (.tuple #[.pointer (some ⟨b, 0, none⟩), .slice (some ⟨g, 0, none⟩) 10 c, .int .i64 B.length, .int .i64 0]) ∧ Fr nope W w' ∧ w'.cell? ⟨g, 17, none⟩ = some (.string s8) ∧ w'.cell? ⟨g, 19, none⟩ = some (.string ⟨#[108, 115, 10]⟩)) := ⟨fun W A cp base hl hr => by
    rw [hB] at hr ⊢
    refine (byt_calls cfD aliveL A cp W base hl cfD_right alive_ev (by decide) alive_sz alive_out hr).mono ?_
    rintro e w' ⟨L', o', v, rfl, q1, q2, q3, q4, q5⟩
    have q6 : w'.ownsRow W.heap.size 46 2 v 10 (outs aliveR) := by rw [← alive_len]; exact q4
    obtain ⟨A1, c1, rfl⟩ := own_slice q6
    obtain ⟨g, rfl⟩ := own_some q6 (by decide)
    refine ⟨L'.bg, g, c1, rfl, q2, own_cellAt q6 17 _ ?_, own_cellAt q6 19 _ ?_⟩
    · rw [hs8]; exact outs_at aliveR 8 (by rw [alive_len]; decide)
    · rw [← alive_drain]; exact outs_at aliveR 9 (by rw [alive_len]; decide)⟩
  have HMSG : Aside0 (∀ W : World, Calls Tryz.prog 18 #[.slice (some ⟨W.heap.size, 0, none⟩) s8.size (grownCap W s8.size 0 5)] (Lib.bytesWorld W 5 s8) fun e w' => ∃ g c, e = .returned (.tuple #[.slice (some ⟨g, 0, none⟩) 5 c, .bool true]) ∧ Fr nope (Lib.bytesWorld W 5 s8) w' ∧ w'.cell? ⟨g, 12, none⟩ = some (.int .i64 6) ∧ w'.cell? ⟨g, 13, none⟩ = some (.int .i64 0) ∧ w'.cell? ⟨g, 14, none⟩ = some (.int .i64 0) ∧ w'.cell? ⟨g, 15, none⟩ = some (.string ⟨#[36, 32]⟩) ∧ w'.cell? ⟨g, 16, none⟩ = some (.int .i64 8) ∧ w'.cell? ⟨g, 17, none⟩ = some (.int .i64 3) ∧ w'.cell? ⟨g, 18, none⟩ = some (.int .i64 3) ∧ w'.cell? ⟨g, 19, none⟩ = some (.string ⟨#[]⟩)) := ⟨fun W => by
    refine (msgs_calls s8 W (by rw [hs8]; exact alive_small)).mono ?_
    rintro e w' ⟨v, rfl, q1, q2⟩
    obtain ⟨M, hM⟩ : ∃ M, M = msgsM (bytesOf s8) := ⟨_, rfl⟩
    have h1 := alive_msgs
    rw [← hs8, ← hM] at h1
    rw [← hM] at q1 ⊢
    obtain ⟨h1, h2⟩ := h1
    have ht : M.2 = true := by rw [h1]
    have hM3 : M.1.getD 3 mg0 = ⟨6, 0, 0, ⟨#[36, 32]⟩⟩ := by
      have : M.1 = M.1.take 3 ++ [⟨6, 0, 0, ⟨#[36, 32]⟩⟩, ⟨8, 3, 3, ⟨#[]⟩⟩] := congrArg Prod.fst h1
      rw [this, List.getD_eq_getElem?_getD, List.getElem?_append_right (by rw [List.length_take]; omega), List.length_take, h2]; rfl
    have hM4 : M.1.getD 4 mg0 = ⟨8, 3, 3, ⟨#[]⟩⟩ := by
      have : M.1 = M.1.take 3 ++ [⟨6, 0, 0, ⟨#[36, 32]⟩⟩, ⟨8, 3, 3, ⟨#[]⟩⟩] := congrArg Prod.fst h1
      rw [this, List.getD_eq_getElem?_getD, List.getElem?_append_right (by rw [List.length_take]; omega), List.length_take, h2]; rfl
    rw [h2] at q1
    obtain ⟨A1, c1, rfl⟩ := own_slice q1
    obtain ⟨g, rfl⟩ := own_some q1 (by decide)
    have f : ∀ j i, j < 5 → i < 4 → (mgs M.1)[j * 4 + i]? = (mgC (M.1.getD j mg0))[i]? := fun j i hj hi => mgs_at M.1 j i (by omega) hi
    refine ⟨g, c1, by rw [ht], q2, own_cellAt q1 12 _ ((f 3 0 (by decide) (by decide)).trans (by rw [hM3]; rfl)), own_cellAt q1 13 _ ((f 3 1 (by decide) (by decide)).trans (by rw [hM3]; rfl)), own_cellAt q1 14 _ ((f 3 2 (by decide) (by decide)).trans (by rw [hM3]; rfl)), own_cellAt q1 15 _ ((f 3 3 (by decide) (by decide)).trans (by rw [hM3]; rfl)), own_cellAt q1 16 _ ((f 4 0 (by decide) (by decide)).trans (by rw [hM4]; rfl)), own_cellAt q1 17 _ ((f 4 1 (by decide) (by decide)).trans (by rw [hM4]; rfl)), own_cellAt q1 18 _ ((f 4 2 (by decide) (by decide)).trans (by rw [hM4]; rfl)), own_cellAt q1 19 _ ((f 4 3 (by decide) (by decide)).trans (by rw [hM4]; rfl))⟩⟩
  have kcv : ∀ W, (convert 9 29 (.string s8)).run Tryz.prog W = .ok (.slice (some ⟨W.heap.size, 0, none⟩) s8.size (grownCap W s8.size 0 5)) (Lib.bytesWorld W 5 s8) := fun W => Lib.run_convert_string_bytes W 9 29 5 s8 Tryz.underlying9 Tryz.underlying29 Tryz.underlying5
  clear hlib hB hs8
  go_enter Tryz.func9, Tryz.ntmps9
  go_wp2_with (first | (go_at_call 11; (with_reducible refine (comes_calls 1 true 0 _).mono ?_); rintro e1 w1 ⟨v1, rfl, ho1, hf1⟩; obtain ⟨A1, c1, rfl⟩ := own_slice ho1; have HO1 := Aside0.mk ho1; have HF1 := Aside0.mk hf1; clear ho1 hf1) | (go_at_call 11; (with_reducible refine (comes_calls 2 false 0 _).mono ?_); rintro e2 w2 ⟨v2, rfl, ho2, hf2⟩; obtain ⟨A2, c2, rfl⟩ := own_slice ho2; have HO2 := Aside0.mk ho2; have HF2 := Aside0.mk hf2; clear ho2 hf2) | ((with_reducible refine gate_builtin (b := .append) (xs := #[.tmp 10, .tmp 11]) rfl ?_); at_builtin; refine app_evs rfl (.tmp 10) (.tmp 11) rfl w.heap.size w1.heap.size (.slice A1 2 c1) (comesL 1 true 0) (comesL 2 false 0) A2 2 c2 4 rfl rfl (by decide) rfl rfl (HF2.out.own HO1.out (fun _ _ h => h)) HO2.out (by decide) (Nat.le_trans HF1.out.size HF2.out.size) ?_; intro A3 c3 w3 ho3 hf3; have HO3 := Aside0.mk ho3; have HF3 := Aside0.mk ((HF1.out.trans HF2.out (fun _ _ h => h)).trans hf3 (fun i hi hs => by have := (own_old HO1.out hs).1; omega)); clear ho3 hf3) | (go_at_call 12; (with_reducible refine (command_calls 1 _ _ (by decide)).mono ?_); unfold QV evV; rintro e4 w4 ⟨rfl, hf4⟩; have HF4 := Aside0.mk hf4; clear hf4) | (go_at_call 14; (with_reducible refine (HSA.out _).mono ?_); unfold QV evV; rintro e5 w5 ⟨rfl, hf5⟩; have HF5 := Aside0.mk hf5; clear hf5) | (go_at_call 14; (with_reducible refine (HSB.out _).mono ?_); unfold QV evV; rintro e6 w6 ⟨rfl, hf6⟩; have HF6 := Aside0.mk hf6; clear hf6) | (go_at_call 13; (with_reducible refine (allE_calls 2 _).mono ?_); unfold QV evV; rintro e7 w7 ⟨rfl, hf7⟩; have HF7 := Aside0.mk (((HF4.out.trans HF5.out (fun _ _ h => h)).trans HF6.out (fun _ _ h => h)).trans hf7 (fun _ _ h => h)); clear hf7) | ((with_reducible refine gate_builtin (b := .append) (xs := #[.tmp 13, .tmp 22]) rfl ?_); at_builtin; refine app_evs rfl (.tmp 13) (.tmp 22) rfl w.heap.size w7.heap.size (.slice A3 4 c3) (comesL 1 true 0 ++ comesL 2 false 0) [cmdE 1 ⟨#[102, 108, 111, 111, 114]⟩, ⟨3, 0, 0, ⟨#[36, 32]⟩⟩, sayE 1 ⟨2, 9, 0, ⟨#[108, 115, 10]⟩⟩, sayE 2 ⟨2, 3, 0, ⟨#[120]⟩⟩, allE 2, ⟨4, 0, 99, ⟨#[]⟩⟩] (some ⟨w7.heap.size, 0, none⟩) 6 6 10 rfl rfl (by decide) rfl rfl ((HF7.out.own HO3.out (fun _ _ h => h)).alloc _) (own_litE w7 w7.heap.size _ 6 _ rfl rfl (Nat.le_refl _) (by decide)) (by decide) (by have h0 := HF3.out.size; have h1 := HF7.out.size; rw [World.size_alloc]; omega) ?_; intro A8 c8 w8 ho8 hf8; have HO8 : Aside0 (OwnsEv w.heap.size w8 (.slice A8 10 c8) aliveL) := ⟨ho8⟩; have HF8 := Aside0.mk (((HF3.out.trans HF7.out (fun _ _ h => h)).alloc _).trans hf8 (fun i hi hs => by have := (own_old HO3.out hs).1; omega)); clear ho8 hf8) | (go_at_call 20; (with_reducible refine (default_calls _).mono ?_); unfold cfV cfD; rintro e9 w9 ⟨rfl, hf9⟩; have HF9 := Aside0.mk (HF8.out.trans (Fr.of_below (S := nope) hf9) (fun _ _ h => h)); have HR9 := Aside0.mk (readsEv_frS (reads_of_own HO8.out alive_ev (by decide)) (Fr.of_below (S := nope) hf9) (fun _ _ _ h => h)); clear hf9) | (go_at_call 26; refine (HENC.out _ A8 c8 HR9.out).mono ?_; rintro e10 w10 ⟨A10, c10, rfl, hf10, ho10⟩; have HO10 := Aside0.mk ho10; have HF10 := Aside0.mk (HF9.out.trans hf10 (fun _ _ h => h)); clear hf10 ho10) | (go_at_call 27; (with_reducible refine (HBYT.out w10 A10 c10 _ (HLIB.out.fr HF10.out (fun _ _ h => h)) HO10.out).mono ?_); rintro e11 w11 ⟨b11, g11, c11, rfl, hf11, p8, p9⟩; have HP9 := Aside0.mk p9; have HF11 := Aside0.mk (HF10.out.trans hf11 (fun _ _ h => h)); clear hf11 p9) | (go_at_call 18; (with_reducible refine (HMSG.out w11).mono ?_); rintro e12 w12 ⟨g12, c12, rfl, hf12, m0, m1, m2, m3, n0, n1, n2, n3⟩; have p9 := fr_cell (fr_bytes (Fr.refl nope w11) 5 s8) HP9.out; have p9 := fr_cell hf12 p9; have HF12 := Aside0.mk ((fr_bytes HF11.out 5 s8).trans hf12 (fun _ _ h => h)); clear hf12))
  go_returns
  exact ⟨rfl, HF12.out⟩
end Go.Proofs.YtfkamoiamebngaaGreatDoor.BroW

/- The listed variables: what a row's condition gives the walks, and a start that meets it. -/
namespace Go.Proofs.YtfkamoiamebngaaGreatDoor.BroW
open Go.RowKit Go.ChangeShapes
set_option linter.unusedVariables false

theorem ownKnob_no : ownKnob Tryz.prog.godebug = none := by kernel_rfl
theorem laidOut : laidOutB Tryz.prog = true := by kernel_rfl
theorem gPow : Tryz.prog.globalNamed "internal/strconv.uint64pow10" = some 0 := by kernel_rfl
theorem gPowT : (Tryz.prog.globals[0]?).map (·.type) = some 256 := by kernel_rfl
theorem gSyn : Tryz.prog.globalNamed "strconv.ErrSyntax" = some 2 := by kernel_rfl
theorem gSynT : (Tryz.prog.globals[2]?).map (·.type) = some 221 := by kernel_rfl
theorem gRng : Tryz.prog.globalNamed "strconv.ErrRange" = some 3 := by kernel_rfl
theorem gRngT : (Tryz.prog.globals[3]?).map (·.type) = some 221 := by kernel_rfl
theorem cellsPow : Tryz.prog.cellsOf 256 = 20 := by kernel_rfl
theorem cellsU64 : Tryz.prog.cellsOf 183 = 1 := by kernel_rfl
abbrev laid5 : List (String × DataW Unit) := Rows.wholeKickRow.laid
theorem var_of_laid {n nm : String} {d : DataW Unit} {r : List (String × DataW Unit)} {W : World} {g : Nat} {ti : TypeId} {ms : Array (String × TypeId)}
    (h : laidMet Tryz.prog ((n, .iface nm d) :: r) W) (hg : Tryz.prog.globalNamed n = some g) (ht : (Tryz.prog.globals[g]?).map (·.type) = some ti) (hi : Tryz.prog.underlying ti = some (.interface ms)) :
    ∃ tp p, W.var? Tryz.prog n = some #[.iface tp p] := by
  obtain ⟨ps, ⟨g0, t0, cs0, f0, p0, q0, hg0, ht0, hv0, hd0, _, _⟩, _, _⟩ := h
  obtain rfl := Option.some.inj (hg.symm.trans hg0)
  obtain rfl := Option.some.inj (ht.symm.trans ht0)
  obtain ⟨f1, u, v, hcs, _, _⟩ := iface_of_trod hi hd0
  refine ⟨u, v, ?_⟩
  rw [hv0]
  obtain ⟨l0⟩ := cs0
  simp only at hcs
  rw [hcs]
/-- what the walks ask of the listed variables -/
theorem libOK_of_laid {W : World} (h : laidMetH Tryz.prog laid5 W) : LibOK W := by
  have h1 : laidMet Tryz.prog laid5 W := by
    have h0 := (laidMetH_iff.1 h).1
    have e : (laid5.filter fun x => x.2.handleName?.isNone) = laid5 := by kernel_rfl
    rw [e] at h0
    exact h0
  have h2 : laidMet Tryz.prog [("math/bits.deBruijn32tab", Rows.laid_math_bits_deBruijn32tab), ("math/bits.deBruijn64tab", Rows.laid_math_bits_deBruijn64tab), ("internal/strconv.uint64pow10", Rows.laid_internal_strconv_uint64pow10), ("strconv.ErrRange", Rows.laid_strconv_ErrRange), ("strconv.ErrSyntax", Rows.laid_strconv_ErrSyntax)] W := h1
  have h3 := h2.tail.tail
  exact ⟨Lib.tabIs_of_head gPow gPowT Tryz.underlying256 Tryz.underlying183 cellsU64 cellsPow (rest := [("strconv.ErrRange", Rows.laid_strconv_ErrRange), ("strconv.ErrSyntax", Rows.laid_strconv_ErrSyntax)]) h3, var_of_laid h3.tail.tail gSyn gSynT Tryz.underlying221, var_of_laid h3.tail gRng gRngT Tryz.underlying221⟩
/-- the door's own heap meets the condition -/
theorem door_met (os : Os) (args : Array Value) : laidMetH Tryz.prog laid5 ((World.doorLaid Tryz.prog 62 os).forCall (fun _ _ => 0) ⟨#[], args, []⟩).memory :=
  laidMetH_of_parts3 (fuel := 8) (laidMet_of_run' 8 (by kernel_rfl) (by kernel_rfl)) (by kernel_rfl) (by kernel_rfl)
theorem door_shaped (os : Os) (args : Array Value) : ((World.doorLaid Tryz.prog 62 os).forCall (fun _ _ => 0) ⟨#[], args, []⟩).Shaped Tryz.prog :=
  World.shaped_of_RefB (by kernel_rfl) (by kernel_rfl)
end Go.Proofs.YtfkamoiamebngaaGreatDoor.BroW

/- broker: all, as it is walked. -/
import Derived.Test.YtfkamoiamebngaaGreatDoorM12
import Derived.RangeFuncNested
import Derived.RangeFuncBound
import Derived.RangeFuncCalls
import Derived.RangeFuncLeaves
import Derived.Shelf.Abstract
import Derived.Shelf.RegionOpen
import Derived.WalkKit
import Derived.OwnWalkIn
import Derived.TacticsInMore
import Derived.LoopNIn
import Derived.LoopIn
import Derived.Test.YtfkamoiamebngaaGreatDoorM05
import Derived.Test.YtfkamoiamebngaaGreatDoorM09
namespace Go.Proofs.YtfkamoiamebngaaGreatDoor.BroW
open Go.RowKit Go.Proofs.YtfkamoiamebngaaGreatDoorW.PrintWords Go.Proofs.YtfkamoiamebngaaGreatDoorW.PrintMore Go.Proofs.YtfkamoiamebngaaGreatDoor.Fr Go.Proofs.YtfkamoiamebngaaGreatDoor.ScrW Go.Proofs.YtfkamoiamebngaaGreatDoor.ScrP Go.Proofs.YtfkamoiamebngaaGreatDoor.Mod
open Go.Shelf
attribute [local go_sem] Oper.semAt_some
set_option linter.unusedVariables false
set_option linter.unusedSimpArgs false

theorem zero112 (w : World) : (zeroValue 112).run Tryz.prog w = .ok (.pointer none) w := by first | exact Tryz.zeroValue112 w | rfl
theorem Rep.look {w : World} {L : Lay} {o : Own} {S : St} (h : Rep w L o S) {i : Int} {g : Nat} (hg : L.cp i = some g) :
    (Instr.lookup 85 (.map (some L.mc)) (.int .i64 i) false).run Tryz.prog w = .ok (.pointer (some ⟨g, 0, none⟩)) w := by
  have hd := h.map.1.1 i (by simp [hg])
  have := (h.map.1.look Tryz.underlying85 zero112 (zd := .lit (.int .u64 0)) rfl (mpWf hd.1 hd.2)).1
  rw [this, hg]
  rfl
/-- what one round of a loop over all does -/
def allStep (tm : St → Int → St) (S : St) (i : Int) : St := if isOpen S i = true then tm S i else S
set_option maxRecDepth 100000 in
set_option maxHeartbeats 4000000 in
theorem all1_in (n : Nat) (hn : 1 ≤ n) (l Bn : Nat) (L : Lay) (J : Own → St → World → Prop) (tm : St → Int → St)
    (hJr : ∀ o S W, J o S W → Rep W L o S ∧ W.cell? ⟨Bn, 0, none⟩ = some (.pointer (some ⟨L.bg, 0, none⟩)))
    (hJq : ∀ o S W W', J o S W → Fr nope W W' → J o S W')
    (hY : ∀ o S W i g, J o S W → L.cp i = some g → isOpen S i = true → YieldAt Fence.wide (n - 1) Tryz.prog l #[.pointer (some ⟨g, 0, none⟩)] W fun e W' =>
      e = .returned (.bool true) ∧ ∃ o', J o' (tm S i) W' ∧ (∀ b, b < W.heap.size → o' b = o b) ∧ Fr (fun b => o b ≠ .no ∨ b = l) W W')
    (o0 : Own) (S0 : St) (W : World) (h0 : J o0 S0 W) (hl : l < W.heap.size) :
    CallsIn Fence.wide n Tryz.prog 123 #[.func (.yield l) #[] #[], .pointer (some ⟨Bn, 0, none⟩)] W fun e W' => (∃ v, e = .returned v) ∧ ∃ o', J o' ((idsL L.cp).foldl (allStep tm) S0) W' := by
  have HJR := Aside0.mk hJr
  have HJQ := Aside0.mk hJq
  have HY := Aside0.mk hY
  have H0 := Aside0.mk h0
  have cb := (hJr _ _ _ h0).2
  obtain ⟨ids, hids⟩ : ∃ l, l = idsL L.cp := ⟨_, rfl⟩
  have HI := Aside0.mk hids
  have hil : ids.length ≤ 16 := by rw [hids]; exact List.length_filter_le _ _
  rw [← hids]
  clear hJr hJq hY h0 hids
  refine callsIn_of_wp Tryz.func123 rfl trivial ?_ rfl
  simp only [Tryz.ntmps123, List.size_toArray, List.length_cons, List.length_nil, Nat.reduceAdd, Nat.reduceSub, Array.replicate_succ, Array.replicate_zero, List.push_toArray, List.append_toArray, List.nil_append, List.cons_append]
  have hfS : Fence.wide.fn 45 := trivial
  gi_wp2_with (gi_at_call 45; refine (callsIn_wide.2 (ids_calls W L (HJR.out _ _ _ H0.out).1.map.1 (HJR.out _ _ _ H0.out).1.brk.1 rfl)).mono ?_; rintro e W1 ⟨v, rfl, ho1, hf1⟩; rw [← HI.out] at ho1; have hv := own_slice ho1; obtain ⟨A, cv, rfl⟩ := hv; have HO1 := Aside0.mk ho1; have HF1 := Aside0.mk hf1; clear ho1 hf1)
  gi_loopw [9] (fun v9 wr => ∃ (k : Nat) (o : Own) (S : St), v9 = .int .i64 k ∧ k ≤ ids.length ∧ Aside0 (S = (ids.take k).foldl (allStep tm) S0) ∧ Aside0 (J o S wr) ∧
      Aside0 (wr.ownsRow W.heap.size 3 1 (.slice A ids.length cv) ids.length (nums .i64 ids)) ∧ Aside0 (∀ b, (Value.slice A ids.length cv).ownBlock = some b → o b = .no ∧ b ≠ l))
    (fun v9 _ => ids.length - (intOf v9).toNat)
  case atStart =>
    refine ⟨0, o0, S0, rfl, Nat.zero_le _, ⟨rfl⟩, ⟨HJQ.out _ _ _ _ H0.out HF1.out⟩, HO1, ⟨fun b hb => ?_⟩⟩
    have hb2 := own_old HO1.out hb
    exact ⟨(HJR.out _ _ _ H0.out).1.fresh b hb2.1, by omega⟩
  case round =>
    obtain ⟨k, o, S, rfl, hk, HS, HJ, HO, HB⟩ := hrel
    by_cases hlt : k < ids.length
    · have hr := own_readsInt HO.out
      obtain ⟨aq, e2, hc⟩ := hr.2.2 (by omega)
      cases e2
      obtain ⟨id, hid⟩ : ∃ id, ids.getD k 0 = id := ⟨_, rfl⟩
      have hcell := hc k hlt
      rw [hid] at hcell
      have hmem : id ∈ ids := by
        rw [← hid, List.getD_eq_getElem?_getD, List.getElem?_eq_getElem hlt]
        exact List.getElem_mem hlt
      have hcp : ∃ g, L.cp id = some g := by
        rw [HI.out] at hmem
        exact Option.isSome_iff_exists.1 (List.mem_filter.1 hmem).2
      obtain ⟨g, hcp⟩ := hcp
      have hrep := HJR.out _ _ _ HJ.out
      have cb1 := hrep.2
      have hrep := hrep.1
      have c12 : wr.cell? ⟨L.bg, 12, none⟩ = some (.map (some L.mc)) := (blk_cell hrep.brk.1 12).trans rfl
      have hlook := hrep.look hcp
      obtain ⟨c, hcn, fg, lg, og, vv, hcb, _⟩ := hrep.cnOf hcp
      have hcc : wr.cell? ⟨g, 1, none⟩ = some (.int .i64 c.st) := (blk_cell hcb.1 1).trans rfl
      have hbg := blk_lt hrep.brk.1
      have hgg := blk_lt hcb.1
      have HN : Aside0 (ids.take (k + 1) = ids.take k ++ [id]) := ⟨by rw [List.take_add_one, List.getElem?_eq_getElem hlt]; rw [← hid, List.getD_eq_getElem?_getD, List.getElem?_eq_getElem hlt]; rfl⟩
      have HC := Aside0.mk hcn
      have hkl : (k : Int) < (ids.length : Int) := by omega
      have hk0 : (0 : Int) ≤ (k : Int) := by omega
      have hwk : IntKind.i64.wrap ((k : Int) + 1) = (k : Int) + 1 := by rw [IntKind.wrap_i64]; omega
      clear hc hr hrep hcb hcn hid hmem
      by_cases hst : c.st = 1
      · have hio : isOpen S id = true := by unfold isOpen; rw [HC.out]; simp [hst]
        have hyy := HY.out o S wr id g HJ.out hcp hio
        rw [hst] at hcc
        have HSN : Aside0 (tm S id = (ids.take (k + 1)).foldl (allStep tm) S0) := ⟨by rw [HN.out, List.foldl_append, ← HS.out]; simp [allStep, hio]⟩
        obtain ⟨fn, tmps, assign, body, hy, hR⟩ := hyy
        clear hst hio hcp
        gi_wp2
        refine hR.mono ?_
        rintro e W3 ⟨rfl, o3, hJ3, hold3, hF3⟩
        have HO3 := hF3.own HO.out (fun b hb hs => by
          have := HB.out b hb
          rcases hs with h | h
          · exact h this.1
          · exact this.2 h)
        have HJ3 := Aside0.mk hJ3
        have HO3 := Aside0.mk HO3
        have HB3 : Aside0 (∀ b, (Value.slice (some aq) ids.length cv).ownBlock = some b → o3 b = .no ∧ b ≠ l) := ⟨fun b hb => ⟨(hold3 b (own_old HO.out hb).2).trans (HB.out b hb).1, (HB.out b hb).2⟩⟩
        clear hJ3 hold3 hF3 hR hy
        gi_wp2
        go_roundw
        case rel => exact ⟨k + 1, o3, tm S id, by push_cast; rfl, hlt, HSN, HJ3, HO3, HB3⟩
        case measure => simp only [intOf]; omega
      · have hio : isOpen S id = false := by unfold isOpen; rw [HC.out]; simp [hst]
        have HSN : Aside0 (S = (ids.take (k + 1)).foldl (allStep tm) S0) := ⟨by rw [HN.out, List.foldl_append, ← HS.out]; simp [allStep, hio]⟩
        have t1 : (c.st == 1) = false := beq_eq_false_iff_ne.2 hst
        clear hst hio hcp
        gi_wp2
        refine ⟨fun _ h => (by cases h), ?_⟩
        gi_wp2
        go_roundw
        case rel => exact ⟨k + 1, o, S, by push_cast; rfl, hlt, HSN, HJ, HO, HB⟩
        case measure => simp only [intOf]; omega
    · have hkn : k = ids.length := by omega
      have hs2 : S = ids.foldl (allStep tm) S0 := by rw [HS.out, hkn, List.take_length]
      have HS2 := Aside0.mk hs2
      have hlt2 : ¬ (k : Int) < (ids.length : Int) := by omega
      clear hkn hs2 hlt
      gi_wp2
      refine bodyPost_end (results_none rfl _ _ _) rfl ?_
      rw [← HS2.out]
      exact ⟨⟨_, rfl⟩, o, HJ.out⟩
end Go.Proofs.YtfkamoiamebngaaGreatDoor.BroW

/- a range over all. -/
namespace Go.Proofs.YtfkamoiamebngaaGreatDoor.BroW
open Go.RowKit Go.Proofs.YtfkamoiamebngaaGreatDoorW.PrintWords Go.Proofs.YtfkamoiamebngaaGreatDoorW.PrintMore Go.Proofs.YtfkamoiamebngaaGreatDoor.Fr Go.Proofs.YtfkamoiamebngaaGreatDoor.ScrW Go.Proofs.YtfkamoiamebngaaGreatDoor.ScrP Go.Proofs.YtfkamoiamebngaaGreatDoor.Mod
open Go.Shelf
attribute [local go_sem] Oper.semAt_some
set_option linter.unusedVariables false
set_option linter.unusedSimpArgs false

/-- how a round's body ends -/
def roundP (K : World → Prop) : Exit → Act → World → Prop
  | .normal, _, W => K W
  | _, _, _ => False
theorem fr_putObj {w : World} {b : Nat} {ob : Obj} : Fr (only b) w (w.putObj b ob) := ⟨rfl, rfl, rfl, by simp, fun k _ hn => World.putObj_heap_other (fun e => hn e)⟩

theorem rangeAll {n : Nat} (h1 : 2 ≤ n) {g : Operand} {ps : Array Tmp} {assign body : Code} {Q : Exit → Act → World → Prop} {a : Act} {w : World} (Bn : Nat)
    (hg : a.eval g = .func (.func 123) #[] #[.pointer (some ⟨Bn, 0, none⟩)]) (hps : ps.size = 1)
    (L : Lay) (K : Own → St → World → Prop) (tm : St → Int → St)
    (hKr : ∀ o S W, K o S W → Rep W L o S ∧ W.cell? ⟨Bn, 0, none⟩ = some (.pointer (some ⟨L.bg, 0, none⟩)))
    (hKf : ∀ o S W W' (N : Nat → Prop), K o S W → Fr N W W' → (∀ b, N b → w.heap.size ≤ b ∧ o b = .no ∧ ¬ libB b) → K o S W')
    (o0 : Own) (S0 : St) (h0 : K o0 S0 w) (a₁ : Nat → Act)
    (hassign : ∀ (l : Nat) (x : Nat) (W : World) (R : Act → World → Prop), R (a₁ x) W →
      assign.wpIn (Fence.wide.inRound l) (n - 1 - 1) Tryz.prog (Exit.then R (fun _ _ _ => False)) { tmps := (ps.zip #[Value.pointer (some ⟨x, 0, none⟩)]).foldl (fun t (p, v) => t.setIfInBounds p v) a.tmps, defers := [] } W)
    (hbody : ∀ (l : Nat) (o : Own) (S : St) (W : World) (i : Int) (x : Nat), K o S W → L.cp i = some x → isOpen S i = true → w.heap.size < W.heap.size →
      body.wpIn (Fence.wide.inRound l) (n - 1 - 1) Tryz.prog (roundP fun W' => ∃ o', K o' (tm S i) W' ∧ Step (fun t => t ≠ .no) W o W' o') (a₁ x) W)
    (hdone : ∀ (D : Nat) (o' : Own) (W : World), K o' ((idsL L.cp).foldl (allStep tm) S0) W → W.heap[D]? = some (.deferred (some [])) → o' D = .no → ¬ libB D → w.heap.size ≤ D → Q .normal { a with defers := { target := .collected D, args := #[] } :: a.defers } W) :
    (Code.rangeFunc g ps assign body).wpIn Fence.wide n Tryz.prog Q a w := by
  refine wpIn_rangeFunc ?_
  intro fn hfn
  obtain ⟨rec, hrec⟩ : ∃ rec : LoopState → Option Code → Loop, rec = fun st pe => { state := st, pending := pe, fn, tmps := a.tmps, params := ps, assign, body, defers := w.heap.size } := ⟨_, rfl⟩
  obtain ⟨W1, hW1⟩ : ∃ W1, (w.alloc (.deferred (some []))).alloc (.loop (rec .ready none)) = W1 := ⟨_, rfl⟩
  have hL1 : W1.heap[w.heap.size + 1]? = some (.loop (rec .ready none)) := by
    rw [← hW1]; have := World.alloc_heap_new (w.alloc (.deferred (some []))) (.loop (rec .ready none)); rwa [World.size_alloc] at this
  have hD1 : W1.heap[w.heap.size]? = some (.deferred (some [])) := by
    rw [← hW1]; exact (Below.heap_alloc _ _ _ (by simp)).trans (World.alloc_heap_new w _)
  have hf1 : Fr nope w W1 := by rw [← hW1]; exact ((Fr.refl nope w).alloc _).alloc _
  have hK1 : K o0 S0 W1 := hKf o0 S0 w W1 nope h0 hf1 (fun b h => h.elim)
  have hrep := (hKr _ _ _ h0).1
  have hlib : ∀ b, w.heap.size ≤ b → ¬ libB b := fun b hb hl => by have := hrep.lib.1.lt hl; omega
  have ho0 : ∀ b, w.heap.size ≤ b → o0 b = .no := hrep.fresh
  refine ⟨w.heap.size + 1, [{ target := .collected w.heap.size, args := #[] }], W1, { target := .fn (.func 123) #[.pointer (some ⟨Bn, 0, none⟩)], args := #[.func (.yield (w.heap.size + 1)) #[] #[]] }, W1, 123,
    #[.func (.yield (w.heap.size + 1)) #[] #[], .pointer (some ⟨Bn, 0, none⟩)], W1, ?_, ?_, ?_, ?_, fun h => (by cases h), ?_⟩
  · rw [← hW1, hrec]; exact run_enterLoop_outer _ _ _ _ _
  · simp only [resolve, hg]
    simp [go_sem]
  · intro f' hf'; trivial
  · have eg := enters_of Tryz.func123 (by kernel_rfl) rfl
    simp [invoke, go_sem, eg]
  · refine (all1_in (n - 1) (by omega) (w.heap.size + 1) Bn L
      (fun o S W => K o S W ∧ W.heap[w.heap.size + 1]? = some (.loop (rec .ready none)) ∧ W.heap[w.heap.size]? = some (.deferred (some [])) ∧ o w.heap.size = .no ∧ o (w.heap.size + 1) = .no)
      tm (fun o S W h => hKr o S W h.1) (fun o S W W' h hF => ⟨hKf o S W W' nope h.1 hF (fun b h => h.elim), hF.blk h.2.1 (fun h => h), hF.blk h.2.2.1 (fun h => h), h.2.2.2⟩) ?_ o0 S0 W1
      ⟨hK1, hL1, hD1, ho0 _ (Nat.le_refl _), ho0 _ (by omega)⟩ (Array.getElem?_eq_some_iff.1 hL1).1).mono ?_
    · -- one round
      rintro o S W i x ⟨hk, hl, hd, hod, hol⟩ hcp hop
      have hlt : w.heap.size + 1 < W.heap.size := (Array.getElem?_eq_some_iff.1 hl).1
      have hy := run_yield (P := Tryz.prog) (args := #[Value.pointer (some ⟨x, 0, none⟩)]) hl (by rw [hrec]; exact hps.symm)
      rw [hrec] at hy
      refine ⟨fn, _, assign, body, hy, roundIn_of_wpIn hfn (hassign _ x W _ ⟨_, run_beginRound hl (by rw [hrec]), ?_⟩)⟩
      have hl2 : (W.putObj (w.heap.size + 1) (.loop { rec .ready none with state := .busy })).heap[w.heap.size + 1]? = some (.loop { rec .ready none with state := .busy }) := World.putObj_heap_same hlt
      have hd2 : (W.putObj (w.heap.size + 1) (.loop { rec .ready none with state := .busy })).heap[w.heap.size]? = some (.deferred (some [])) := (World.putObj_heap_other (by omega)).trans hd
      have hNo : ∀ b, only (w.heap.size + 1) b → w.heap.size ≤ b ∧ o b = .no ∧ ¬ libB b := fun b hb => by
        rw [show b = w.heap.size + 1 from hb]; exact ⟨by omega, hol, hlib _ (by omega)⟩
      have hk2 := hKf o S W _ _ hk (fr_putObj (b := w.heap.size + 1) (ob := .loop { rec .ready none with state := .busy })) hNo
      refine wpIn_mono (hbody _ o S _ i x hk2 hcp hop (by simp; omega)) ?_
      rintro e a3 W3 hp
      cases e with
      | normal =>
        obtain ⟨o3, hk3, st3⟩ := hp
        have hl3 := st3.fr.blk hl2 (fun h => h hol)
        have hd3 := st3.fr.blk hd2 (fun h => h hod)
        have hlt3 : w.heap.size + 1 < W3.heap.size := (Array.getElem?_eq_some_iff.1 hl3).1
        have her := run_endRound (P := Tryz.prog) none hl3
        have hol3 : o3 (w.heap.size + 1) = .no := (st3.old _ (by simp; omega)).trans hol
        have hod3 : o3 w.heap.size = .no := (st3.old _ (by simp; omega)).trans hod
        rw [hrec] at her
        refine ⟨_, _, her, rfl, o3, ⟨hKf o3 _ W3 _ _ hk3 fr_putObj (fun b hb => by rw [show b = w.heap.size + 1 from hb]; exact ⟨by omega, hol3, hlib _ (by omega)⟩), ?_, ?_, hod3, hol3⟩, fun b hb => ?_, ?_⟩
        · rw [hrec]; exact World.putObj_heap_same hlt3
        · exact (World.putObj_heap_other (by omega)).trans hd3
        · exact st3.old b (by simpa using hb)
        · refine (((fr_putObj (w := W) (b := w.heap.size + 1)).mono (fun b _ hb => .inr hb)).trans (st3.fr.mono (fun b _ hb => .inl hb)) (fun _ _ h => h)).trans (fr_putObj.mono (fun b _ hb => .inr hb)) (fun _ _ h => h)
      | ret => exact hp.elim
      | exit id => exact hp.elim
      | goto t => exact hp.elim
      | panic c => exact hp.elim
      | outgrown => exact hp.elim
    · rintro e W3 ⟨⟨v, rfl⟩, o3, hk3, hl3, hd3, hod3, hol3⟩
      have hlt3 : w.heap.size + 1 < W3.heap.size := (Array.getElem?_eq_some_iff.1 hl3).1
      have hpe : (rec .ready none).pending = none := by rw [hrec]
      have hel := run_endLoop (P := Tryz.prog) hl3 (by rw [hrec]; simp)
      rw [hpe] at hel
      refine ⟨none, _, hel, ?_⟩
      refine hdone w.heap.size o3 _ (hKf o3 _ W3 _ _ hk3 fr_putObj (fun b hb => by rw [show b = w.heap.size + 1 from hb]; exact ⟨by omega, hol3, hlib _ (by omega)⟩)) ((World.putObj_heap_other (by omega)).trans hd3) hod3 (hlib _ (Nat.le_refl _)) (Nat.le_refl _)
end Go.Proofs.YtfkamoiamebngaaGreatDoor.BroW

/- What holds of a broker at all times. Plain. -/
namespace Go.Proofs.YtfkamoiamebngaaGreatDoor.Mod
open Go.RowKit Go.Proofs.YtfkamoiamebngaaGreatDoorW.PrintWords Go.Proofs.YtfkamoiamebngaaGreatDoor.ScrP Go.Proofs.YtfkamoiamebngaaGreatDoor.LexP Go.Proofs.YtfkamoiamebngaaGreatDoor.BroW
set_option linter.unusedVariables false

structure CnOK (q : Int) (n : Nat) (c : Cn) : Prop where
  st : c.st = 0 ∨ c.st = 1 ∨ c.st = 2
  name : c.name.size ≤ 2048
  fb : c.fb.length ≤ 2060 ∧ isB c.fb
  lx : (c.lx.st = 0 ∨ c.lx.st = 1 ∨ c.lx.st = 2) ∧ c.lx.text.length ≤ 80 ∧ isB c.lx.text
  out : (c.out.length : Int) ≤ q
  vw : ∀ v, c.vw = some v → v.at_ ≤ n ∧ 0 ≤ v.sk ∧ v.sk ≤ 100
  op : c.st = 1 → c.vw.isSome = true
structure TbOK (t : Tb) (op : Int → Bool) : Prop where
  lease : 1 ≤ t.lease ∧ t.lease ≤ 1000
  left : 0 ≤ t.left ∧ t.left ≤ t.lease
  role : ∀ i r, t.roles i = some r → 0 ≤ r ∧ r ≤ 2 ∧ op i = true
  nd : t.queue.Nodup
  qr : ∀ x ∈ t.queue, (t.roles x).isSome = true
  hold : t.holder = 0 ∨ (t.roles t.holder).isSome = true
structure WF (S : St) : Prop where
  cf : cfB S.cf = true
  con : ∀ i c, S.cn i = some c → 1 ≤ i ∧ i ≤ 16 ∧ CnOK S.cf.a2 S.log.length c
  tb : TbOK S.tb (isOpen S)
  inp : (S.inp.length : Int) ≤ S.cf.a3
  log : S.log.length ≤ 8100
  told : 0 ≤ S.told ∧ S.told ≤ 16
  code : 0 ≤ S.code ∧ S.code ≤ 255
  str : 0 ≤ S.strikes ∧ S.strikes ≤ 9

theorem isOpen_ids {S : St} (h : WF S) {i : Int} (ho : isOpen S i = true) : 1 ≤ i ∧ i ≤ 16 := by
  unfold isOpen at ho
  cases hc : S.cn i with
  | none => rw [hc] at ho; cases ho
  | some c => exact ⟨(h.con i c hc).1, (h.con i c hc).2.1⟩
theorem role_ids {S : St} (h : WF S) {i : Int} (hr : (S.tb.roles i).isSome = true) : 1 ≤ i ∧ i ≤ 16 := by
  obtain ⟨r, hr⟩ := Option.isSome_iff_exists.1 hr
  exact isOpen_ids h (h.tb.role i r hr).2.2
theorem mB_len (m : Mg) : (mB m).length ≤ 2053 := by
  unfold mB
  split
  · unfold frB
    split
    · simp [be2]; omega
    · simp
  · simp

/-! ### the floor -/
theorem pass_roles (t : Tb) : t.pass.roles = t.roles := by unfold Tb.pass; split <;> rfl
theorem lose_roles (t : Tb) (i : Int) : (t.lose i).roles = t.roles := by
  unfold Tb.lose; split
  · rw [pass_roles]; rfl
  · rfl
theorem forget_mem {t : Tb} {i x : Int} : x ∈ (t.forget i).queue ↔ x ∈ t.queue ∧ x ≠ i := by
  unfold Tb.forget
  simp [List.mem_filter]
theorem TbOK.forget {t : Tb} {op : Int → Bool} (h : TbOK t op) (i : Int) : TbOK (t.forget i) op :=
  ⟨h.lease, h.left, h.role, h.nd.filter _, fun x hx => h.qr x (forget_mem.1 hx).1, h.hold⟩
theorem TbOK.grant {t : Tb} {op : Int → Bool} (h : TbOK t op) {i : Int} (hi : (t.roles i).isSome = true) : TbOK (t.grant i) op :=
  ⟨h.lease, ⟨by have := h.lease; show 0 ≤ t.lease; omega, Int.le_refl _⟩, h.role, h.nd.filter _, fun x hx => h.qr x (forget_mem.1 hx).1, .inr hi⟩
theorem TbOK.nobody {t : Tb} {op : Int → Bool} (h : TbOK t op) : TbOK { t with holder := 0, left := 0 } op :=
  ⟨h.lease, ⟨Int.le_refl _, by have := h.lease; show 0 ≤ t.lease; omega⟩, h.role, h.nd, h.qr, .inl rfl⟩
theorem TbOK.pass {t : Tb} {op : Int → Bool} (h : TbOK t op) : TbOK t.pass op := by
  unfold Tb.pass
  split
  · exact h.nobody
  · rename_i x l hq
    exact h.nobody.grant (h.qr x (by rw [hq]; simp))
theorem TbOK.lose {t : Tb} {op : Int → Bool} (h : TbOK t op) (i : Int) : TbOK (t.lose i) op := by
  unfold Tb.lose
  split
  · exact (h.forget i).pass
  · exact h.forget i
theorem pass_queue {t : Tb} {x : Int} (h : x ∈ t.pass.queue) : x ∈ t.queue := by
  unfold Tb.pass at h
  split at h
  · exact h
  · exact (forget_mem.1 h).1
theorem pass_holder (t : Tb) : t.pass.holder = 0 ∨ t.pass.holder ∈ t.queue := by
  unfold Tb.pass
  split
  · exact .inl rfl
  · rename_i x l hq
    exact .inr (by show x ∈ t.queue; rw [hq]; simp)
theorem lose_queue {t : Tb} {i x : Int} (h : x ∈ (t.lose i).queue) : x ∈ t.queue ∧ x ≠ i := by
  unfold Tb.lose at h
  split at h
  · exact forget_mem.1 (pass_queue h)
  · exact forget_mem.1 h
theorem lose_holder (t : Tb) (i : Int) (hi : i ≠ 0) : (t.lose i).holder ≠ i := by
  unfold Tb.lose
  split
  · rcases pass_holder (t.forget i) with h | h
    · rw [h]; exact fun e => hi e.symm
    · exact (forget_mem.1 h).2
  · rename_i h; exact h
/-- who leaves has no place at the floor -/
theorem TbOK.leave {t : Tb} {op op' : Int → Bool} (h : TbOK t op) (i : Int) (hi : i ≠ 0) (ho : ∀ j, j ≠ i → op j = true → op' j = true) : TbOK (t.leave i) op' := by
  unfold Tb.leave
  split
  · have hl := h.lose i
    refine ⟨hl.lease, hl.left, fun j r hr => ?_, hl.nd, fun x hx => ?_, ?_⟩
    · simp only [Tb.setR] at hr
      by_cases e : j = i
      · rw [if_pos e] at hr; cases hr
      · rw [if_neg e] at hr
        have := hl.role j r hr
        exact ⟨this.1, this.2.1, ho j e this.2.2⟩
    · have hx' := lose_queue hx
      simp only [Tb.setR]
      rw [if_neg hx'.2]
      exact hl.qr x hx
    · rcases hl.hold with h1 | h1
      · exact .inl h1
      · refine .inr ?_
        simp only [Tb.setR]
        rw [if_neg (lose_holder t i hi)]
        exact h1
  · rename_i hn
    refine ⟨h.lease, h.left, fun j r hr => ?_, h.nd, h.qr, h.hold⟩
    have := h.role j r hr
    refine ⟨this.1, this.2.1, ho j (fun e => ?_) this.2.2⟩
    subst e
    rw [hr] at hn
    exact hn rfl

/-! ### connections -/
theorem WF.setc {S : St} (h : WF S) {i : Int} {c c' : Cn} (hc : S.cn i = some c) (hk : CnOK S.cf.a2 S.log.length c') (hs : c.st = 1 → c'.st = 1) : WF (S.setc i (some c')) := by
  refine ⟨h.cf, fun j d hd => ?_, ?_, h.inp, h.log, h.told, h.code, h.str⟩
  · unfold St.setc at hd
    by_cases e : j = i
    · simp only [if_pos e, Option.some.injEq] at hd
      subst hd; subst e
      exact ⟨(h.con _ c hc).1, (h.con _ c hc).2.1, hk⟩
    · simp only [if_neg e] at hd
      exact h.con j d hd
  · refine ⟨h.tb.lease, h.tb.left, fun j r hr => ?_, h.tb.nd, h.tb.qr, h.tb.hold⟩
    have := h.tb.role j r hr
    refine ⟨this.1, this.2.1, ?_⟩
    have ho := this.2.2
    unfold isOpen St.setc at *
    by_cases e : j = i
    · subst e
      rw [hc] at ho
      simpa using hs (by simpa using ho)
    · simp only [if_neg e]
      exact ho
theorem CnOK.close {q : Int} {n : Nat} {c : Cn} (h : CnOK q n c) : CnOK q n { c with st := 2 } := ⟨.inr (.inr rfl), h.name, h.fb, h.lx, h.out, h.vw, fun e => by cases e⟩
theorem WF.close {S : St} (h : WF S) {i : Int} {c : Cn} (hc : S.cn i = some c) : WF { S.setc i (some { c with st := 2 }) with tb := S.tb.leave i } := by
  have hi := h.con i c hc
  refine ⟨h.cf, fun j d hd => ?_, ?_, h.inp, h.log, h.told, h.code, h.str⟩
  · unfold St.setc at hd
    by_cases e : j = i
    · simp only [if_pos e, Option.some.injEq] at hd
      subst hd; subst e
      exact ⟨hi.1, hi.2.1, hi.2.2.close⟩
    · simp only [if_neg e] at hd
      exact h.con j d hd
  · refine h.tb.leave i (by omega) (fun j e ho => ?_)
    unfold isOpen St.setc at *
    simp only [if_neg e]
    exact ho
/-- a connection that was not open is shut -/
theorem WF.close' {S : St} (h : WF S) {i : Int} {c : Cn} (hc : S.cn i = some c) (hs : c.st ≠ 1) : WF (S.setc i (some { c with st := 2 })) :=
  h.setc hc (h.con i c hc).2.2.close (fun e => absurd e hs)
/-- the same connections -/
def SameC (S S' : St) : Prop := (∀ i, (S'.cn i).isSome = (S.cn i).isSome) ∧ S'.cf = S.cf ∧ S'.log = S.log ∧ (∀ i, isOpen S' i = true → isOpen S i = true)
theorem SameC.refl (S : St) : SameC S S := ⟨fun _ => rfl, rfl, rfl, fun _ h => h⟩
theorem SameC.trans {A B C : St} (h : SameC A B) (k : SameC B C) : SameC A C := ⟨fun i => (k.1 i).trans (h.1 i), k.2.1.trans h.2.1, k.2.2.1.trans h.2.2.1, fun i hi => h.2.2.2 i (k.2.2.2 i hi)⟩
theorem filter_len_le {l : List Int} {f g : Int → Bool} (h : ∀ i, f i = true → g i = true) : (l.filter f).length ≤ (l.filter g).length := by
  induction l with
  | nil => simp
  | cons a l ih =>
    simp only [List.filter_cons]
    by_cases hf : f a = true
    · rw [if_pos hf, if_pos (h a hf)]
      simp only [List.length_cons]; omega
    · rw [if_neg hf]
      by_cases hg : g a = true
      · rw [if_pos hg]; simp only [List.length_cons]; omega
      · rw [if_neg hg]; exact ih
theorem SameC.nOpen {S S' : St} (h : SameC S S') : nOpen S' ≤ nOpen S := filter_len_le h.2.2.2
theorem sameC_setc {S : St} {i : Int} {c c' : Cn} (hc : S.cn i = some c) (hs : c'.st = 1 → c.st = 1) : SameC S (S.setc i (some c')) := by
  refine ⟨fun j => ?_, rfl, rfl, fun j hj => ?_⟩
  · unfold St.setc
    by_cases e : j = i
    · simp only [if_pos e]; rw [e, hc]; rfl
    · simp only [if_neg e]
  · unfold isOpen St.setc at *
    by_cases e : j = i
    · simp only [if_pos e] at hj
      rw [e, hc]
      simpa using hs (by simpa using hj)
    · simp only [if_neg e] at hj
      exact hj
/-- what every leaving keeps -/
structure LvOK (m : Nat) (lv : St → Int → St) : Prop where
  wf : ∀ S i, WF S → nOpen S ≤ m → WF (lv S i)
  same : ∀ S i, WF S → nOpen S ≤ m → SameC S (lv S i)
theorem sendW_ok {m : Nat} {lv : St → Int → St} (H : LvOK m lv) {S : St} (h : WF S) (hn : nOpen S ≤ m) (i : Int) (g : Mg) : WF (sendW lv S i g) ∧ SameC S (sendW lv S i g) := by
  unfold sendW
  cases hc : S.cn i with
  | none => exact ⟨h, SameC.refl S⟩
  | some c =>
    simp only
    split
    · exact ⟨h, SameC.refl S⟩
    · split
      · rename_i hfit
        have hk := (h.con i c hc).2.2
        exact ⟨h.setc hc ⟨hk.st, hk.name, hk.fb, hk.lx, by simp only [List.length_append]; push_cast; omega, hk.vw, hk.op⟩ (fun e => e), sameC_setc hc (fun e => e)⟩
      · exact ⟨H.wf S i h hn, H.same S i h hn⟩
theorem tellW_ok {m : Nat} {lv : St → Int → St} (H : LvOK m lv) {S : St} (h : WF S) (hn : nOpen S ≤ m) (g : Mg) : WF (tellW lv S g) ∧ SameC S (tellW lv S g) := by
  unfold tellW
  have key : ∀ (l : List Int) (S : St), WF S → nOpen S ≤ m → WF (l.foldl (tellOne lv g) S) ∧ SameC S (l.foldl (tellOne lv g) S) := by
    intro l
    induction l with
    | nil => intro S h _; exact ⟨h, SameC.refl S⟩
    | cons a l ih =>
      intro S h hn
      simp only [List.foldl_cons]
      have h1 : WF (tellOne lv g S a) ∧ SameC S (tellOne lv g S a) := by
        unfold tellOne
        split
        · exact sendW_ok H h hn a g
        · exact ⟨h, SameC.refl S⟩
      have h2 := ih _ h1.1 (Nat.le_trans h1.2.nOpen hn)
      exact ⟨h2.1, h1.2.trans h2.2⟩
  exact key ids16 S h hn
theorem filter_len_lt {l : List Int} {f g : Int → Bool} (h : ∀ i, f i = true → g i = true) {a : Int} (ha : a ∈ l) (hf : f a = false) (hg : g a = true) : (l.filter f).length < (l.filter g).length := by
  induction l with
  | nil => cases ha
  | cons b l ih =>
    simp only [List.filter_cons]
    rcases List.mem_cons.1 ha with e | e
    · subst e
      rw [if_neg (by simp [hf]), if_pos hg]
      have := filter_len_le (l := l) h
      simp only [List.length_cons]; omega
    · have := ih e
      by_cases hfb : f b = true
      · rw [if_pos hfb, if_pos (h b hfb)]
        simp only [List.length_cons]; omega
      · rw [if_neg hfb]
        by_cases hgb : g b = true
        · rw [if_pos hgb]; simp only [List.length_cons]; omega
        · rw [if_neg hgb]; exact this
theorem sameC_close {S : St} {i : Int} {c : Cn} (hc : S.cn i = some c) : SameC S { S.setc i (some { c with st := 2 }) with tb := S.tb.leave i } := sameC_setc hc (c' := { c with st := 2 }) (fun e => by cases e)
theorem nOpen_close {S : St} (h : WF S) {i : Int} {c : Cn} (hc : S.cn i = some c) (hs : c.st = 1) : nOpen { S.setc i (some { c with st := 2 }) with tb := S.tb.leave i } < nOpen S := by
  have hi := h.con i c hc
  refine filter_len_lt (a := i) (sameC_close hc).2.2.2 (by unfold ids16; simp; omega) ?_ ?_
  · unfold isOpen St.setc; simp
  · unfold isOpen; rw [hc]; simp [hs]
theorem leaveF_none (n : Nat) {S : St} {i : Int} (hc : S.cn i = none) : leaveF (n + 1) S i = S := by
  show (match S.cn i with
    | none => S
    | some c => _) = S
  rw [hc]
theorem leaveF_open (n : Nat) {S : St} {i : Int} {c : Cn} (hc : S.cn i = some c) (hs : c.st = 1) : leaveF (n + 1) S i = tellW (leaveF n) { S.setc i (some { c with st := 2 }) with tb := S.tb.leave i } (note (leftL i)) := by
  show (match S.cn i with
    | none => S
    | some c => if c.st = 1 then tellW (leaveF n) { S.setc i (some { c with st := 2 }) with tb := S.tb.leave i } (note (leftL i)) else S.setc i (some { c with st := 2 })) = _
  rw [hc]
  exact if_pos hs
theorem leaveF_shut (n : Nat) {S : St} {i : Int} {c : Cn} (hc : S.cn i = some c) (hs : c.st ≠ 1) : leaveF (n + 1) S i = S.setc i (some { c with st := 2 }) := by
  show (match S.cn i with
    | none => S
    | some c => if c.st = 1 then tellW (leaveF n) { S.setc i (some { c with st := 2 }) with tb := S.tb.leave i } (note (leftL i)) else S.setc i (some { c with st := 2 })) = _
  rw [hc]
  exact if_neg hs
theorem leaveF_step (m : Nat) (ih : ∀ k, k < m → LvOK k (leaveF (k + 1))) : LvOK m (leaveF (m + 1)) := by
  have key : ∀ S i, WF S → nOpen S ≤ m → WF (leaveF (m + 1) S i) ∧ SameC S (leaveF (m + 1) S i) := by
    intro S i h hn
    cases hc : S.cn i with
    | none => rw [leaveF_none m hc]; exact ⟨h, SameC.refl S⟩
    | some c =>
      by_cases hs : c.st = 1
      · have h1 := nOpen_close h hc hs
        cases m with
        | zero => omega
        | succ k =>
          have h2 := tellW_ok (ih k (by omega)) (h.close hc) (by omega) (note (leftL i))
          rw [leaveF_open _ hc hs]
          exact ⟨h2.1, (sameC_close hc).trans h2.2⟩
      · rw [leaveF_shut m hc hs]
        exact ⟨h.close' hc hs, sameC_setc hc (fun e => by cases e)⟩
  exact ⟨fun S i h hn => (key S i h hn).1, fun S i h hn => (key S i h hn).2⟩
theorem leaveF_ok (m : Nat) : LvOK m (leaveF (m + 1)) := by
  induction m using Nat.strongRecOn with
  | ind m ih => exact leaveF_step m ih
theorem nOpen_le (S : St) : nOpen S ≤ 16 := List.length_filter_le _ _
theorem leave_ok : LvOK 16 leave := leaveF_ok 16
end Go.Proofs.YtfkamoiamebngaaGreatDoor.Mod

/- broker: send. -/
namespace Go.Proofs.YtfkamoiamebngaaGreatDoor.BroW
open Go.RowKit Go.Proofs.YtfkamoiamebngaaGreatDoorW.PrintWords Go.Proofs.YtfkamoiamebngaaGreatDoorW.PrintMore Go.Proofs.YtfkamoiamebngaaGreatDoor.Fr Go.Proofs.YtfkamoiamebngaaGreatDoor.ScrW Go.Proofs.YtfkamoiamebngaaGreatDoor.ScrP Go.Proofs.YtfkamoiamebngaaGreatDoor.Mod
set_option linter.unusedVariables false
set_option linter.unusedSimpArgs false

/-- what an operation of the broker leaves -/
def QB (L : Lay) (o : Own) (w : World) (S : St) (r : Value) (e : Ending) (w' : World) : Prop := ∃ o', e = .returned r ∧ Rep w' L o' S ∧ Step (fun t => t ≠ .no) w o w' o'
/-- leave, where no more than m are open -/
def HLeave (m : Nat) : Prop := ∀ (w : World) (L : Lay) (o : Own) (S : St) (i : Int) (g : Nat), Rep w L o S → WF S → L.cp i = some g → nOpen S ≤ m →
  Calls Tryz.prog 69 #[.pointer (some ⟨L.bg, 0, none⟩), .pointer (some ⟨g, 0, none⟩)] w (QB L o w (leaveF (m + 1) S i) (.tuple #[]))
theorem cf_bounds {S : St} (h : WF S) : 220 ≤ S.cf.a2 ∧ S.cf.a2 ≤ 65536 := by
  have := h.cf
  unfold cfB at this
  simp at this
  omega
theorem Rep.step {w : World} {L : Lay} {o : Own} {S : St} (h : Rep w L o S) {w1 : World} (hf : Fr nope w w1) : Step (fun t => t ≠ .no) w o w1 o := (Step.quiet h.fresh hf).mono (fun t h => h.elim)
/-- the out queue of a connection turns -/
theorem Rep.outq {w w1 : World} {L : Lay} {o : Own} {S : St} (h : Rep w L o S) {i : Int} {g : Nat} (hg : L.cp i = some g) {c : Cn} (hc : S.cn i = some c) {fg lg og : Nat} {vv : Value} (p0 : PCb w o i g (conCells i c fg lg og vv)) (p1 : PFd w o i fg c.fb c.fe) (p2 : PLx w o i lg c.lx) (p4 : PVw w o i vv c.vw)
    {v v' : Value} (hq : IsQ w 0 og c.out S.cf.a2 v) (hog : o og = .con i 3) (hv : ∀ b, v.ownBlock = some b → o b = .con i 3) {bs : List Int} (hq' : IsQ w1 0 og bs S.cf.a2 v') (hn : NewOr w v v') (hf : Fr (qS og v) w w1) :
    ∃ o', Rep w1 L o' (S.setc i (some { c with out := bs })) ∧ Step (fun t => t ≠ .no) w o w1 o' := by
  have st : Step (fun t => t = .con i 3) w o w1 (tagN w o (.con i 3) (fun b => v'.ownBlock = some b)) :=
    step_tagN h.fresh (fun b hb => (own_old hq'.2.1 hb).2) (hf.mono (fun b _ hb => by
      rcases hb with hb | hb
      · rw [hb]; exact hog
      · exact hv b hb))
  have hog' : tagN w o (.con i 3) (fun b => v'.ownBlock = some b) og = .con i 3 := (st.old og (blk_lt hq.1)).trans hog
  refine ⟨_, h.con' hg (st.mono (fun t ht => ⟨3, ht⟩)) ?_, st.mono (fun t ht => by rw [ht]; simp)⟩
  exact ⟨fg, lg, og, vv, p0.ext st.loose (by simp), p1.ext st.loose (by simp), p2.ext st.loose (by simp), ⟨v', hq', hog', fun b hb => tagN_or (by
    rcases hn b hb with h1 | h1
    · exact .inl ⟨(own_old hq.2.1 h1).2, hv b h1⟩
    · exact .inr ⟨h1, hb⟩)⟩, p4.ext st.loose (by simp)⟩

theorem setc_self {S : St} {i : Int} {c : Cn} (hc : S.cn i = some c) : S.setc i (some c) = S := by
  unfold St.setc
  have : (fun j => if j = i then some c else S.cn j) = S.cn := by
    funext j
    by_cases e : j = i
    · rw [if_pos e, e, hc]
    · rw [if_neg e]
  rw [this]
theorem QB.of {L : Lay} {o o1 : Own} {w w1 w2 : World} {S S2 : St} {r : Value} {e : Ending} (st : Step (fun t => t ≠ .no) w o w1 o1) (h : QB L o1 w1 S2 r e w2) : QB L o w S2 r e w2 := by
  obtain ⟨o', he, hr, hs⟩ := h
  exact ⟨o', he, hr, st.trans hs⟩

set_option maxRecDepth 100000 in
set_option maxHeartbeats 4000000 in
theorem send_calls (m : Nat) (H : HLeave m) (w : World) (L : Lay) (o : Own) (S : St) (i : Int) (g : Nat) (mg : Mg) (h : Rep w L o S) (hw : WF S) (hg : L.cp i = some g) (hn : nOpen S ≤ m) (ht : mg.t.size ≤ 1000000) :
    Calls Tryz.prog 82 #[.pointer (some ⟨L.bg, 0, none⟩), .pointer (some ⟨g, 0, none⟩), mgV mg] w (QB L o w (sendW (leaveF (m + 1)) S i mg) (.tuple #[])) := by
  have HR := Aside0.mk h
  have HG := Aside0.mk hg
  have HWF := Aside0.mk hw
  obtain ⟨c, hc, fg, lg, og, vv, p0, p1, p2, ⟨v, hq, hog, hv⟩, p4⟩ := h.cnOf hg
  have HC := Aside0.mk hc
  have HP := Aside0.mk (And.intro p0 (And.intro p1 (And.intro p2 p4)))
  have HQ := Aside0.mk hq
  have HT := Aside0.mk (And.intro hog hv)
  have hcf := cf_bounds hw
  have hout := (hw.con i c hc).2.2.out
  have hst := (hw.con i c hc).2.2.st
  have g1 : w.cell? ⟨g, 1, none⟩ = some (.int .i64 c.st) := (blk_cell p0.1 1).trans rfl
  have g6 : w.cell? ⟨g, 6, none⟩ = some (.pointer (some ⟨og, 0, none⟩)) := (blk_cell p0.1 6).trans rfl
  have hgg := blk_lt p0.1
  have HB0 := Aside0.mk p0.1
  obtain ⟨bs, hbs⟩ : ∃ b, b = mB mg := ⟨_, rfl⟩
  have HBS := Aside0.mk hbs
  have hbl : bs.length ≤ 2053 := by rw [hbs]; exact mB_len mg
  obtain ⟨S1, hS1⟩ : ∃ S1, S1 = sendW (leaveF (m + 1)) S i mg := ⟨_, rfl⟩
  rw [← hS1]
  unfold sendW at hS1
  rw [hc] at hS1
  simp only at hS1
  unfold mgV
  by_cases h2 : c.st = 2
  · rw [if_pos h2] at hS1
    have HS := Aside0.mk hS1
    rw [h2] at g1
    clear hst
    clear h hw hg hc p0 p1 p2 p4 hq hog hv hS1 hbs h2 hout
    go_enter Tryz.func82, Tryz.ntmps82
    go_wp2
    go_quiet (fail)
    go_wp2
    go_end0
    have hf := ((Fr.refl nope w).alloc (.cells #[.int .i64 mg.k, .int .i64 mg.a, .int .i64 mg.b, .string mg.t] 39)).drewN nq
    rw [HS.out]
    exact ⟨o, rfl, HR.out.quiet hf, HR.out.step hf⟩
  · rw [if_neg h2] at hS1
    have hs01 : c.st = 0 ∨ c.st = 1 := by rcases hst with h | h | h; exact .inl h; exact .inr h; exact absurd h h2
    clear hst
    clear h hw hg hc p0 p1 p2 p4 hq hog hv hbs h2
    obtain ⟨W0, hW0⟩ : ∃ W0, W0 = w.alloc (.cells #[.int .i64 mg.k, .int .i64 mg.a, .int .i64 mg.b, .string mg.t] 39) := ⟨_, rfl⟩
    have hf0 : Fr nope w W0 := by rw [hW0]; exact (Fr.refl nope w).alloc _
    have hM0 : W0.heap[w.heap.size]? = some (.cells #[.int .i64 mg.k, .int .i64 mg.a, .int .i64 mg.b, .string mg.t] 39 (0, 0)) := by rw [hW0]; exact blk_new w _
    have HM0 := Aside0.mk hM0
    have HF0 := Aside0.mk hf0
    have HW0 := Aside0.mk hW0
    have hno : ∀ b, w.heap.size ≤ b → o b = .no := HR.out.fresh
    have HK : Aside0 (∀ w', Fr (qS og v) W0 w' → w'.cell? ⟨g, 1, none⟩ = some (.int .i64 c.st) ∧ w'.cell? ⟨g, 6, none⟩ = some (.pointer (some ⟨og, 0, none⟩)) ∧ w'.cell? ⟨w.heap.size, 0, none⟩ = some (.int .i64 mg.k) ∧ w'.cell? ⟨w.heap.size, 1, none⟩ = some (.int .i64 mg.a) ∧ w'.cell? ⟨w.heap.size, 2, none⟩ = some (.int .i64 mg.b) ∧ w'.cell? ⟨w.heap.size, 3, none⟩ = some (.string mg.t)) := ⟨fun w' hF => by
      have hB := hF.blk (hf0.blk HB0.out (fun h => h)) (fun hs => by
        have hg0 := HP.out.1.2
        rcases hs with hs | hs
        · rw [hs, HT.out.1] at hg0; cases hg0
        · rw [HT.out.2 _ hs] at hg0; cases hg0)
      have hM := hF.blk hM0 (fun hs => by
        have := hno w.heap.size (Nat.le_refl _)
        rcases hs with hs | hs
        · rw [hs, HT.out.1] at this; cases this
        · rw [HT.out.2 _ hs] at this; cases this)
      exact ⟨(blk_cell hB 1).trans rfl, (blk_cell hB 6).trans rfl, (blk_cell hM 0).trans rfl, (blk_cell hM 1).trans rfl, (blk_cell hM 2).trans rfl, (blk_cell hM 3).trans rfl⟩⟩
    have hHQ : ∀ w', Fr nope W0 w' → IsQ w' 0 og c.out S.cf.a2 v := fun w' hF => (HQ.out.fr hf0 (fun h => h) (fun _ _ h => h)).fr hF (fun h => h) (fun _ _ h => h)
    have HHQ := Aside0.mk hHQ
    have hfin : ∀ w1 w2 v2 bs2, Fr nope W0 w1 → IsQ w2 0 og bs2 S.cf.a2 v2 → AtRow w1 v2 v → Fr (qS og v) w1 w2 → ∃ o', Rep w2 L o' (S.setc i (some { c with out := bs2 })) ∧ Step (fun t => t ≠ .no) w o w2 o' := by
      intro w1 w2 v2 bs2 hF hq2 hat hf2
      have hf := hf0.trans hF (fun _ _ h => h)
      have st := (Step.quiet hno hf).loose
      obtain ⟨a0, a1, a2, a4⟩ := HP.out
      obtain ⟨o', r, st2⟩ := (HR.out.quiet hf).outq HG.out HC.out (a0.ext st (fun h => h)) (a1.ext st (fun h => h)) (a2.ext st (fun h => h)) (a4.ext st (fun h => h)) (HHQ.out _ hF) HT.out.1 HT.out.2 hq2 (AtRow.newOr hat) hf2
      exact ⟨o', r, (HR.out.step hf).trans st2⟩
    have HFIN := Aside0.mk hfin
    clear hM0 hf0 hW0 hHQ hfin
    rcases hs01 with hs | hs
    · rw [hs] at g1 HK
      clear hs
      by_cases hfit : ((mB mg).length + c.out.length : Int) ≤ S.cf.a2
      · rw [if_pos hfit] at hS1
        have HS := Aside0.mk hS1
        have hfit2 : (bs.length + c.out.length : Int) ≤ S.cf.a2 := by rw [HBS.out]; exact hfit
        clear hS1 hfit
        go_enter Tryz.func82, Tryz.ntmps82
        go_wp2
        rw [← HW0.out]
        go_region_held3 (fun w' => w'.cell? ⟨g, 1, none⟩ = some (.int .i64 0) ∧ w'.cell? ⟨g, 6, none⟩ = some (.pointer (some ⟨og, 0, none⟩)) ∧ w'.cell? ⟨w.heap.size, 0, none⟩ = some (.int .i64 mg.k) ∧ w'.cell? ⟨w.heap.size, 1, none⟩ = some (.int .i64 mg.a) ∧ w'.cell? ⟨w.heap.size, 2, none⟩ = some (.int .i64 mg.b) ∧ w'.cell? ⟨w.heap.size, 3, none⟩ = some (.string mg.t))
          (first | exact HK.out _ (Fr.refl _ W0).drew | exact HK.out _ HF1.out | exact HK.out _ HF2.out | fail)
          (first | (go_at_call 29; have hq := mput_calls mg W0.drew (by omega); unfold mgV OwnB at hq; rw [← HBS.out] at hq; (refine hq.mono ?_); rintro e1 w1 ⟨v1, rfl, ho1, hf1⟩; obtain ⟨A1, c1, rfl⟩ := own_slice ho1; have HO1 := Aside0.mk ho1; have HN1 := Aside0.mk ((Fr.refl nope W0).drew.trans hf1 (fun _ _ h => h)); have HF1 : Aside0 (Fr (qS og v) W0 w1) := Aside0.mk (((Fr.refl nope W0).drew.trans hf1 (fun _ _ h => h)).mono (fun _ _ (h : False) => h.elim)); clear ho1 hf1) | (go_at_call 119; have hq := qput_calls c.out bs S.cf.a2 v og 0 A1 c1 w1 (HHQ.out _ HN1.out) (Nat.zero_le _) (by omega) (by omega) (by omega) (by omega) (own_reads' HO1.out); (refine hq.mono ?_); rintro e2 w2 ⟨v2, ok, bs2, rfl, hok, hq2, hat2, hf2⟩; have hok2 : ok = true := hok.out.1.trans (decide_eq_true hfit2); have hbs2 : bs2 = c.out ++ bs := hok.out.2.trans (if_pos hfit2); subst hok2; subst hbs2; have HF2 : Aside0 (Fr (qS og v) W0 w2) := Aside0.mk (HF1.out.trans hf2 (fun _ _ h => h)); have hfn := HFIN.out w1 w2 v2 _ HN1.out hq2 hat2 hf2; obtain ⟨o2, hr2, hst2⟩ := hfn; have HR2 := Aside0.mk hr2; have HST2 := Aside0.mk hst2; clear hok hq2 hat2 hf2 hr2 hst2) | fail)
        all_goals
          go_wp2
          go_end0
          rw [HS.out, ← HBS.out]
          exact ⟨o2, rfl, HR2.out, HST2.out⟩
      · rw [if_neg hfit] at hS1
        have HS := Aside0.mk hS1
        have hfit2 : ¬ (bs.length + c.out.length : Int) ≤ S.cf.a2 := by rw [HBS.out]; exact hfit
        have hsame : S.setc i (some { c with out := c.out }) = S := setc_self HC.out
        have HSM := Aside0.mk hsame
        clear hS1 hfit hsame
        go_enter Tryz.func82, Tryz.ntmps82
        go_wp2
        rw [← HW0.out]
        go_region_held3 (fun w' => w'.cell? ⟨g, 1, none⟩ = some (.int .i64 0) ∧ w'.cell? ⟨g, 6, none⟩ = some (.pointer (some ⟨og, 0, none⟩)) ∧ w'.cell? ⟨w.heap.size, 0, none⟩ = some (.int .i64 mg.k) ∧ w'.cell? ⟨w.heap.size, 1, none⟩ = some (.int .i64 mg.a) ∧ w'.cell? ⟨w.heap.size, 2, none⟩ = some (.int .i64 mg.b) ∧ w'.cell? ⟨w.heap.size, 3, none⟩ = some (.string mg.t))
          (first | exact HK.out _ (Fr.refl _ W0).drew | exact HK.out _ HF1.out | exact HK.out _ HF2.out | fail)
          (first | (go_at_call 29; have hq := mput_calls mg W0.drew (by omega); unfold mgV OwnB at hq; rw [← HBS.out] at hq; (refine hq.mono ?_); rintro e1 w1 ⟨v1, rfl, ho1, hf1⟩; obtain ⟨A1, c1, rfl⟩ := own_slice ho1; have HO1 := Aside0.mk ho1; have HN1 := Aside0.mk ((Fr.refl nope W0).drew.trans hf1 (fun _ _ h => h)); have HF1 : Aside0 (Fr (qS og v) W0 w1) := Aside0.mk (((Fr.refl nope W0).drew.trans hf1 (fun _ _ h => h)).mono (fun _ _ (h : False) => h.elim)); clear ho1 hf1) | (go_at_call 119; have hq := qput_calls c.out bs S.cf.a2 v og 0 A1 c1 w1 (HHQ.out _ HN1.out) (Nat.zero_le _) (by omega) (by omega) (by omega) (by omega) (own_reads' HO1.out); (refine hq.mono ?_); rintro e2 w2 ⟨v2, ok, bs2, rfl, hok, hq2, hat2, hf2⟩; have hok2 : ok = false := hok.out.1.trans (decide_eq_false (by omega)); have hbs2 : bs2 = c.out := hok.out.2.trans (if_neg (by omega)); subst hok2; subst hbs2; have HF2 : Aside0 (Fr (qS og v) W0 w2) := Aside0.mk (HF1.out.trans hf2 (fun _ _ h => h)); have hfn := HFIN.out w1 w2 v2 _ HN1.out hq2 hat2 hf2; obtain ⟨o2, hr2, hst2⟩ := hfn; have HR2 := Aside0.mk hr2; have HST2 := Aside0.mk hst2; clear hok hq2 hat2 hf2 hr2 hst2) | fail)
        all_goals
          have hr3 := HR2.out
          rw [HSM.out] at hr3
          have HCALL := Aside0.mk (H w2 L o2 S i g hr3 HWF.out HG.out hn)
          clear hr3
          go_wp2_with (go_at_call 69; refine HCALL.out.mono ?_; rintro e3 w3 ⟨o3, rfl, hr4, hst4⟩; have HR4 := Aside0.mk hr4; have HST4 := Aside0.mk hst4; clear hr4 hst4)
          go_end0
          rw [HS.out]
          exact ⟨o3, rfl, HR4.out, HST2.out.trans HST4.out⟩
    · rw [hs] at g1 HK
      clear hs
      by_cases hfit : ((mB mg).length + c.out.length : Int) ≤ S.cf.a2
      · rw [if_pos hfit] at hS1
        have HS := Aside0.mk hS1
        have hfit2 : (bs.length + c.out.length : Int) ≤ S.cf.a2 := by rw [HBS.out]; exact hfit
        clear hS1 hfit
        go_enter Tryz.func82, Tryz.ntmps82
        go_wp2
        rw [← HW0.out]
        go_region_held3 (fun w' => w'.cell? ⟨g, 1, none⟩ = some (.int .i64 1) ∧ w'.cell? ⟨g, 6, none⟩ = some (.pointer (some ⟨og, 0, none⟩)) ∧ w'.cell? ⟨w.heap.size, 0, none⟩ = some (.int .i64 mg.k) ∧ w'.cell? ⟨w.heap.size, 1, none⟩ = some (.int .i64 mg.a) ∧ w'.cell? ⟨w.heap.size, 2, none⟩ = some (.int .i64 mg.b) ∧ w'.cell? ⟨w.heap.size, 3, none⟩ = some (.string mg.t))
          (first | exact HK.out _ (Fr.refl _ W0).drew | exact HK.out _ HF1.out | exact HK.out _ HF2.out | fail)
          (first | (go_at_call 29; have hq := mput_calls mg W0.drew (by omega); unfold mgV OwnB at hq; rw [← HBS.out] at hq; (refine hq.mono ?_); rintro e1 w1 ⟨v1, rfl, ho1, hf1⟩; obtain ⟨A1, c1, rfl⟩ := own_slice ho1; have HO1 := Aside0.mk ho1; have HN1 := Aside0.mk ((Fr.refl nope W0).drew.trans hf1 (fun _ _ h => h)); have HF1 : Aside0 (Fr (qS og v) W0 w1) := Aside0.mk (((Fr.refl nope W0).drew.trans hf1 (fun _ _ h => h)).mono (fun _ _ (h : False) => h.elim)); clear ho1 hf1) | (go_at_call 119; have hq := qput_calls c.out bs S.cf.a2 v og 0 A1 c1 w1 (HHQ.out _ HN1.out) (Nat.zero_le _) (by omega) (by omega) (by omega) (by omega) (own_reads' HO1.out); (refine hq.mono ?_); rintro e2 w2 ⟨v2, ok, bs2, rfl, hok, hq2, hat2, hf2⟩; have hok2 : ok = true := hok.out.1.trans (decide_eq_true hfit2); have hbs2 : bs2 = c.out ++ bs := hok.out.2.trans (if_pos hfit2); subst hok2; subst hbs2; have HF2 : Aside0 (Fr (qS og v) W0 w2) := Aside0.mk (HF1.out.trans hf2 (fun _ _ h => h)); have hfn := HFIN.out w1 w2 v2 _ HN1.out hq2 hat2 hf2; obtain ⟨o2, hr2, hst2⟩ := hfn; have HR2 := Aside0.mk hr2; have HST2 := Aside0.mk hst2; clear hok hq2 hat2 hf2 hr2 hst2) | fail)
        all_goals
          go_wp2
          go_end0
          rw [HS.out, ← HBS.out]
          exact ⟨o2, rfl, HR2.out, HST2.out⟩
      · rw [if_neg hfit] at hS1
        have HS := Aside0.mk hS1
        have hfit2 : ¬ (bs.length + c.out.length : Int) ≤ S.cf.a2 := by rw [HBS.out]; exact hfit
        have hsame : S.setc i (some { c with out := c.out }) = S := setc_self HC.out
        have HSM := Aside0.mk hsame
        clear hS1 hfit hsame
        go_enter Tryz.func82, Tryz.ntmps82
        go_wp2
        rw [← HW0.out]
        go_region_held3 (fun w' => w'.cell? ⟨g, 1, none⟩ = some (.int .i64 1) ∧ w'.cell? ⟨g, 6, none⟩ = some (.pointer (some ⟨og, 0, none⟩)) ∧ w'.cell? ⟨w.heap.size, 0, none⟩ = some (.int .i64 mg.k) ∧ w'.cell? ⟨w.heap.size, 1, none⟩ = some (.int .i64 mg.a) ∧ w'.cell? ⟨w.heap.size, 2, none⟩ = some (.int .i64 mg.b) ∧ w'.cell? ⟨w.heap.size, 3, none⟩ = some (.string mg.t))
          (first | exact HK.out _ (Fr.refl _ W0).drew | exact HK.out _ HF1.out | exact HK.out _ HF2.out | fail)
          (first | (go_at_call 29; have hq := mput_calls mg W0.drew (by omega); unfold mgV OwnB at hq; rw [← HBS.out] at hq; (refine hq.mono ?_); rintro e1 w1 ⟨v1, rfl, ho1, hf1⟩; obtain ⟨A1, c1, rfl⟩ := own_slice ho1; have HO1 := Aside0.mk ho1; have HN1 := Aside0.mk ((Fr.refl nope W0).drew.trans hf1 (fun _ _ h => h)); have HF1 : Aside0 (Fr (qS og v) W0 w1) := Aside0.mk (((Fr.refl nope W0).drew.trans hf1 (fun _ _ h => h)).mono (fun _ _ (h : False) => h.elim)); clear ho1 hf1) | (go_at_call 119; have hq := qput_calls c.out bs S.cf.a2 v og 0 A1 c1 w1 (HHQ.out _ HN1.out) (Nat.zero_le _) (by omega) (by omega) (by omega) (by omega) (own_reads' HO1.out); (refine hq.mono ?_); rintro e2 w2 ⟨v2, ok, bs2, rfl, hok, hq2, hat2, hf2⟩; have hok2 : ok = false := hok.out.1.trans (decide_eq_false (by omega)); have hbs2 : bs2 = c.out := hok.out.2.trans (if_neg (by omega)); subst hok2; subst hbs2; have HF2 : Aside0 (Fr (qS og v) W0 w2) := Aside0.mk (HF1.out.trans hf2 (fun _ _ h => h)); have hfn := HFIN.out w1 w2 v2 _ HN1.out hq2 hat2 hf2; obtain ⟨o2, hr2, hst2⟩ := hfn; have HR2 := Aside0.mk hr2; have HST2 := Aside0.mk hst2; clear hok hq2 hat2 hf2 hr2 hst2) | fail)
        all_goals
          have hr3 := HR2.out
          rw [HSM.out] at hr3
          have HCALL := Aside0.mk (H w2 L o2 S i g hr3 HWF.out HG.out hn)
          clear hr3
          go_wp2_with (go_at_call 69; refine HCALL.out.mono ?_; rintro e3 w3 ⟨o3, rfl, hr4, hst4⟩; have HR4 := Aside0.mk hr4; have HST4 := Aside0.mk hst4; clear hr4 hst4)
          go_end0
          rw [HS.out]
          exact ⟨o3, rfl, HR4.out, HST2.out.trans HST4.out⟩
end Go.Proofs.YtfkamoiamebngaaGreatDoor.BroW

/- broker: tell. -/
namespace Go.Proofs.YtfkamoiamebngaaGreatDoor.BroW
open Go.RowKit Go.Proofs.YtfkamoiamebngaaGreatDoorW.PrintWords Go.Proofs.YtfkamoiamebngaaGreatDoorW.PrintMore Go.Proofs.YtfkamoiamebngaaGreatDoor.Fr Go.Proofs.YtfkamoiamebngaaGreatDoor.ScrW Go.Proofs.YtfkamoiamebngaaGreatDoor.ScrP Go.Proofs.YtfkamoiamebngaaGreatDoor.Mod
open Go.Shelf
attribute [local go_sem] Oper.semAt_some
set_option linter.unusedVariables false
set_option linter.unusedSimpArgs false

theorem all_calls (w : World) (bg : Nat) : Calls Tryz.prog 88 #[.pointer (some ⟨bg, 0, none⟩)] w fun e w' => e = .returned (.func (.func 123) #[] #[.pointer (some ⟨w.heap.size, 0, none⟩)]) ∧ w' = w.alloc (.cells #[.pointer (some ⟨bg, 0, none⟩)] 40) := by
  go_enter Tryz.func88, Tryz.ntmps88
  go_wp2
  go_returns
  exact ⟨rfl, rfl⟩
/-- over all that are connected, or over all numbers: it is one -/
theorem fold_ids (cp : Int → Option Nat) (tm : St → Int → St) (P : St → Prop) (hd : ∀ S, P S → ∀ i, (S.cn i).isSome = (cp i).isSome) (hP : ∀ S i, P S → isOpen S i = true → P (tm S i)) (l : List Int) (S : St) (h : P S) :
    (l.filter fun i => (cp i).isSome).foldl (allStep tm) S = l.foldl (allStep tm) S := by
  induction l generalizing S with
  | nil => rfl
  | cons a l ih =>
    simp only [List.filter_cons, List.foldl_cons]
    by_cases ha : (cp a).isSome = true
    · rw [if_pos ha, List.foldl_cons]
      refine ih _ ?_
      unfold allStep
      split
      · rename_i ho; exact hP S a h ho
      · exact h
    · rw [if_neg ha]
      have : allStep tm S a = S := by
        unfold allStep isOpen
        have hn : S.cn a = none := by
          have := hd S h a
          cases hc : S.cn a with
          | none => rfl
          | some c => rw [hc] at this; simp at this; exact absurd this.symm (by simpa using ha)
        rw [hn]; rfl
      rw [this]
      exact ih S h
theorem Rep.dom {w : World} {L : Lay} {o : Own} {S : St} (h : Rep w L o S) (i : Int) : (S.cn i).isSome = (L.cp i).isSome := by
  rcases h.con i with ⟨h1, h2⟩ | ⟨g, c, h1, h2, _⟩
  · rw [h1, h2]; rfl
  · rw [h1, h2]; rfl
/-- between two rounds -/
structure TellK (m : Nat) (L : Lay) (w : World) (o0 : Own) (B2 B3 Bn : Nat) (mg : Mg) (o : Own) (S : St) (W : World) : Prop where
  rep : Rep W L o S
  wf : WF S
  few : nOpen S ≤ m
  st : Step (fun t => t ≠ .no) w o0 W o
  b2 : W.heap[B2]? = some (.cells #[.pointer (some ⟨L.bg, 0, none⟩)] 40 (0, 0)) ∧ o B2 = .no
  b3 : W.heap[B3]? = some (.cells (mgCells mg) 39 (0, 0)) ∧ o B3 = .no
  bn : W.heap[Bn]? = some (.cells #[.pointer (some ⟨L.bg, 0, none⟩)] 40 (0, 0)) ∧ o Bn = .no
theorem TellK.fr {m : Nat} {L : Lay} {w w1 : World} {o0 o : Own} {B2 B3 Bn : Nat} {mg : Mg} {S : St} {W W' : World} (h : TellK m L w o0 B2 B3 Bn mg o S W) {N : Nat → Prop} (hw : w.heap.size ≤ w1.heap.size) (h2 : B2 < w1.heap.size) (h3 : B3 < w1.heap.size) (hn : Bn < w1.heap.size) (hf : Fr N W W') (hN : ∀ b, N b → w1.heap.size ≤ b ∧ o b = .no ∧ ¬ libB b) :
    TellK m L w o0 B2 B3 Bn mg o S W' := by
  refine ⟨h.rep.fr hf (fun b hb => (hN b hb).2), h.wf, h.few, ⟨h.st.old, fun b hb => h.st.new b (Nat.le_trans hf.size hb), h.st.fr.trans hf (fun b hb hs => by have := (hN b hs).1; omega)⟩, ⟨hf.blk h.b2.1 (fun hs => by have := (hN _ hs).1; omega), h.b2.2⟩, ⟨hf.blk h.b3.1 (fun hs => by have := (hN _ hs).1; omega), h.b3.2⟩, ⟨hf.blk h.bn.1 (fun hs => by have := (hN _ hs).1; omega), h.bn.2⟩⟩

set_option maxRecDepth 100000 in
set_option maxHeartbeats 4000000 in
theorem tell_calls (m : Nat) (H : HLeave m) (w : World) (L : Lay) (o : Own) (S : St) (mg : Mg) (h : Rep w L o S) (hw : WF S) (hn : nOpen S ≤ m) (ht : mg.t.size ≤ 1000000) :
    Calls Tryz.prog 67 #[.pointer (some ⟨L.bg, 0, none⟩), mgV mg] w (QB L o w (tellW (leaveF (m + 1)) S mg) (.tuple #[])) := by
  have HR := Aside0.mk h
  have HWF := Aside0.mk hw
  have hok : LvOK m (leaveF (m + 1)) := leaveF_ok m
  have hfold : (idsL L.cp).foldl (allStep fun S i => sendW (leaveF (m + 1)) S i mg) S = tellW (leaveF (m + 1)) S mg := by
    unfold idsL tellW
    refine fold_ids L.cp _ (fun T => WF T ∧ nOpen T ≤ m ∧ ∀ i, (T.cn i).isSome = (L.cp i).isSome) (fun T hT => hT.2.2) (fun T i hT _ => ?_) ids16 S ⟨hw, hn, h.dom⟩
    have := sendW_ok hok hT.1 hT.2.1 i mg
    exact ⟨this.1, Nat.le_trans this.2.nOpen hT.2.1, fun j => (this.2.1 j).trans (hT.2.2 j)⟩
  rw [← hfold]
  clear hfold h hw
  refine (callsIn_wide (n := 8)).1 ?_
  unfold mgV
  refine callsIn_of_wp_marks Tryz.func67 rfl trivial ?_
  simp only [Tryz.ntmps67, List.size_toArray, List.length_cons, List.length_nil, Nat.reduceAdd, Nat.reduceSub, Array.replicate_succ, Array.replicate_zero, List.push_toArray, List.append_toArray, List.nil_append, List.cons_append]
  have hfS : Fence.wide.fn 88 := trivial
  gi_wp2_with (gi_at_call 88; refine (callsIn_wide.2 (all_calls _ L.bg)).mono ?_; rintro e W1 ⟨rfl, hW1⟩; have hW1 := hW1.symm; subst hW1)
  obtain ⟨W2, hW2⟩ : ∃ W2, W2 = (((w.alloc (.cells #[.pointer (some ⟨L.bg, 0, none⟩)] 40)).alloc (.cells #[.int .i64 mg.k, .int .i64 mg.a, .int .i64 mg.b, .string mg.t] 39)).alloc (.cells #[.pointer (some ⟨L.bg, 0, none⟩)] 40)) := ⟨_, rfl⟩
  rw [← hW2]
  have hf2 : Fr nope w W2 := by rw [hW2]; exact (((Fr.refl nope w).alloc _).alloc _).alloc _
  have hsz : W2.heap.size = w.heap.size + 3 := by rw [hW2]; simp
  have e2 : W2.heap[w.heap.size]? = some (.cells #[.pointer (some ⟨L.bg, 0, none⟩)] 40 (0, 0)) := by rw [hW2]; exact blk_alloc (blk_alloc (blk_new w _) _) _
  have e3 : W2.heap[w.heap.size + 1]? = some (.cells (mgCells mg) 39 (0, 0)) := by rw [hW2]; exact blk_alloc (blk_second w _ _) _
  have e4 : W2.heap[w.heap.size + 1 + 1]? = some (.cells #[.pointer (some ⟨L.bg, 0, none⟩)] 40 (0, 0)) := by
    rw [hW2]
    have := blk_second (w.alloc (.cells #[.pointer (some ⟨L.bg, 0, none⟩)] 40)) (.cells #[.int .i64 mg.k, .int .i64 mg.a, .int .i64 mg.b, .string mg.t] 39) (.cells #[.pointer (some ⟨L.bg, 0, none⟩)] 40)
    rw [World.size_alloc] at this
    exact this
  have hno : ∀ b, w.heap.size ≤ b → o b = .no := HR.out.fresh
  have h0 : TellK m L w o w.heap.size (w.heap.size + 1) (w.heap.size + 1 + 1) mg o S W2 := ⟨HR.out.quiet hf2, HWF.out, hn, HR.out.step hf2, ⟨e2, hno _ (by omega)⟩, ⟨e3, hno _ (by omega)⟩, ⟨e4, hno _ (by omega)⟩⟩
  have H0 := Aside0.mk h0
  have HSZ := Aside0.mk hsz
  clear hW2 hf2 e2 e3 e4 h0 hno hsz
  refine rangeAll (n := 8) (by omega) (w.heap.size + 1 + 1) rfl rfl L (TellK m L w o w.heap.size (w.heap.size + 1) (w.heap.size + 1 + 1) mg) (fun S i => sendW (leaveF (m + 1)) S i mg)
    (fun o S W h => ⟨h.rep, (blk_cell h.bn.1 0).trans rfl⟩)
    (fun o1 S1 W W' N h hf hN => h.fr (w1 := W2) (by have := HSZ.out; omega) (by have := HSZ.out; omega) (by have := HSZ.out; omega) (by have := HSZ.out; omega) hf hN)
    o S H0.out
    (fun x => { tmps := #[.pointer (some ⟨L.bg, 0, none⟩), .agg #[.int .i64 mg.k, .int .i64 mg.a, .int .i64 mg.b, .string mg.t], .pointer (some ⟨w.heap.size, 0, none⟩), .pointer (some ⟨w.heap.size + 1, 0, none⟩), .pointer (some ⟨x, 0, none⟩), .pointer (some ⟨L.bg, 0, none⟩), .func (.func 123) #[] #[.pointer (some ⟨w.heap.size + 1 + 1, 0, none⟩)], .pointer (some ⟨x, 0, none⟩), undef, undef, undef, undef], defers := [] }) ?assign ?body ?done
  case assign =>
    intro l x W K hK
    gi_wp2
    exact hK
  case body =>
    rintro l o1 S1 W i x hk hcp hop hlt
    have HK := Aside0.mk hk
    have b2 : W.cell? ⟨w.heap.size, 0, none⟩ = some (.pointer (some ⟨L.bg, 0, none⟩)) := (blk_cell hk.b2.1 0).trans rfl
    have b30 : W.cell? ⟨w.heap.size + 1, 0, none⟩ = some (.int .i64 mg.k) := (blk_cell hk.b3.1 0).trans rfl
    have b31 : W.cell? ⟨w.heap.size + 1, 1, none⟩ = some (.int .i64 mg.a) := (blk_cell hk.b3.1 1).trans rfl
    have b32 : W.cell? ⟨w.heap.size + 1, 2, none⟩ = some (.int .i64 mg.b) := (blk_cell hk.b3.1 2).trans rfl
    have b33 : W.cell? ⟨w.heap.size + 1, 3, none⟩ = some (.string mg.t) := (blk_cell hk.b3.1 3).trans rfl
    have hB := blk_lt hk.b3.1
    have hcall := send_calls m H W L o1 S1 i x mg hk.rep hk.wf hcp hk.few ht
    unfold mgV at hcall
    have hS := Aside0.mk (sendW_ok (leaveF_ok m) hk.wf hk.few i mg)
    have hfS2 : (Fence.wide.inRound l).fn 82 := trivial
    clear hk
    gi_wp2_with (refine ⟨trivial, ?_⟩; gi_at_call 82; refine (CallsIn.inRound l (callsIn_wide.2 hcall)).mono ?_; rintro e W3 ⟨o3, rfl, hr3, hst3⟩; have HR3 := Aside0.mk hr3; have HST3 := Aside0.mk hst3; clear hr3 hst3)
    have hk := HK.out
    have hlt2 : ∀ b, o1 b = .no → b < W.heap.size → o3 b = .no := fun b hb hl => (HST3.out.old b hl).trans hb
    exact ⟨o3, ⟨HR3.out, hS.out.1, Nat.le_trans hS.out.2.nOpen hk.few, hk.st.trans HST3.out, ⟨HST3.out.fr.blk hk.b2.1 (fun hs => hs hk.b2.2), hlt2 _ hk.b2.2 (blk_lt hk.b2.1)⟩, ⟨HST3.out.fr.blk hk.b3.1 (fun hs => hs hk.b3.2), hlt2 _ hk.b3.2 (blk_lt hk.b3.1)⟩, ⟨HST3.out.fr.blk hk.bn.1 (fun hs => hs hk.bn.2), hlt2 _ hk.bn.2 (blk_lt hk.bn.1)⟩⟩, HST3.out⟩
  case done =>
    intro D o1 W hk hD hoD hlD hDw
    gi_wp2
    refine ⟨by simp, .inl ⟨_, _, rfl, run_takeDeferred hD, ?_⟩⟩
    have hk2 := hk.fr (w1 := W2) (N := only D) (by have := HSZ.out; omega) (by have := HSZ.out; omega) (by have := HSZ.out; omega) (by have := HSZ.out; omega) (fr_putObj (ob := .deferred none)) (fun b hb => by rw [show b = D from hb]; exact ⟨hDw, hoD, hlD⟩)
    exact ⟨_, results_none rfl _ _ _, o1, rfl, hk2.rep, hk2.st⟩
end Go.Proofs.YtfkamoiamebngaaGreatDoor.BroW

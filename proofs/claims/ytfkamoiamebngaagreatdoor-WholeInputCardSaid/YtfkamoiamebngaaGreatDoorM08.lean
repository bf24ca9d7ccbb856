/- floor: those that turn the table. -/
import Derived.Test.YtfkamoiamebngaaGreatDoorM07
import Derived.Test.YtfkamoiamebngaaGreatDoorM04
import Derived.Lib.CutLaws
import Derived.Lib.IndexBytes
namespace Go.Proofs.YtfkamoiamebngaaGreatDoor.BroW
open Go.RowKit Go.Proofs.YtfkamoiamebngaaGreatDoorW.PrintWords Go.Proofs.YtfkamoiamebngaaGreatDoorW.PrintMore Go.Proofs.YtfkamoiamebngaaGreatDoor.Fr Go.Proofs.YtfkamoiamebngaaGreatDoor.ScrW Go.Proofs.YtfkamoiamebngaaGreatDoor.ScrP Go.Proofs.YtfkamoiamebngaaGreatDoor.Mod
set_option linter.unusedVariables false
set_option linter.unusedSimpArgs false

theorem IsTb.setm {w w1 : World} {g mb : Nat} {qv : Value} {t : Tb} (h : IsTb w g mb qv t) {id : Int} {r : Option Int} (hm : MapAt w1 mb (upd (fun i => (t.roles i).map (Value.int .i64)) id (r.map (Value.int .i64)))) (hf : Fr (only mb) w w1) : IsTb w1 g mb qv (t.setR id r) := by
  refine ⟨hf.blk h.1 h.2.2.2.1, ?_, hf.own h.2.2.1 (fun b hb e => h.2.2.2.2.2.1 (by rw [hb, show b = mb from e])), h.2.2.2⟩
  have e : (fun i => ((t.setR id r).roles i).map (Value.int .i64)) = upd (fun i => (t.roles i).map (Value.int .i64)) id (r.map (Value.int .i64)) := by
    funext i
    unfold Tb.setR upd
    by_cases hi : i = id
    · simp [hi]
    · simp [hi]
  rw [e]
  exact hm
theorem IsTb.store {w : World} {g mb : Nat} {qv : Value} {t : Tb} (h : IsTb w g mb qv t) {id : Int} (h1 : 1 ≤ id) (h2 : id ≤ 16) (r : Int) :
    ∃ W1, (Instr.mapUpdate 108 (.map (some mb)) (.int .i64 id) (.int .i64 r)).run Tryz.prog w = .ok () W1 ∧ IsTb W1 g mb qv (t.setR id (some r)) ∧ Fr (only mb) w W1 := by
  obtain ⟨W1, hr, hm, hf⟩ := h.2.1.store Tryz.underlying108 h1 h2 (v := .int .i64 r) (d := .lit (.int .i64 r)) rfl
  exact ⟨W1, hr, h.setm (r := some r) hm hf, hf⟩
theorem IsTb.dele {w : World} {g mb : Nat} {qv : Value} {t : Tb} (h : IsTb w g mb qv t) {id : Int} (hi : (Lit.int .i64 id).wf = true) (ty : TypeId) :
    ∃ W1, (Builtin.delete_ #[108, 3] ty #[.map (some mb), .int .i64 id]).run Tryz.prog w = .ok (.tuple #[]) W1 ∧ IsTb W1 g mb qv (t.setR id none) ∧ Fr (only mb) w W1 := by
  obtain ⟨W1, hr, hm, hf⟩ := h.2.1.del Tryz.underlying108 hi ty
  exact ⟨W1, hr, h.setm (r := none) hm hf, hf⟩
theorem fr_mb {S : Nat → Prop} {g mb : Nat} {w w1 : World} (h : Fr (only mb) w w1) : Fr (tbS g mb) w w1 := h.mono (fun _ _ h => .inr h)

set_option maxRecDepth 100000 in
set_option maxHeartbeats 1000000 in
theorem tjoin_calls (t : Tb) (id r : Int) (g mb : Nat) (qv : Value) (w : World) (h : IsTb w g mb qv t) (h1 : 1 ≤ id) (h2 : id ≤ 16) (h3 : 0 ≤ r) (h4 : r ≤ 2) (hn : t.roles id = none) :
    Calls Tryz.prog 112 #[.pointer (some ⟨g, 0, none⟩), .int .i64 id, .int .i64 r] w (QTb (t.join id r) (.bool true) g mb qv w) := by
  have hl := h.look (mpWf h1 h2)
  rw [hn] at hl
  simp only [Option.getD_none, Option.isSome_none] at hl
  obtain ⟨W1, hs, hT, hf⟩ := h.store h1 h2 r
  have HT := Aside0.mk hT
  have HF := Aside0.mk hf
  have hg : g < w.heap.size := h.lt.1
  have c4 : w.cell? ⟨g, 4, none⟩ = some (.map (some mb)) := (blk_cell h.1 4).trans rfl
  have hj : t.join id r = t.setR id (some r) := by unfold Tb.join; rw [hn, if_neg (by simp; omega)]
  rw [hj]
  have t1 : decide (id < 1) = false := decide_eq_false (by omega)
  have t2 : decide (r < 0) = false := decide_eq_false (by omega)
  have t3 : decide (2 < r) = false := decide_eq_false (by omega)
  clear h hT hf hn hj
  go_enter Tryz.func112, Tryz.ntmps112
  go_wp2
  go_returns
  exact QTb.at HT.out (NewOr.refl _ _) (fr_mb (S := nope) HF.out)

set_option maxRecDepth 100000 in
set_option maxHeartbeats 1000000 in
theorem tleave_calls (t : Tb) (id : Int) (g mb : Nat) (qv : Value) (w : World) (h : IsTb w g mb qv t) (hi : (Lit.int .i64 id).wf = true) :
    Calls Tryz.prog 90 #[.pointer (some ⟨g, 0, none⟩), .int .i64 id] w (QTb (t.leave id) (.bool (t.roles id).isSome) g mb qv w) := by
  have hl := h.look hi
  have HT := Aside0.mk h
  have hg : g < w.heap.size := h.lt.1
  have c4 : w.cell? ⟨g, 4, none⟩ = some (.map (some mb)) := (blk_cell h.1 4).trans rfl
  unfold Tb.leave
  clear h
  cases hr : t.roles id with
  | none =>
    rw [hr] at hl
    simp only [Option.getD_none, Option.isSome_none] at hl ⊢
    clear hr
    go_enter Tryz.func90, Tryz.ntmps90
    go_wp2
    go_returns
    exact QTb.at HT.out (NewOr.refl _ _) (Fr.refl _ _)
  | some r =>
    rw [hr] at hl
    simp only [Option.getD_some, Option.isSome_some, if_true] at hl ⊢
    clear hr
    go_enter Tryz.func90, Tryz.ntmps90
    go_wp2_with (go_at_call 125; refine (tlose_calls t id g mb qv _ HT.out).mono ?_; rintro e w1 ⟨qv1, rfl, hT1, hn1, hf1⟩; have c41 : w1.cell? ⟨g, 4, none⟩ = some (.map (some mb)) := (blk_cell hT1.1 4).trans rfl; have hg1 := hT1.lt.1; have hd := hT1.dele hi 0; obtain ⟨W1, hs, hT2, hf2⟩ := hd; have HN1 := Aside0.mk hn1; have HF1 := Aside0.mk hf1; have HT2 := Aside0.mk hT2; have HF2 := Aside0.mk hf2; clear hT1 hn1 hf1 hT2 hf2)
    go_returns
    exact QTb.at HT2.out HN1.out (HF1.out.trans (fr_mb (S := nope) HF2.out) (fun _ _ h => h))

set_option maxRecDepth 100000 in
set_option maxHeartbeats 1000000 in
theorem tsetRole_calls (t : Tb) (id r : Int) (g mb : Nat) (qv : Value) (w : World) (h : IsTb w g mb qv t) (h1 : 1 ≤ id) (h2 : id ≤ 16) (h3 : r = 0 ∨ r = 1) :
    Calls Tryz.prog 168 #[.pointer (some ⟨g, 0, none⟩), .int .i64 id, .int .i64 r] w (QTb (t.setRole id r).1 (.bool (t.setRole id r).2) g mb qv w) := by
  have hl := h.look (mpWf h1 h2)
  obtain ⟨W1, hs, hT, hf⟩ := h.store h1 h2 r
  have HT1 := Aside0.mk hT
  have HT := Aside0.mk h
  have HF := Aside0.mk hf
  have hg : g < w.heap.size := h.lt.1
  have hgW := hT.lt.1
  have c4 : w.cell? ⟨g, 4, none⟩ = some (.map (some mb)) := (blk_cell h.1 4).trans rfl
  unfold Tb.setRole
  clear h hT hf
  cases hr : t.roles id with
  | none =>
    rw [hr] at hl
    simp only [Option.getD_none, Option.isSome_none, true_or, if_true] at hl ⊢
    clear hr
    rcases h3 with rfl | rfl
    · go_enter Tryz.func168, Tryz.ntmps168
      go_wp2
      go_returns
      exact QTb.at HT.out (NewOr.refl _ _) (Fr.refl _ _)
    · go_enter Tryz.func168, Tryz.ntmps168
      go_wp2
      go_returns
      exact QTb.at HT.out (NewOr.refl _ _) (Fr.refl _ _)
  | some x =>
    rw [hr] at hl
    simp only [Option.getD_some, Option.isSome_some] at hl ⊢
    clear hr
    rcases h3 with rfl | rfl
    · rw [if_neg (by simp), if_pos rfl]
      go_enter Tryz.func168, Tryz.ntmps168
      go_wp2_with (go_at_call 125; refine (tlose_calls _ id g mb qv _ HT1.out).mono ?_; rintro e w1 ⟨qv1, rfl, hT1, hn1, hf1⟩; have HN1 := Aside0.mk hn1; have HF1 := Aside0.mk hf1; have HT2 := Aside0.mk hT1; clear hT1 hn1 hf1)
      go_returns
      exact QTb.at HT2.out ((NewOr.refl _ _).trans HN1.out HF.out.size) ((fr_mb (S := nope) HF.out).trans HF1.out (fun _ _ h => h))
    · rw [if_neg (by simp), if_neg (by simp)]
      go_enter Tryz.func168, Tryz.ntmps168
      go_wp2
      go_returns
      exact QTb.at HT1.out (NewOr.refl _ _) (fr_mb (S := nope) HF.out)
end Go.Proofs.YtfkamoiamebngaaGreatDoor.BroW

/- floor: Ask, Drop, Give, Revoke, Tick. -/
namespace Go.Proofs.YtfkamoiamebngaaGreatDoor.BroW
open Go.RowKit Go.Proofs.YtfkamoiamebngaaGreatDoorW.PrintWords Go.Proofs.YtfkamoiamebngaaGreatDoorW.PrintMore Go.Proofs.YtfkamoiamebngaaGreatDoor.Fr Go.Proofs.YtfkamoiamebngaaGreatDoor.ScrW Go.Proofs.YtfkamoiamebngaaGreatDoor.ScrP Go.Proofs.YtfkamoiamebngaaGreatDoor.Mod
set_option linter.unusedVariables false
set_option linter.unusedSimpArgs false

theorem tcontains {w : World} {g mb : Nat} {qv : Value} {t : Tb} (h : IsTb w g mb qv t) (x : Int) :
    Calls Tryz.prog 164 #[qv, .int .i64 x] w fun e w' => e = .returned (.bool (t.queue.contains x)) ∧ w' = w := by
  have hm := h.2.2.2.2.2.2
  rcases h.2.2.1.2 with ⟨e1, h0⟩ | ⟨g1, cap1, cur, e1, _, hh, hn, hmx, hs, hx⟩
  · subst e1
    have hq : t.queue = [] := List.eq_nil_of_length_eq_zero h0
    rw [hq]
    exact Tryz.slices_Contains_int_empty none 0 x w
  · subst e1
    have := Tryz.slices_Contains_int g1 0 t.queue.length cap1 t.queue x w (Nat.le_refl _) (by omega) (fun j hj => by
      have := (own_holds h.2.2.1 j (by simpa using hj)).1
      rw [this]
      simp [List.getD_eq_getElem?_getD, hj])
    rw [List.take_length] at this
    exact this
theorem tclone {w : World} {g mb : Nat} {qv : Value} {t : Tb} (h : IsTb w g mb qv t) :
    Calls Tryz.prog 165 #[qv] w fun e w' => ∃ v', e = .returned v' ∧ w'.ownsRow w.heap.size 3 1 v' t.queue.length (nums .i64 t.queue) ∧ Fr nope w w' := by
  have hm := h.2.2.2.2.2.2
  rcases h.2.2.1.2 with ⟨e1, h0⟩ | ⟨g1, cap1, cur, e1, _, hh, hn, hmx, hs, hx⟩
  · subst e1
    have hq : t.queue = [] := List.eq_nil_of_length_eq_zero h0
    refine (Tryz.slices_Clone_int_nil 0 0 w).mono ?_
    rintro e w1 ⟨rfl, rfl⟩
    refine ⟨_, rfl, ?_, Fr.refl _ _⟩
    rw [hq]
    exact World.ownsRow_nil _ _ _ _
  · subst e1
    have := Tryz.slices_Clone_int g1 0 t.queue.length cap1 t.queue w (Nat.le_refl _) (by omega) (fun j hj => by
      have := (own_holds h.2.2.1 j (by simpa using hj)).1
      rw [this]
      simp [List.getD_eq_getElem?_getD, hj])
    refine this.mono ?_
    rintro e w1 ⟨v1, rfl, ho1, hv1, hbl⟩
    rw [List.take_length] at ho1
    exact ⟨v1, rfl, ho1, (Fr.refl nope w).below hbl⟩
theorem infoI : (Tryz.prog.info? 3).map (fun i => (i.zero, i.size, i.bytes)) = some (some (.int .i64 0), 1, 8) := by kernel_rfl

set_option maxRecDepth 100000 in
set_option maxHeartbeats 2000000 in
theorem task_calls (t : Tb) (id : Int) (g mb : Nat) (qv : Value) (w : World) (h : IsTb w g mb qv t) (hi : (Lit.int .i64 id).wf = true) (hl : t.queue.length < 1000000) :
    Calls Tryz.prog 144 #[.pointer (some ⟨g, 0, none⟩), .int .i64 id] w (QTb (t.ask id).1 (.int .i64 (t.ask id).2) g mb qv w) := by
  have HT := Aside0.mk h
  have hg : g < w.heap.size := h.lt.1
  have c2 : w.cell? ⟨g, 2, none⟩ = some (.int .i64 t.holder) := (blk_cell h.1 2).trans rfl
  have c3 : w.cell? ⟨g, 3, none⟩ = some qv := (blk_cell h.1 3).trans rfl
  unfold Tb.ask
  clear h
  by_cases h0 : t.may id = 0
  case neg =>
    rw [if_neg h0]
    have t0 : (t.may id == 0) = false := beq_eq_false_iff_ne.2 h0
    clear h0
    go_enter Tryz.func144, Tryz.ntmps144
    go_wp2_with (go_at_call 163; refine (tmay_calls t id g mb qv _ HT.out hi).mono ?_; rintro e w1 ⟨rfl, hw⟩; have hw := hw.symm; subst hw)
    go_returns
    exact QTb.at HT.out (NewOr.refl _ _) (Fr.refl _ _)
  rw [if_pos h0]
  by_cases hc : t.queue.contains id = true
  · rw [if_pos hc]
    go_enter Tryz.func144, Tryz.ntmps144
    go_wp2_with (first | (go_at_call 163; refine (tmay_calls t id g mb qv _ HT.out hi).mono ?_; rintro e w1 ⟨rfl, hw⟩; have hw := hw.symm; subst hw; rw [h0]) | (go_at_call 164; refine (tcontains HT.out id).mono ?_; rintro e w1 ⟨rfl, hw⟩; have hw := hw.symm; subst hw; rw [hc]))
    go_returns
    exact QTb.at HT.out (NewOr.refl _ _) (Fr.refl _ _)
  rw [if_neg hc]
  have hc : t.queue.contains id = false := by simpa using hc
  by_cases hh : t.holder = 0
  · rw [if_pos hh]
    rw [hh] at c2
    clear hh
    go_enter Tryz.func144, Tryz.ntmps144
    go_wp2_with (first | (go_at_call 163; refine (tmay_calls t id g mb qv _ HT.out hi).mono ?_; rintro e w1 ⟨rfl, hw⟩; have hw := hw.symm; subst hw; rw [h0]) | (go_at_call 164; refine (tcontains HT.out id).mono ?_; rintro e w1 ⟨rfl, hw⟩; have hw := hw.symm; subst hw; rw [hc]) | (go_at_call 124; refine (tgrant_calls t id g mb qv _ HT.out).mono ?_; rintro e w1 ⟨qv1, rfl, hT1, hn1, hf1⟩; have HT1 := Aside0.mk hT1; have HN1 := Aside0.mk hn1; have HF1 := Aside0.mk hf1; clear hT1 hn1 hf1))
    go_returns
    exact QTb.at HT1.out HN1.out HF1.out
  · rw [if_neg hh]
    have th : (t.holder == 0) = false := beq_eq_false_iff_ne.2 hh
    clear hh
    obtain ⟨ys, hys⟩ : ∃ l, l = t.queue ++ [id] := ⟨_, rfl⟩
    have hyl : ys.length ≤ 1000000 := by rw [hys, List.length_append]; simp; omega
    have HY := Aside0.mk hys
    clear hys
    go_enter Tryz.func144, Tryz.ntmps144
    go_wp2_with (first | (go_at_call 163; refine (tmay_calls t id g mb qv _ HT.out hi).mono ?_; rintro e w1 ⟨rfl, hw⟩; have hw := hw.symm; subst hw; rw [h0]) | (go_at_call 164; refine (tcontains HT.out id).mono ?_; rintro e w1 ⟨rfl, hw⟩; have hw := hw.symm; subst hw; rw [hc]) | (go_at_call 165; refine (tclone HT.out).mono ?_; rintro e w1 ⟨v1, rfl, ho1, hf1⟩; have hv := own_slice ho1; obtain ⟨A1, c1, rfl⟩ := hv; have HO1 := Aside0.mk ho1; have HF1 := Aside0.mk hf1; have hs1 := hf1.size; clear ho1 hf1) | ((with_reducible refine gate_builtin (b := .append) (xs := #[.tmp 31, .tmp 33]) rfl ?_); at_builtin; refine app_nums rfl (.tmp 31) (.tmp 33) 24 3 .i64 8 rfl Tryz.underlying24 infoI (by decide) w.heap.size (.slice A1 t.queue.length c1) t.queue [id] _ 1 1 rfl rfl ?aO ?aR ?aB ?aL ?_; (case aO => exact HO1.out.alloc _); (case aR => exact reads_one w1 .i64 id 3); (case aB => exact (by rw [World.size_alloc]; omega)); (case aL => exact (by omega)); intro v2 w2 ho2 hf2 hat2; rw [← HY.out] at ho2; have hv := own_slice ho2; obtain ⟨A2, c2', rfl⟩ := hv; have hf3 : Fr nope w w2 := (HF1.out.alloc (.cells #[.int .i64 id] 3)).trans hf2 (fun i hi hs => absurd (own_old HO1.out hs).1 (by omega)); have HO2 := Aside0.mk ho2; have HF3 := Aside0.mk hf3; have hB := hf3.blk HT.out.1 (fun h => h); have c32 : w2.cell? ⟨g, 3, none⟩ = some qv := (blk_cell hB 3).trans rfl; have f32 := blk_frozen hB 3; clear ho2 hf2 hf3 hat2 hB))
    go_returns
    have hlt := HT.out.lt
    refine QTb.at (((HT.out.fr HF3.out (fun h => h) (fun h => h) (fun _ _ h => h)).setq (q := t.queue ++ [id]) ?_ ?_ ?_ ?_)) ?_ (tb_set (S := nope) HF3.out (fun _ h => h.elim) 3 _)
    · rw [← HY.out]
      exact own_base_le HO2.out (Nat.zero_le _)
    · exact fun e => by have := (own_old HO2.out e).1; omega
    · exact fun e => by have := (own_old HO2.out e).1; omega
    · rw [← HY.out]; exact hyl
    · intro b hb
      exact .inr (own_old HO2.out hb).1

set_option maxRecDepth 100000 in
set_option maxHeartbeats 2000000 in
theorem tdrop_calls (t : Tb) (id : Int) (g mb : Nat) (qv : Value) (w : World) (h : IsTb w g mb qv t) (hi : (Lit.int .i64 id).wf = true) :
    Calls Tryz.prog 145 #[.pointer (some ⟨g, 0, none⟩), .int .i64 id] w (QTb (t.drop id).1 (.int .i64 (t.drop id).2) g mb qv w) := by
  have HT := Aside0.mk h
  have hl := h.look hi
  have hg : g < w.heap.size := h.lt.1
  have c2 : w.cell? ⟨g, 2, none⟩ = some (.int .i64 t.holder) := (blk_cell h.1 2).trans rfl
  have c3 : w.cell? ⟨g, 3, none⟩ = some qv := (blk_cell h.1 3).trans rfl
  have c4 : w.cell? ⟨g, 4, none⟩ = some (.map (some mb)) := (blk_cell h.1 4).trans rfl
  unfold Tb.drop
  clear h
  cases hr : t.roles id with
  | none =>
    rw [hr] at hl
    simp only [Option.getD_none, Option.isSome_none] at hl ⊢
    clear hr
    go_enter Tryz.func145, Tryz.ntmps145
    go_wp2
    go_returns
    exact QTb.at HT.out (NewOr.refl _ _) (Fr.refl _ _)
  | some r =>
    rw [hr] at hl
    simp only [Option.getD_some, Option.isSome_some, if_true] at hl ⊢
    clear hr
    by_cases hh : t.holder = id
    · rw [if_pos (.inl hh)]
      have t1 : (t.holder == id) = true := beq_iff_eq.2 hh
      have t2 : (t.holder != id) = false := by simp [bne, t1]
      clear hh
      go_enter Tryz.func145, Tryz.ntmps145
      go_wp2_with (first | (go_at_call 125; refine (tlose_calls t id g mb qv _ HT.out).mono ?_; rintro e w1 ⟨qv1, rfl, hT1, hn1, hf1⟩; have HT1 := Aside0.mk hT1; have HN1 := Aside0.mk hn1; have HF1 := Aside0.mk hf1; clear hT1 hn1 hf1))
      go_returns
      exact QTb.at HT1.out HN1.out HF1.out
    · have t1 : (t.holder == id) = false := beq_eq_false_iff_ne.2 hh
      have t2 : (t.holder != id) = true := by simp [bne, t1]
      by_cases hc : t.queue.contains id = true
      · rw [if_pos (.inr hc)]
        clear hh
        go_enter Tryz.func145, Tryz.ntmps145
        go_wp2_with (first | (go_at_call 164; refine (tcontains HT.out id).mono ?_; rintro e w1 ⟨rfl, hw⟩; have hw := hw.symm; subst hw; rw [hc]) | (go_at_call 125; refine (tlose_calls t id g mb qv _ HT.out).mono ?_; rintro e w1 ⟨qv1, rfl, hT1, hn1, hf1⟩; have HT1 := Aside0.mk hT1; have HN1 := Aside0.mk hn1; have HF1 := Aside0.mk hf1; clear hT1 hn1 hf1))
        go_returns
        exact QTb.at HT1.out HN1.out HF1.out
      · rw [if_neg (by simp only [not_or]; exact ⟨hh, hc⟩)]
        have hc : t.queue.contains id = false := by simpa using hc
        clear hh
        go_enter Tryz.func145, Tryz.ntmps145
        go_wp2_with (first | (go_at_call 164; refine (tcontains HT.out id).mono ?_; rintro e w1 ⟨rfl, hw⟩; have hw := hw.symm; subst hw; rw [hc]) | fail)
        go_returns
        exact QTb.at HT.out (NewOr.refl _ _) (Fr.refl _ _)

set_option maxHeartbeats 2000000 in
theorem tgive_calls (t : Tb) (id : Int) (g mb : Nat) (qv : Value) (w : World) (h : IsTb w g mb qv t) (hi : (Lit.int .i64 id).wf = true) :
    Calls Tryz.prog 167 #[.pointer (some ⟨g, 0, none⟩), .int .i64 id] w (QTb (t.give id).1 (.int .i64 (t.give id).2) g mb qv w) := by
  have HT := Aside0.mk h
  unfold Tb.give
  clear h
  by_cases h0 : t.may id = 0
  · rw [if_pos h0]
    go_enter Tryz.func167, Tryz.ntmps167
    go_wp2_with (first | (go_at_call 163; refine (tmay_calls t id g mb qv _ HT.out hi).mono ?_; rintro e w1 ⟨rfl, hw⟩; have hw := hw.symm; subst hw; rw [h0]) | (go_at_call 124; refine (tgrant_calls t id g mb qv _ HT.out).mono ?_; rintro e w1 ⟨qv1, rfl, hT1, hn1, hf1⟩; have HT1 := Aside0.mk hT1; have HN1 := Aside0.mk hn1; have HF1 := Aside0.mk hf1; clear hT1 hn1 hf1))
    go_returns
    exact QTb.at HT1.out HN1.out HF1.out
  · rw [if_neg h0]
    have t0 : (t.may id == 0) = false := beq_eq_false_iff_ne.2 h0
    clear h0
    go_enter Tryz.func167, Tryz.ntmps167
    go_wp2_with (go_at_call 163; refine (tmay_calls t id g mb qv _ HT.out hi).mono ?_; rintro e w1 ⟨rfl, hw⟩; have hw := hw.symm; subst hw)
    go_returns
    exact QTb.at HT.out (NewOr.refl _ _) (Fr.refl _ _)

set_option maxHeartbeats 2000000 in
theorem trevoke_calls (t : Tb) (g mb : Nat) (qv : Value) (w : World) (h : IsTb w g mb qv t) :
    Calls Tryz.prog 147 #[.pointer (some ⟨g, 0, none⟩)] w (QTb t.revoke.1 (.int .i64 t.revoke.2) g mb qv w) := by
  have HT := Aside0.mk h
  have hg : g < w.heap.size := h.lt.1
  have c2 : w.cell? ⟨g, 2, none⟩ = some (.int .i64 t.holder) := (blk_cell h.1 2).trans rfl
  unfold Tb.revoke
  clear h
  by_cases h0 : t.holder = 0
  · rw [if_pos h0]
    rw [h0] at c2
    clear h0
    go_enter Tryz.func147, Tryz.ntmps147
    go_wp2
    go_returns
    exact QTb.at HT.out (NewOr.refl _ _) (Fr.refl _ _)
  · rw [if_neg h0]
    have t0 : (t.holder == 0) = false := beq_eq_false_iff_ne.2 h0
    clear h0
    go_enter Tryz.func147, Tryz.ntmps147
    go_wp2_with (go_at_call 89; refine (tpass_calls t g mb qv _ HT.out).mono ?_; rintro e w1 ⟨qv1, rfl, hT1, hn1, hf1⟩; have HT1 := Aside0.mk hT1; have HN1 := Aside0.mk hn1; have HF1 := Aside0.mk hf1; clear hT1 hn1 hf1)
    go_returns
    exact QTb.at HT1.out HN1.out HF1.out

set_option maxRecDepth 100000 in
set_option maxHeartbeats 2000000 in
theorem ttick_calls (t : Tb) (g mb : Nat) (qv : Value) (w : World) (h : IsTb w g mb qv t) (h1 : -1000000 ≤ t.left) (h2 : t.left ≤ 1000000) :
    Calls Tryz.prog 68 #[.pointer (some ⟨g, 0, none⟩)] w (QTb t.tick (.tuple #[]) g mb qv w) := by
  have HT := Aside0.mk h
  have hg : g < w.heap.size := h.lt.1
  have c0 : w.cell? ⟨g, 0, none⟩ = some (.int .i64 t.lease) := (blk_cell h.1 0).trans rfl
  have c1 : w.cell? ⟨g, 1, none⟩ = some (.int .i64 t.left) := (blk_cell h.1 1).trans rfl
  have c2 : w.cell? ⟨g, 2, none⟩ = some (.int .i64 t.holder) := (blk_cell h.1 2).trans rfl
  have c3 : w.cell? ⟨g, 3, none⟩ = some qv := (blk_cell h.1 3).trans rfl
  have f1 := blk_frozen h.1 1
  have hm := h.2.2.2.2.2.2
  obtain ⟨Aq, cq, rfl⟩ := own_slice h.2.2.1
  have hw : IntKind.i64.wrap (t.left - 1) = t.left - 1 := by rw [IntKind.wrap_i64]; omega
  obtain ⟨tt, htt⟩ : ∃ tt, tt = t.tick := ⟨_, rfl⟩
  rw [← htt]
  unfold Tb.tick at htt
  clear h
  by_cases h0 : t.holder = 0
  · rw [if_pos h0] at htt
    rw [h0] at c2
    have HQ := Aside0.mk htt
    clear h0 htt
    go_enter Tryz.func68, Tryz.ntmps68
    go_wp2
    go_end0
    rw [HQ.out]
    exact QTb.at HT.out (NewOr.refl _ _) (Fr.refl _ _)
  rw [if_neg h0] at htt
  have t0 : (t.holder == 0) = false := beq_eq_false_iff_ne.2 h0
  clear h0
  by_cases hl : 0 < t.left - 1
  · rw [if_pos hl] at htt
    have HQ := Aside0.mk htt
    clear htt
    go_enter Tryz.func68, Tryz.ntmps68
    go_wp2
    go_end0
    rw [HQ.out]
    exact QTb.at (HT.out.setl _) (NewOr.refl _ _) (tb_set (S := nope) (Fr.refl _ _) (fun _ h => h.elim) 1 _)
  rw [if_neg hl] at htt
  have t2 : decide (1 < t.left) = false := decide_eq_false (by omega)
  have t3 : decide (0 < t.left - 1) = false := decide_eq_false hl
  clear hl
  have hT2 := (HT.out.setl (t.left - 1)).setl t.lease
  have HT2 := Aside0.mk hT2
  have HF2 := Aside0.mk (tb_set (g := g) (mb := mb) (tb_set (S := nope) (Fr.refl nope w) (fun _ h => h.elim) 1 (.int .i64 (t.left - 1))) (fun _ h => h) 1 (.int .i64 t.lease))
  clear hT2
  have hq : t.queue = [] ∨ ∃ x l, t.queue = x :: l := by cases t.queue with
    | nil => exact .inl rfl
    | cons x l => exact .inr ⟨x, l, rfl⟩
  rcases hq with hq | ⟨x, l, hq⟩
  · have HQ := Aside0.mk (show tt = { t with left := t.lease } by rw [htt]; split; rfl; rename_i e; rw [hq] at e; cases e)
    rw [hq] at c3
    simp only [List.length_nil] at c3
    clear hq htt
    go_enter Tryz.func68, Tryz.ntmps68
    go_wp2
    go_end0
    rw [HQ.out]
    exact QTb.at HT2.out (NewOr.refl _ _) HF2.out
  · have HQ := Aside0.mk (show tt = Tb.pass { t with left := t.lease } by rw [htt]; split; rename_i e; rw [hq] at e; cases e; rfl)
    obtain ⟨n, hn⟩ : ∃ n, t.queue.length = n := ⟨_, rfl⟩
    have hnp : (0 : Int) < n := by rw [← hn, hq, List.length_cons]; omega
    rw [hn] at c3 hm
    have HN := Aside0.mk hn
    clear hq hn htt
    go_enter Tryz.func68, Tryz.ntmps68
    go_wp2_with (go_at_call 89; refine (tpass_calls _ g mb _ _ HT2.out).mono ?_; rintro e w1 ⟨qv1, rfl, hT1, hn1, hf1⟩; have HT1 := Aside0.mk hT1; have HN1 := Aside0.mk hn1; have HF1 := Aside0.mk hf1; clear hT1 hn1 hf1)
    go_end0
    rw [HQ.out]
    refine QTb.at HT1.out ?_ (HF2.out.trans HF1.out (fun _ _ h => h))
    intro b hb
    rcases HN1.out b hb with h | h
    · exact .inl h
    · exact .inr (by simpa using h)
end Go.Proofs.YtfkamoiamebngaaGreatDoor.BroW

/- floor: Users. -/
namespace Go.Proofs.YtfkamoiamebngaaGreatDoor.BroW
open Go.RowKit Go.Proofs.YtfkamoiamebngaaGreatDoorW.PrintWords Go.Proofs.YtfkamoiamebngaaGreatDoorW.PrintMore Go.Proofs.YtfkamoiamebngaaGreatDoor.Fr Go.Proofs.YtfkamoiamebngaaGreatDoor.ScrW Go.Proofs.YtfkamoiamebngaaGreatDoor.ScrP Go.Proofs.YtfkamoiamebngaaGreatDoor.Mod
open Go.Sort Go.WideShapes
set_option linter.unusedVariables false
set_option linter.unusedSimpArgs false

theorem ids16_mem (i : Int) : i ∈ ids16 ↔ 1 ≤ i ∧ i ≤ 16 := by unfold ids16; simp; omega
theorem ids16_sorted : ids16.Pairwise (fun a b => a < b) := by decide
/-- what is sorted is in order -/
theorem sorted_ids (f : Int → Bool) (hd : ∀ i, f i = true → 1 ≤ i ∧ i ≤ 16) (xs : List Int) (hn : xs.Nodup) (hm : ∀ i, i ∈ xs ↔ f i = true) : (xs.mergeSort fun x y => decide (x ≤ y)) = ids16.filter f := by
  refine List.Perm.eq_of_pairwise (le := fun a b => decide (a ≤ b) = true) (fun a b _ _ h1 h2 => by simp only [decide_eq_true_eq] at h1 h2; omega) (List.pairwise_mergeSort (fun a b c h1 h2 => by simp only [decide_eq_true_eq] at *; omega) (fun a b => by simp only [Bool.or_eq_true, decide_eq_true_eq]; omega) xs) ((ids16_sorted.filter _).imp fun {a b} h => by simp only [decide_eq_true_eq]; omega) ((List.mergeSort_perm xs _).trans ?_)
  refine (List.perm_ext_iff_of_nodup hn ((ids16_sorted.filter _).imp (fun {a b} h => by omega))).2 fun i => ?_
  rw [hm i, List.mem_filter, ids16_mem]
  constructor
  · intro h; exact ⟨hd i h, h⟩
  · intro h; exact h.2

theorem fr_grow (w : World) (os : Array Obj) : Fr nope w (grow w os) := ⟨rfl, rfl, rfl, by simp [grow], fun i hi _ => by simp [grow, Array.getElem?_append, hi]⟩
/-- a row is sorted -/
theorem tsort {w : World} {b : Nat} {v : Value} {xs : List Int} (h : w.ownsRow b 3 1 v xs.length (nums .i64 xs)) (hl : xs.length ≤ 1000000) :
    Calls Tryz.prog 53 #[v] w fun e w' => e = .returned (.tuple #[]) ∧ w'.ownsRow b 3 1 v xs.length (nums .i64 (xs.mergeSort fun x y => decide (x ≤ y))) ∧ Fr (rowOf v) w w' := by
  rcases h.2 with ⟨e1, h0⟩ | ⟨g1, cap1, cur, e1, hb, hh, hn, hmx, hs, hx⟩
  · subst e1
    have hq : xs = [] := List.eq_nil_of_length_eq_zero h0
    subst hq
    refine (Tryz.slices_Sort_int_none none 0 w).mono ?_
    rintro e w1 ⟨rfl, rfl⟩
    refine ⟨rfl, ?_, Fr.refl _ _⟩
    rw [List.mergeSort_nil]
    exact World.ownsRow_nil _ _ _ _
  · subst e1
    refine (Tryz.slices_Sort_int g1 0 cap1 xs w (own_holds h) (blk_lt hh) (by omega)).mono ?_
    rintro e w1 ⟨rfl, n, os, rfl⟩
    have hl2 : (xs.mergeSort fun x y => decide (x ≤ y)).length = xs.length := List.length_mergeSort _
    have ho := own_putRow (q := n) h (ys := xs.mergeSort fun x y => decide (x ≤ y)) (by omega) [] (by simp)
    rw [List.append_nil, hl2] at ho
    have hg := fr_grow (putRow (Value.int .i64) (Sort.ahead w n) g1 0 (xs.mergeSort fun x y => decide (x ≤ y)).toArray) os
    refine ⟨rfl, hg.own ho (fun _ _ h => h), ?_⟩
    exact (fr_putRow.mono (fun i _ hi => by rw [show i = g1 from hi]; rfl)).trans hg (fun _ _ (h : False) => h.elim)

theorem ranges_fr {S : Nat → Prop} {P : Program} {k : TypeId} {R : Value → Option (DataW Unit × List MemPlace)} {w w1 : World} {b r n : Nat} {D : DataW Unit} {left : Lit → Bool} {cnt : Nat} (h : w.ranges P k R b r n D left cnt) (hf : Fr S w w1) (hb : ¬ S b) (hr : ¬ S r) : w1.ranges P k R b r n D left cnt := by
  obtain ⟨es, clock, since, seen, c0, h1, h2, h3, h4, h5, h6⟩ := h
  exact ⟨es, clock, since, seen, c0, hf.blk h1 hb, h2, h3, h4, hf.blk h5 hr, h6⟩
theorem own_len16 {D : Int → Bool} {xs : List Int} (hn : xs.Nodup) (hD : ∀ i, D i = true → 1 ≤ i ∧ i ≤ 16) (h : ∀ i ∈ xs, D i = true) : xs.length ≤ 16 := by
  have := nodup_len hn (m := ids16) (fun x hx => (ids16_mem x).2 (hD x (h x hx)))
  simpa [ids16] using this

set_option maxRecDepth 100000 in
set_option maxHeartbeats 2000000 in
theorem tusers_calls (t : Tb) (g mb : Nat) (qv : Value) (w : World) (h : IsTb w g mb qv t) :
    Calls Tryz.prog 35 #[.pointer (some ⟨g, 0, none⟩)] w fun e w' => ∃ v', e = .returned v' ∧ w'.ownsRow w.heap.size 3 1 v' t.users.length (nums .i64 t.users) ∧ Fr nope w w' := by
  have hg : g < w.heap.size := h.lt.1
  have hmb : mb < w.heap.size := h.lt.2.1
  have c4 : w.cell? ⟨g, 4, none⟩ = some (.map (some mb)) := (blk_cell h.1 4).trans rfl
  have hdom : ∀ i, (t.roles i).isSome = true → 1 ≤ i ∧ i ≤ 16 := fun i hi => h.2.1.1 i (by simpa using hi)
  have HDM := Aside0.mk hdom
  obtain ⟨D, hown, hhas⟩ := h.2.1.few
  have K := Maps.int_keyed Tryz.underlying3
  have hD : ∀ i : Int, (Lit.int .i64 i).wf = true → Maps.has D (.int .i64 i) = (t.roles i).isSome := fun i hi => by rw [(hhas i hi).1]; simp
  have HD := Aside0.mk hD
  clear h hhas hD hdom
  go_enter Tryz.func35, Tryz.ntmps35
  go_wp2_with (first
    | (at_range; refine wpList_range_own _ rfl _ 108 rfl 3 64 K Tryz.underlying108 _ mb 16 _ rfl hown ?_; intro w0 hrg0 hg0 hs0)
    | go_in)
  go_frame
  have hf0 : Fr nope w w0 := (Fr.refl nope w).grown hg0 (fun b hb => by cases hb)
  have HF0 := Aside0.mk hf0
  clear hf0 hg0
  go_loopw [3] (fun v3 wr => ∃ (xs : List Int) (A3 : Option Addr) (c3 : Nat) (left : Lit → Bool) (cnt : Nat), v3 = .slice A3 xs.length c3 ∧ Aside0 (wr.ownsRow (w.heap.size + 1) 3 1 (.slice A3 xs.length c3) xs.length (nums .i64 xs)) ∧ Aside0 (xs.Nodup) ∧ wr.ranges Tryz.prog 3 mpR mb w.heap.size 16 D left cnt ∧
      Aside0 (∀ i, i ∈ xs → (t.roles i).isSome = true ∧ left (.int .i64 i) = false) ∧ Aside0 (∀ i, (t.roles i).isSome = true → i ∈ xs ∨ left (.int .i64 i) = true) ∧ Aside0 (Fr nope w wr) ∧ w.heap.size + 1 ≤ wr.heap.size ∧ xs.length ≤ 16)
    (fun _ wr => wr.rangeLeft mb w.heap.size)
  case atStart =>
    exact ⟨[], none, 0, _, _, rfl, ⟨World.ownsRow_nil _ _ _ _⟩, ⟨List.nodup_nil⟩, hrg0, ⟨fun i hi => by cases hi⟩, ⟨fun i hi => .inr (by rw [HD.out i (mpWf (HDM.out i hi).1 (HDM.out i hi).2)]; exact hi)⟩, HF0, by omega, by simp⟩
  case round =>
    obtain ⟨xs, A3, c3, left, cnt, rfl, HO, HN, hrg, HX, HY, HF, hsz, hlen⟩ := hrel
    go_wp2_with (first
      | (at_next; refine wpList_next_ranges _ rfl _ rfl 3 K mpR (Value.int .i64) (fun v : Value => v) (fun key kl hk => by obtain ⟨x, rfl, _⟩ := Maps.keyOf_int_inv Tryz.underlying3 hk; exact ⟨x, rfl⟩) (fun v y _ => ⟨v, rfl⟩) mb w.heap.size 16 _ _ _ rfl hrg ?_ ?_)
      | go_in)
    · intro hc0 hl0
      obtain ⟨ys, hys⟩ : ∃ ys, (xs.mergeSort fun x y => decide (x ≤ y)) = ys := ⟨_, rfl⟩
      have hyl : ys.length = xs.length := by rw [← hys]; exact List.length_mergeSort _
      have HYS := Aside0.mk hys
      have hHL := Aside0.mk hl0
      clear hl0 hys hrg
      go_wp2_with (go_at_call 53; refine (tsort HO.out (by omega)).mono ?_; rintro e w1 ⟨rfl, ho1, hf1⟩; rw [HYS.out] at ho1; have HO1 := Aside0.mk ho1; have HF1 := Aside0.mk hf1; clear ho1 hf1)
      go_ret
      have he : t.users = ys := by
        rw [← HYS.out]
        refine (sorted_ids (fun i => (t.roles i).isSome) HDM.out xs HN.out (fun i => ⟨fun hi => (HX.out i hi).1, fun hi => ?_⟩)).symm
        rcases HY.out i hi with h | h
        · exact h
        · rw [hHL.out] at h; cases h
      rw [he]
      refine ⟨_, rfl, own_base_le (by rw [hyl]; exact HO1.out) (by omega), HF.out.trans HF1.out (fun i hi hs => by have := (own_old HO.out hs).1; omega)⟩
    · intro x c kl y y2 w1 cnt1 hkey hlk hv hat hrg1 hlt hg1 hs1 hen
      obtain ⟨x', e1, rfl, hwx⟩ := Maps.keyOf_int_inv Tryz.underlying3 hkey
      cases e1
      have hro : (t.roles x).isSome = true := by
        rw [← HD.out x hwx]
        cases hh : Maps.has D (.int .i64 x) with
        | true => rfl
        | false =>
          have a1 := hat (.lit (.int .i64 0))
          have a2 := hat (.lit (.int .i64 1))
          rw [Maps.atKey_of_not_has hh] at a1 a2
          rw [← a1] at a2
          cases a2
      have hnx : x ∉ xs := fun hi => by rw [(HX.out x hi).2] at hlk; cases hlk
      obtain ⟨ys, hys⟩ : ∃ l, l = xs ++ [x] := ⟨_, rfl⟩
      have hyn : ys.Nodup := by
        rw [hys, List.nodup_append]
        refine ⟨HN.out, by simp, fun a ha b hb => ?_⟩
        rw [List.mem_singleton] at hb
        subst hb
        exact fun e => hnx (by rw [← e]; exact ha)
      have hyr : ∀ i ∈ ys, (t.roles i).isSome = true := by
        intro i hi
        rw [hys] at hi
        rcases List.mem_append.1 hi with h | h
        · exact (HX.out i h).1
        · rw [List.mem_singleton] at h; rw [h]; exact hro
      have hyl : ys.length ≤ 16 := own_len16 (D := fun i => (t.roles i).isSome) hyn HDM.out hyr
      have hf1 : Fr (only w.heap.size) wr w1 := ⟨hg1.os, hg1.tape, hg1.output, hg1.size, fun k hk hn => hg1.block k hk (fun e => hn (Option.some.inj e))⟩
      have ho1 := hf1.own HO.out (fun b hb e => by have := (own_old HO.out hb).1; rw [show b = w.heap.size from e] at this; omega)
      have HO1 := Aside0.mk ho1
      have HF1 := Aside0.mk (HF.out.trans hf1 (fun i hi hs => by rw [show i = w.heap.size from hs] at hi; omega))
      have hl1 : ∀ i, i ∈ ys → (t.roles i).isSome = true ∧ (left (.int .i64 i) && !(Lit.int .i64 i).sameKey (.int .i64 x)) = false := by
        intro i hi
        refine ⟨hyr i hi, ?_⟩
        rw [hys] at hi
        rcases List.mem_append.1 hi with h | h
        · rw [(HX.out i h).2]; rfl
        · rw [List.mem_singleton] at h; rw [h]; simp [Lit.sameKey]
      have hl2 : ∀ i, (t.roles i).isSome = true → i ∈ ys ∨ (left (.int .i64 i) && !(Lit.int .i64 i).sameKey (.int .i64 x)) = true := by
        intro i hi
        rw [hys]
        by_cases e : i = x
        · exact .inl (by rw [e]; simp)
        · rcases HY.out i hi with h | h
          · exact .inl (by simp [h])
          · exact .inr (by rw [h]; simp [Lit.sameKey, e])
      have HL1 := Aside0.mk hl1
      have HL2 := Aside0.mk hl2
      have HYN := Aside0.mk hyn
      have HYS := Aside0.mk hys
      have HM := Aside0.mk (show cnt1 < wr.rangeLeft mb w.heap.size by rw [hrg.left_eq]; exact hlt)
      have HRG := Aside0.mk hrg1
      have hsz1 : w.heap.size + 1 ≤ w1.heap.size := by omega
      clear hl1 hl2 hyn hys hyr hnx hro hat hv hlk hkey HX HY hrg hrg1 hg1 hs1 hf1 ho1
      go_wp2_with ((with_reducible refine gate_builtin (b := .append) (xs := #[.tmp 14, .tmp 16]) rfl ?_); at_builtin; refine app_nums rfl (.tmp 14) (.tmp 16) 24 3 .i64 8 rfl Tryz.underlying24 infoI (by decide) (w.heap.size + 1) (.slice A3 xs.length c3) xs [x] _ 1 1 rfl rfl ?aO ?aR ?aB ?aL ?_; (case aO => exact HO1.out.alloc _); (case aR => exact reads_one w1 .i64 x 3); (case aB => exact (by rw [World.size_alloc]; omega)); (case aL => exact (by omega)); intro v2 w2 ho2 hf2 hat2; rw [← HYS.out] at ho2; have hv := own_slice ho2; obtain ⟨A2, c2', rfl⟩ := hv; have hf3 : Fr nope w w2 := (HF1.out.alloc (.cells #[.int .i64 x] 3)).trans hf2 (fun i hi hs => absurd (own_old HO1.out hs).1 (by omega)); have HO2 := Aside0.mk ho2; have HF3 := Aside0.mk hf3; have hrg2 := ranges_fr (HRG.out.alloc (.cells #[.int .i64 x] 3)) hf2 (fun hs => absurd (own_old HO1.out hs).1 (by omega)) (fun hs => absurd (own_old HO1.out hs).1 (by omega)); have hsz2 : w.heap.size + 1 ≤ w2.heap.size := (by have := hf2.size; rw [World.size_alloc] at this; omega); have HRG2 := Aside0.mk hrg2; clear ho2 hf2 hf3 hat2 hrg2)
      go_roundw
      case rel => exact ⟨ys, A2, c2', _, cnt1, rfl, HO2, HYN, HRG2.out, HL1, HL2, HF3, hsz2, hyl⟩
      case measure => rw [HRG2.out.left_eq]; exact HM.out
end Go.Proofs.YtfkamoiamebngaaGreatDoor.BroW

/- inq. -/
namespace Go.Proofs.YtfkamoiamebngaaGreatDoor.BroW
open Go.RowKit Go.Proofs.YtfkamoiamebngaaGreatDoorW.PrintWords Go.Proofs.YtfkamoiamebngaaGreatDoorW.PrintMore Go.Proofs.YtfkamoiamebngaaGreatDoor.Fr Go.Proofs.YtfkamoiamebngaaGreatDoor.ScrW Go.Proofs.YtfkamoiamebngaaGreatDoor.ScrP Go.Proofs.YtfkamoiamebngaaGreatDoor.Mod
set_option linter.unusedVariables false
set_option linter.unusedSimpArgs false

/-- an input queue at gi, its bytes at gq -/
def IsI (W : World) (gi gq : Nat) (v : Value) (bs : List Int) (size : Int) (ended : Bool) : Prop :=
  ∃ c : Int, W.heap[gi]? = some (.cells #[.pointer (some ⟨gq, 0, none⟩), .bool ended, .int .i64 c] 130 (0, 0)) ∧ IsQ W 0 gq bs size v ∧ gi ≠ gq ∧ v.ownBlock ≠ some gi
theorem IsI.fr {S : Nat → Prop} {w w1 : World} {gi gq : Nat} {v : Value} {bs : List Int} {size : Int} {ended : Bool} (h : IsI w gi gq v bs size ended) (hF : Fr S w w1) (h1 : ¬ S gi) (h2 : ¬ S gq) (h3 : ∀ b, v.ownBlock = some b → ¬ S b) : IsI w1 gi gq v bs size ended := by
  obtain ⟨c, k1, k2, k3⟩ := h
  exact ⟨c, hF.blk k1 h1, k2.fr hF h2 h3, k3⟩
theorem inew_calls (size : Int) (w : World) (h0 : 0 < size) (h1 : size ≤ 65536) :
    Calls Tryz.prog 97 #[.int .i64 size] w fun e w' => ∃ gi gq, e = .returned (.pointer (some ⟨gi, 0, none⟩)) ∧ IsI w' gi gq (.slice none 0 0) [] size false ∧ w.heap.size ≤ gi ∧ w.heap.size ≤ gq ∧ Fr nope w w' := by
  go_enter Tryz.func97, Tryz.ntmps97
  go_wp2_with (go_at_call 56; refine (qnew_calls size 0 _ h0 h1).mono ?_; rintro e w1 ⟨rfl, hq1, hf1⟩; have HQ1 := Aside0.mk hq1; have HF1 := Aside0.mk hf1; have hs1 := hf1.size; have hl1 := blk_lt hq1.1; clear hq1 hf1)
  go_returns
  refine ⟨w1.heap.size, w.heap.size, rfl, ⟨0, ?_, HQ1.out.fr ((Fr.refl nope _).alloc _) (fun h => h) (fun _ _ h => h), by omega, by simp [Value.ownBlock]⟩, hs1, Nat.le_refl _, HF1.out.alloc _⟩
  have := blk_new w1 (.cells #[.pointer (some ⟨w.heap.size, 0, none⟩), .bool false, .int .i64 0] 130)
  simpa using this

def whyM (ended : Bool) (t : Tb) (id : Int) (n m : Nat) (size : Int) : Int :=
  if ended = true then 1
  else match t.roles id with
    | none => 2
    | some r => if r = 0 then 3 else if t.holder = id then (if size < n + m then 5 else 0) else 4
set_option maxRecDepth 100000 in
set_option maxHeartbeats 2000000 in
theorem iwhy_calls (t : Tb) (id : Int) (g mb : Nat) (qv : Value) (gi gq : Nat) (v : Value) (bs : List Int) (size : Int) (ended : Bool) (A : Option Addr) (n c : Nat) (w : World) (h : IsTb w g mb qv t) (hI : IsI w gi gq v bs size ended) (hi : (Lit.int .i64 id).wf = true) (hl : bs.length ≤ 1000000) (hn : n ≤ 1000000) (h0 : 0 ≤ size) (h1 : size ≤ 65536) :
    Calls Tryz.prog 137 #[.pointer (some ⟨gi, 0, none⟩), .pointer (some ⟨g, 0, none⟩), .int .i64 id, .slice A n c] w fun e w' => e = .returned (.int .i64 (whyM ended t id n bs.length size)) ∧ Fr nope w w' := by
  have HT := Aside0.mk h
  obtain ⟨cnt, hb, hq, hne, hv⟩ := hI
  have HQ := Aside0.mk hq
  have hg : gi < w.heap.size := blk_lt hb
  have c0 : w.cell? ⟨gi, 0, none⟩ = some (.pointer (some ⟨gq, 0, none⟩)) := (blk_cell hb 0).trans rfl
  have c1 : w.cell? ⟨gi, 1, none⟩ = some (.bool ended) := (blk_cell hb 1).trans rfl
  unfold whyM
  clear h hb hq
  cases ended with
  | true =>
    rw [if_pos rfl]
    go_enter Tryz.func137, Tryz.ntmps137
    go_wp2_with (go_at_call 44; refine (trole_calls t id g mb qv _ HT.out hi).mono ?_; rintro e w1 ⟨rfl, hw⟩; have hw := hw.symm; subst hw)
    go_returns
    exact ⟨rfl, Fr.refl _ _⟩
  | false =>
    rw [if_neg (by simp)]
    cases hr : t.roles id with
    | none =>
      have h2 : (t.roles id).isSome = false := by rw [hr]; rfl
      simp only
      clear hr
      go_enter Tryz.func137, Tryz.ntmps137
      go_wp2_with (go_at_call 44; refine (trole_calls t id g mb qv _ HT.out hi).mono ?_; rintro e w1 ⟨rfl, hw⟩; have hw := hw.symm; subst hw; rw [h2])
      go_returns
      exact ⟨rfl, Fr.refl _ _⟩
    | some r =>
      have h2 : (t.roles id).isSome = true := by rw [hr]; rfl
      have h3 : t.role id = r := by unfold Tb.role; rw [hr]; rfl
      simp only
      clear hr
      by_cases hr0 : r = 0
      · rw [if_pos hr0]
        rw [hr0] at h3
        clear hr0
        go_enter Tryz.func137, Tryz.ntmps137
        go_wp2_with (go_at_call 44; refine (trole_calls t id g mb qv _ HT.out hi).mono ?_; rintro e w1 ⟨rfl, hw⟩; have hw := hw.symm; subst hw; rw [h2, h3])
        go_returns
        exact ⟨rfl, Fr.refl _ _⟩
      rw [if_neg hr0]
      have t0 : (r == 0) = false := beq_eq_false_iff_ne.2 hr0
      clear hr0
      by_cases hh : t.holder = id
      case neg =>
        rw [if_neg hh]
        have t1 : (t.holder != id) = true := by simp [bne, hh]
        clear hh
        go_enter Tryz.func137, Tryz.ntmps137
        go_wp2_with (first | (go_at_call 44; refine (trole_calls t id g mb qv _ HT.out hi).mono ?_; rintro e w1 ⟨rfl, hw⟩; have hw := hw.symm; subst hw; rw [h2, h3]) | (go_at_call 34; refine (tholder_calls t g mb qv _ HT.out).mono ?_; rintro e w1 ⟨rfl, hw⟩; have hw := hw.symm; subst hw))
        go_returns
        exact ⟨rfl, Fr.refl _ _⟩
      rw [if_pos hh]
      have t1 : (t.holder != id) = false := by simp [bne, hh]
      clear hh
      obtain ⟨room, hroom⟩ : ∃ r, r = size - (bs.length : Int) := ⟨_, rfl⟩
      have HR := Aside0.mk hroom
      by_cases hf : size < n + bs.length
      · rw [if_pos hf]
        have t2 : decide (room < (n : Int)) = true := decide_eq_true (by omega)
        clear hf hroom
        go_enter Tryz.func137, Tryz.ntmps137
        go_wp2_with (first | (go_at_call 44; refine (trole_calls t id g mb qv _ HT.out hi).mono ?_; rintro e w1 ⟨rfl, hw⟩; have hw := hw.symm; subst hw; rw [h2, h3]) | (go_at_call 34; refine (tholder_calls t g mb qv _ HT.out).mono ?_; rintro e w1 ⟨rfl, hw⟩; have hw := hw.symm; subst hw) | (go_at_call 121; refine (qroom_calls bs size v gq 0 _ HQ.out hl h0 h1).mono ?_; rintro e w1 ⟨rfl, hf1⟩; rw [← HR.out]; have HF1 := Aside0.mk hf1; clear hf1))
        go_returns
        exact ⟨rfl, HF1.out⟩
      · rw [if_neg hf]
        have t2 : decide (room < (n : Int)) = false := decide_eq_false (by omega)
        clear hf hroom
        go_enter Tryz.func137, Tryz.ntmps137
        go_wp2_with (first | (go_at_call 44; refine (trole_calls t id g mb qv _ HT.out hi).mono ?_; rintro e w1 ⟨rfl, hw⟩; have hw := hw.symm; subst hw; rw [h2, h3]) | (go_at_call 34; refine (tholder_calls t g mb qv _ HT.out).mono ?_; rintro e w1 ⟨rfl, hw⟩; have hw := hw.symm; subst hw) | (go_at_call 121; refine (qroom_calls bs size v gq 0 _ HQ.out hl h0 h1).mono ?_; rintro e w1 ⟨rfl, hf1⟩; rw [← HR.out]; have HF1 := Aside0.mk hf1; clear hf1))
        go_returns
        exact ⟨rfl, HF1.out⟩

def inS (gi gq : Nat) (v : Value) : Nat → Prop := fun i => i = gi ∨ i = gq ∨ v.ownBlock = some i
def QIn (bs : List Int) (size : Int) (ended : Bool) (r : Value) (gi gq : Nat) (v : Value) (w : World) (e : Ending) (w' : World) : Prop :=
  ∃ v', e = .returned r ∧ IsI w' gi gq v' bs size ended ∧ NewOr w v v' ∧ Fr (inS gi gq v) w w'
theorem AtRow.newOr {w : World} {v v' : Value} (h : AtRow w v' v) : NewOr w v v' := fun b hb => by
  rcases h with h | ⟨b2, h, h2⟩
  · exact .inl (by rw [← h]; exact hb)
  · rw [h] at hb; cases hb; exact .inr h2
set_option maxRecDepth 100000 in
set_option maxHeartbeats 2000000 in
theorem ioffer_calls (t : Tb) (id : Int) (g mb : Nat) (qv : Value) (gi gq : Nat) (v : Value) (bs : List Int) (size : Int) (ended : Bool) (A : Option Addr) (keys : List Int) (c : Nat) (w : World) (h : IsTb w g mb qv t) (hI : IsI w gi gq v bs size ended) (hi : (Lit.int .i64 id).wf = true) (hl : bs.length ≤ 1000000) (hn : keys.length ≤ 1000000) (h0 : 0 ≤ size) (h1 : size ≤ 65536)
    (hr : ReadsInt w .u8 A keys.length keys) (hA : ∀ ad, A = some ad → ¬ inS gi gq v ad.block) :
    Calls Tryz.prog 116 #[.pointer (some ⟨gi, 0, none⟩), .pointer (some ⟨g, 0, none⟩), .int .i64 id, .slice A keys.length c] w (QIn (if whyM ended t id keys.length bs.length size = 0 then bs ++ keys else bs) size ended (.int .i64 (whyM ended t id keys.length bs.length size)) gi gq v w) := by
  have HT := Aside0.mk h
  have HI := Aside0.mk hI
  have HR := Aside0.mk hr
  obtain ⟨why, hwhy⟩ : ∃ y, y = whyM ended t id keys.length bs.length size := ⟨_, rfl⟩
  rw [← hwhy]
  have HW := Aside0.mk hwhy
  clear h hI hr
  by_cases hw0 : why = 0
  · have hfit : (keys.length + bs.length : Int) ≤ size := by
      rw [hw0] at hwhy
      unfold whyM at hwhy
      split at hwhy
      · cases hwhy
      · split at hwhy
        · cases hwhy
        · split at hwhy
          · cases hwhy
          · split at hwhy
            · split at hwhy
              · cases hwhy
              · omega
            · cases hwhy
    have HFit := Aside0.mk hfit
    rw [if_pos hw0, hw0]
    rw [hw0] at HW
    clear hfit hw0 hwhy
    go_enter Tryz.func116, Tryz.ntmps116
    go_wp2_with (first | (go_at_call 137; refine (iwhy_calls t id g mb qv gi gq v bs size ended A keys.length c _ HT.out HI.out hi hl hn h0 h1).mono ?_; rintro e w1 ⟨rfl, hf1⟩; rw [← HW.out]; have hI1 := HI.out.fr hf1 (fun h => h) (fun h => h) (fun _ _ h => h); obtain ⟨cnt, hb1, hq1, hne1, hv1⟩ := hI1; have c0 : w1.cell? ⟨gi, 0, none⟩ = some (.pointer (some ⟨gq, 0, none⟩)) := (blk_cell hb1 0).trans rfl; have hg1 : gi < w1.heap.size := blk_lt hb1; have HB1 := Aside0.mk hb1; have HQ1 := Aside0.mk hq1; have HN1 := Aside0.mk (And.intro hne1 hv1); have HF1 := Aside0.mk hf1; clear hb1 hq1 hf1 hne1 hv1) | (go_at_call 119; refine (qput_calls bs keys size v gq 0 A c _ HQ1.out (Nat.zero_le _) hl hn h0 h1 (HF1.out.reads HR.out (fun _ _ h => h))).mono ?_; rintro e w2 ⟨v2, ok, bs2, rfl, hok, hq2, hat2, hf2⟩; have hok2 : ok = true := hok.out.1.trans (decide_eq_true HFit.out); have hbs2 : bs2 = bs ++ keys := hok.out.2.trans (if_pos HFit.out); subst hok2; have hq2 := hbs2 ▸ hq2; have hB2 := hf2.blk HB1.out (fun hs => by rcases hs with hs | hs; exact HN1.out.1 hs; exact HN1.out.2 hs); have d2 : w2.cell? ⟨gi, 2, none⟩ = some (.int .i64 cnt) := (blk_cell hB2 2).trans rfl; have f2 := blk_frozen hB2 2; have hg2 := blk_lt hB2; have HB2 := Aside0.mk hB2; have HQ2 := Aside0.mk hq2; have HF2 := Aside0.mk hf2; have HAT := Aside0.mk hat2; clear hok hbs2 hq2 hat2 hf2 hB2))
    go_returns
    have hs1 := HF1.out.size
    have hne2 : ∀ b, v2.ownBlock = some b → b ≠ gi := by
      intro b hb e
      subst e
      rcases HAT.out with h | ⟨b2, h, h2⟩
      · exact HN1.out.2 (by rw [← h]; exact hb)
      · rw [h] at hb; cases hb; omega
    refine ⟨v2, rfl, ⟨_, blk_set HB2.out 2 _, HQ2.out.fr ((Fr.refl (only gi) w2).set (fun _ => rfl) 2 _) (fun e => HN1.out.1 e.symm) (fun b hb => hne2 b hb), HN1.out.1, fun e => hne2 gi e rfl⟩, ?_, ?_⟩
    · intro b hb
      rcases AtRow.newOr HAT.out b hb with h | h
      · exact .inl h
      · exact .inr (by omega)
    · exact ((HF1.out.mono (fun _ _ h => h.elim)).trans (HF2.out.mono (fun i _ h => .inr h)) (fun _ _ h => h)).set (fun _ => .inl rfl) 2 _
  · rw [if_neg hw0]
    have t0 : (why == 0) = false := beq_eq_false_iff_ne.2 hw0
    clear hw0 hwhy
    go_enter Tryz.func116, Tryz.ntmps116
    go_wp2_with (first | (go_at_call 137; refine (iwhy_calls t id g mb qv gi gq v bs size ended A keys.length c _ HT.out HI.out hi hl hn h0 h1).mono ?_; rintro e w1 ⟨rfl, hf1⟩; rw [← HW.out]; have HF1 := Aside0.mk hf1; clear hf1) | fail)
    go_returns
    exact ⟨v, rfl, HI.out.fr HF1.out (fun h => h) (fun h => h) (fun _ _ h => h), NewOr.refl _ _, HF1.out.mono (fun _ _ h => h.elim)⟩

set_option maxRecDepth 100000 in
set_option maxHeartbeats 2000000 in
theorem iend_calls (gi gq : Nat) (v : Value) (bs : List Int) (size : Int) (ended : Bool) (w : World) (hI : IsI w gi gq v bs size ended) (hl : bs.length ≤ 1000000) :
    Calls Tryz.prog 66 #[.pointer (some ⟨gi, 0, none⟩)] w (QIn [] size true (.tuple #[]) gi gq v w) := by
  obtain ⟨cnt, hb, hq, hne, hv⟩ := hI
  have hg : gi < w.heap.size := blk_lt hb
  have c0 : w.cell? ⟨gi, 0, none⟩ = some (.pointer (some ⟨gq, 0, none⟩)) := (blk_cell hb 0).trans rfl
  have c1 : w.cell? ⟨gi, 1, none⟩ = some (.bool ended) := (blk_cell hb 1).trans rfl
  have f1 := blk_frozen hb 1
  have HB1 := Aside0.mk (blk_set hb 1 (.bool true))
  have HQ1 := Aside0.mk (hq.fr ((Fr.refl (only gi) w).set (fun _ => rfl) 1 (.bool true)) (fun e => hne e.symm) (fun b hb e => hv (by rw [hb, show b = gi from e])))
  have HN := Aside0.mk (And.intro hne hv)
  have HF1 := Aside0.mk ((Fr.refl (only gi) w).set (fun _ => rfl) 1 (.bool true))
  clear hb hq hne hv
  go_enter Tryz.func66, Tryz.ntmps66
  go_wp2
  obtain ⟨W1, hW1⟩ : ∃ W1, W1 = w.setCell ⟨gi, 1, none⟩ (.bool true) := ⟨_, rfl⟩
  rw [← hW1] at HB1 HQ1 HF1 ⊢
  have d0 : W1.cell? ⟨gi, 0, none⟩ = some (.pointer (some ⟨gq, 0, none⟩)) := (blk_cell HB1.out 0).trans rfl
  have hg1 : gi < W1.heap.size := blk_lt HB1.out
  have HK : Aside0 (∀ w', Fr nope W1 w' → w'.cell? ⟨gi, 0, none⟩ = some (.pointer (some ⟨gq, 0, none⟩))) := ⟨fun w' hF => (blk_cell (hF.blk HB1.out (fun h => h)) 0).trans rfl⟩
  clear hW1 c0 c1 f1
  go_region_held3 (fun w' => w'.cell? ⟨gi, 0, none⟩ = some (.pointer (some ⟨gq, 0, none⟩)))
    (first | exact HK.out _ (Fr.refl nope W1).drew | exact hc8 | fail)
    (first | (go_at_call 84; have hq := qlen_calls bs size v gq 0 W1.drew (HQ1.out.fr (Fr.refl nope W1).drew (fun h => h) (fun _ _ h => h)) hl; (refine hq.mono ?_); rintro e9 w9 ⟨rfl, hw9⟩; have hw9 := hw9.symm; subst hw9) | (go_at_call 63; have hq := qtake_at bs size (bs.length : Int) bs.length v gq 0 W1.drew (HQ1.out.fr (Fr.refl nope W1).drew (fun h => h) (fun _ _ h => h)) (Nat.zero_le _) hl (Nat.le_refl _) (.inl rfl); (refine hq.mono ?_); rintro e8 w8 ⟨out, v8, rfl, _, hq8, hn8, hf8⟩; have hc8 : w8.cell? ⟨gi, 0, none⟩ = some (.pointer (some ⟨gq, 0, none⟩)) := (blk_cell (((Fr.refl nope W1).drew.mono (fun i _ (h : False) => h.elim)).trans hf8 (fun _ _ h => h) |>.blk HB1.out (fun h => HN.out.1 h)) 0).trans rfl; have HQ8 := Aside0.mk hq8; have HN8 := Aside0.mk hn8; have HF8 := Aside0.mk hf8; clear hq8 hn8 hf8) | fail)
  all_goals
    go_end0
    have hf8 : Fr (only gq) W1 w8 := ((Fr.refl nope W1).drew.mono (fun i _ (h : False) => h.elim)).trans HF8.out (fun _ _ h => h)
    have hb8 := hf8.blk HB1.out (fun h => HN.out.1 h)
    have hq8 := HQ8.out
    rw [List.drop_length] at hq8
    have hsz : w.heap.size ≤ W1.heap.size := HF1.out.size
    refine ⟨v8, rfl, ⟨_, hb8, hq8, HN.out.1, fun e => ?_⟩, fun b hb => ?_, ?_⟩
    · have := (HN8.out _ e).1
      rw [drew_size] at this
      omega
    · have := (HN8.out b hb).1
      rw [drew_size] at this
      exact .inr (by omega)
    · exact (HF1.out.mono (fun i _ h => .inl h)).trans hf8 (fun i _ h => .inr (.inl h))
end Go.Proofs.YtfkamoiamebngaaGreatDoor.BroW

/- order. -/
namespace Go.Proofs.YtfkamoiamebngaaGreatDoor.BroW
open Go.RowKit Go.Proofs.YtfkamoiamebngaaGreatDoorW.PrintWords Go.Proofs.YtfkamoiamebngaaGreatDoorW.PrintMore Go.Proofs.YtfkamoiamebngaaGreatDoor.Fr Go.Proofs.YtfkamoiamebngaaGreatDoor.ScrW Go.Proofs.YtfkamoiamebngaaGreatDoor.ScrP Go.Proofs.YtfkamoiamebngaaGreatDoor.Mod
set_option linter.unusedVariables false
set_option linter.unusedSimpArgs false

def wordsV : Array Value := (wordsL.map fun l => Value.string (strL l)).toArray
def WordsAt (w : World) (b : Nat) : Prop := w.heap[b]? = some (.cells wordsV 9 (0, 0))
theorem words_calls (w : World) : Calls Tryz.prog 138 #[] w fun e w' => e = .returned (.tuple #[.slice (some ⟨w.heap.size, 0, none⟩) 11 11, .int .i64 6]) ∧ WordsAt w' w.heap.size ∧ Fr nope w w' := by
  go_enter Tryz.func138, Tryz.ntmps138
  go_wp2
  go_returns
  exact ⟨rfl, blk_new w _, (Fr.refl _ _).alloc _⟩
set_option maxRecDepth 100000 in
set_option maxHeartbeats 1000000 in
theorem ordRight_calls (k n : Int) (w : World) : Calls Tryz.prog 161 #[.agg #[.int .i64 k, .int .i64 n]] w fun e w' => e = .returned (.bool (ordB k n)) ∧ Fr nope w w' := by
  obtain ⟨b, hb⟩ : ∃ b, b = ordB k n := ⟨_, rfl⟩
  rw [← hb]
  have HB := Aside0.mk hb
  clear hb
  go_enter Tryz.func161, Tryz.ntmps161
  go_wp2_with (first | (go_at_call 138; refine (words_calls _).mono ?_; rintro e w1 ⟨rfl, _, hf1⟩; have hB1 := hf1.blk (blk_new w (.cells #[.int .i64 k, .int .i64 n] 195)) (fun h => h); have c0 : w1.cell? ⟨w.heap.size, 0, none⟩ = some (.int .i64 k) := (blk_cell hB1 0).trans rfl; have c1 : w1.cell? ⟨w.heap.size, 1, none⟩ = some (.int .i64 n) := (blk_cell hB1 1).trans rfl; have HF1 := Aside0.mk (((Fr.refl nope w).alloc (.cells #[.int .i64 k, .int .i64 n] 195)).trans hf1 (fun i _ h => h.elim)); have hs1 : w.heap.size < w1.heap.size := blk_lt hB1; clear hf1 hB1))
  all_goals
    go_returns
    refine ⟨?_, HF1.out⟩
    show Ending.returned (Value.bool _) = Ending.returned (Value.bool _)
    congr 2
    rw [HB.out, Bool.eq_iff_iff]
    simp [ordB]
    first | omega | (simp_all; omega) | simp_all

/-! ### strings.Cut by one byte -/
set_option maxRecDepth 100000 in
set_option maxHeartbeats 1000000 in
theorem cutl_calls (s : ByteArray) (c : UInt8) (w : World) (hs : s.size ≤ 1000000) :
    Calls Tryz.prog 158 #[.string s, .string ⟨#[c]⟩] w fun e w' => e = .returned (.tuple #[.string ⟨(Lib.cut s.data.toList [c]).1.toArray⟩, .string ⟨(Lib.cut s.data.toList [c]).2.1.toArray⟩, .bool (Lib.cut s.data.toList [c]).2.2]) ∧ Fr nope w w' := by
  have hsep : (⟨#[c]⟩ : ByteArray).data.toList = [c] := rfl
  have hsz : (⟨#[c]⟩ : ByteArray).size = 1 := rfl
  rcases Lib.indexB_cases s ⟨#[c]⟩ with hix | ⟨i, hix, hroom⟩
  · obtain ⟨e1, e2, e3⟩ := Lib.cutB_miss s ⟨#[c]⟩ hix
    rw [hsep] at e1 e2 e3
    rw [e1, e2, e3]
    have hi : Lib.indexByte s.data.toList c = -1 := by rw [← Lib.index_one]; exact hix
    clear hix e1 e2 e3
    go_enter Tryz.func158, Tryz.ntmps158
    go_wp2_with (go_at_call 176; refine (Tryz.stringslite_Index_one s c _).mono ?_; rintro e w1 ⟨rfl, hw⟩; have hw := hw.symm; subst hw; rw [hi])
    go_returns
    exact ⟨rfl, Fr.refl _ _⟩
  · obtain ⟨e1, e2, e3⟩ := Lib.cutB_hit s ⟨#[c]⟩ i hix
    rw [hsep] at e1 e2 e3
    rw [e1, e2, e3]
    rw [hsz] at hroom ⊢
    have hi : Lib.indexByte s.data.toList c = i := by rw [← Lib.index_one]; exact hix
    clear hix e1 e2 e3
    have c1 : (0 : Int) ≤ ↑i := by omega
    have c2 : (↑i : Int) ≤ ↑s.size := by omega
    have c3 : (0 : Int) ≤ ↑i + 1 := by omega
    have c4 : (↑i + 1 : Int) ≤ ↑s.size := by omega
    go_enter Tryz.func158, Tryz.ntmps158
    go_wp2_with (go_at_call 176; refine (Tryz.stringslite_Index_one s c _).mono ?_; rintro e w1 ⟨rfl, hw⟩; have hw := hw.symm; subst hw; rw [hi])
    go_quiet (fail)
    go_wp2
    go_returns
    exact ⟨rfl, (Fr.refl _ _).drewN _⟩
theorem cut_calls (s : ByteArray) (c : UInt8) (w : World) (hs : s.size ≤ 1000000) :
    Calls Tryz.prog 139 #[.string s, .string ⟨#[c]⟩] w fun e w' => e = .returned (.tuple #[.string ⟨(Lib.cut s.data.toList [c]).1.toArray⟩, .string ⟨(Lib.cut s.data.toList [c]).2.1.toArray⟩, .bool (Lib.cut s.data.toList [c]).2.2]) ∧ Fr nope w w' := by
  go_enter Tryz.func139, Tryz.ntmps139
  go_wp2_with (go_at_call 158; refine (cutl_calls s c _ hs).mono ?_; rintro e w1 ⟨rfl, hf1⟩; have HF1 := Aside0.mk hf1; clear hf1)
  go_returns
  exact ⟨rfl, HF1.out⟩
end Go.Proofs.YtfkamoiamebngaaGreatDoor.BroW

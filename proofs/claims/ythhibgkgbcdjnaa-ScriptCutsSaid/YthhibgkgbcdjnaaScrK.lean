/- ScriptCuts: what is cut off, and one event more. -/
import Derived.Test.YthhibgkgbcdjnaaScrM
import Derived.Deep.DrawnRows
import Derived.Deep.AppendLies
namespace Go.Proofs.Ythhibgkgbcdjnaa.ScrW
open Go.RowKit Go.Proofs.YthhibgkgbcdjnaaW.PrintWords Go.Proofs.YthhibgkgbcdjnaaW.PrintMore Go.Proofs.Ythhibgkgbcdjnaa.Fr Go.Proofs.Ythhibgkgbcdjnaa.ScrP Go.Proofs.Ythhibgkgbcdjnaa.Openers
set_option linter.unusedVariables false
set_option linter.unusedSimpArgs false

namespace Cut
theorem law13_calls (c : Cf) (w : World) : Calls Try.prog 9 #[cfV c] w fun e w' => e = .returned (.bool (cfB c)) ∧ Fr nope w w' :=
  (ConfW.right_calls c.a0 c.a1 c.a2 c.a3 c.a4 c.a5 c.a6 c.a7 w).mono fun e w' h => ⟨h.1, Fr.of_below h.2⟩
theorem readsEv_fr {W W1 : World} {A : Option Addr} {L : List Ev} (h : ReadsEv W A L) (hF : Fr nope W W1) : ReadsEv W1 A L := by
  refine ⟨h.1, fun h0 => ?_⟩
  obtain ⟨ad, rfl, hcs⟩ := h.2 h0
  have back : ∀ {a : Addr} {v : Value}, W.cell? a = some v → W1.cell? a = some v := fun {a v} h => by
    rw [World.cell?_of_block (hF.block _ (World.block_lt_of_cell? W _ h) (fun h => h))]; exact h
  refine ⟨ad, rfl, fun j hj => ?_⟩
  obtain ⟨h0, h1, h2, h3, h4⟩ := hcs j hj
  exact ⟨back h0, back h1, back h2, back h3, h4⟩
theorem frT {a b c : World} (h : Fr nope a b) (k : Fr nope b c) : Fr nope a c := h.trans k (fun i hi h => h.elim)
theorem readsEv_take {W : World} {A : Option Addr} {L : List Ev} (h : ReadsEv W A L) (j : Nat) : ReadsEv W A (L.take j) := by
  refine ⟨by have := h.1; rw [List.length_take]; omega, fun h0 => ?_⟩
  rw [List.length_take] at h0
  obtain ⟨ad, rfl, hcs⟩ := h.2 (by omega)
  refine ⟨ad, rfl, fun i hi => ?_⟩
  rw [List.length_take] at hi
  have he : (L.take j).getD i ev0 = L.getD i ev0 := by
    simp only [List.getD_eq_getElem?_getD, List.getElem?_take]
    rw [if_pos (by omega)]
  rw [he]
  exact hcs i (by omega)
/-- list[:j] -/
theorem take_slice (A : Option Addr) (n c j : Nat) (h : j ≤ n) (hc : n ≤ c) : ∀ W : World, (Instr.slice 24 (.slice A n c) none (some (.int .i64 (j : Int))) none).run Try.prog W = .ok (.slice A j c) W := by
  intro W
  obtain ⟨i, hi, hz⟩ := Option.map_eq_some_iff.1 infoEv
  simp only [Prod.mk.injEq] at hz
  have ht := Try.underlying24
  have hel : Program.elem Try.prog 24 = 30 := by simp [Program.elem, ht]
  have hu : Program.underlying Try.prog 24 = some (.slice (Program.elem Try.prog 24)) := by rw [hel]; exact ht
  have ha : (A.map fun x => x.add 0) = A := by cases A <;> simp [Addr.add]
  rw [run_slice_h W 24 A n c hu .i64 (j : Int) (by omega) (by omega), hel]
  simp [sizeOf, typeInfo, hi, hz.2.1, sliced, Result.andThen, ha]
/-- what is cut off -/
theorem decGo_cut2 : ∀ (L : List Ev) (fuel : Nat) (pre : List Int) (out : List Ev) (k : Nat), (∀ e ∈ L, evB e = true) → k < pre.length + 7 * fuel → out.length + L.length ≤ 8192 → pre.length ≤ k → k ≤ (pre ++ flat L).length →
    ∃ j x at_, j ≤ L.length ∧ decGo fuel ((pre ++ flat L).take k) pre.length out = (out ++ L.take j, at_, x) ∧ (x = 0 ∨ x = 5) ∧ (x = 0 → at_ = k)
  | [], fuel, pre, out, k, _, _, _, h1, h2 => by
    rw [flat_nil, List.append_nil] at h2 ⊢
    have : k = pre.length := by omega
    subst this
    refine ⟨0, 0, pre.length, Nat.zero_le _, ?_, .inl rfl, fun _ => rfl⟩
    rw [List.take_length, decGo_end fuel pre pre.length out (by omega)]
    simp
  | e :: L, 0, pre, out, k, _, hf, _, h1, _ => by omega
  | e :: L, fuel + 1, pre, out, k, h, hf, ho, h1, h2 => by
    simp only [List.length_cons] at ho
    have hp := evBytes_pos e
    have hlk : ((pre ++ flat (e :: L)).take k).length = k := by rw [List.length_take]; omega
    by_cases hk0 : k = pre.length
    · subst hk0
      refine ⟨0, 0, pre.length, Nat.zero_le _, ?_, .inl rfl, fun _ => rfl⟩
      rw [decGo_end (fuel + 1) _ pre.length out (by omega)]
      simp
    have hd : ((pre ++ flat (e :: L)).take k).drop pre.length = (evBytes e ++ flat L).take (k - pre.length) := by
      rw [List.drop_take, List.drop_left, flat_cons]
    by_cases hs : k - pre.length < 7 + e.d.size
    · refine ⟨0, 5, pre.length, Nat.zero_le _, ?_, .inr rfl, by omega⟩
      rw [decGo_bad fuel _ pre.length out 5 (by omega) (by rw [hd, one_cut e _ (h e (by simp)) _ hs]) (by decide)]
      simp
    · have ht : (evBytes e ++ flat L).take (k - pre.length) = evBytes e ++ (flat L).take (k - pre.length - (7 + e.d.size)) := by
        rw [List.take_append, List.take_of_length_le (by rw [evBytes_len]; omega), evBytes_len]
      have h3 := one_enc e ((flat L).take (k - pre.length - (7 + e.d.size))) (h e (by simp))
      rw [decGo_step fuel _ pre.length out e (7 + e.d.size) (by omega) (by rw [hd, ht]; exact h3) (by omega)]
      obtain ⟨j, x, at_, hj, hr, hx, hx0⟩ := decGo_cut2 L fuel (pre ++ evBytes e) (out ++ [e]) k (fun x hx => h x (by simp [hx])) (by rw [List.length_append, evBytes_len]; omega) (by simp; omega) (by rw [List.length_append, evBytes_len]; omega) (by rw [List.append_assoc, ← flat_cons]; exact h2)
      refine ⟨j + 1, x, at_, by simp; omega, ?_, hx, hx0⟩
      rw [List.append_assoc, ← flat_cons, List.length_append, evBytes_len] at hr
      rw [hr, List.append_assoc]
      rfl

/-- what comes of bytes that are cut off -/
theorem dec_cut (c : Cf) (L : List Ev) (hc : cfB c = true) (hL : ∀ e ∈ L, evB e = true) (h8 : L.length ≤ 8192) (hl : (encB c L).length ≤ 262144) (k : Nat) (hk : k ≤ (encB c L).length) :
    ∃ c1 j x at_, j ≤ L.length ∧ decP ((encB c L).take k) = (c1, L.take j, at_, x) ∧ (x = 0 ∨ x = 5) ∧ (x = 0 → at_ = k) := by
  have hlk : ((encB c L).take k).length = k := by rw [List.length_take]; omega
  by_cases h24 : k < 24
  · exact ⟨cf0, 0, 5, 0, Nat.zero_le _, by unfold decP; rw [if_neg (by omega), if_pos (by omega)]; simp, .inr rfl, by omega⟩
  · have ht : (encB c L).take k = cfBytes c ++ (flat L).take (k - 24) := by
      rw [encB_eq, List.take_append, cfBytes_len, List.take_of_length_le (by rw [cfBytes_len]; omega)]
    have hcf : cfOf ((encB c L).take k) = c := by rw [ht]; exact cfOf_enc c _ hc
    obtain ⟨j, x, at_, hj, hr, hx, hx0⟩ := decGo_cut2 L k (cfBytes c) [] k hL (by rw [cfBytes_len]; omega) (by simpa using h8) (by rw [cfBytes_len]; omega) (by rw [← encB_eq]; exact hk)
    refine ⟨c, j, x, at_, hj, ?_, hx, hx0⟩
    unfold decP
    rw [if_neg (by omega), if_neg (by omega), hcf, if_pos hc, hlk]
    rw [cfBytes_len, ← encB_eq] at hr
    rw [hr]
    rfl
theorem evs_append' (L M : List Ev) : evs (L ++ M) = evs L ++ evs M := by simp [evs]
theorem own_ev_empty (w : World) (H b : Nat) (hH : w.heap.size = H) (hb : b ≤ H) : OwnsEv b (w.alloc (.cells #[] 30)) (.slice (some ⟨H, 0, none⟩) 0 0) [] := by
  subst hH
  exact ⟨rfl, .inr ⟨w.heap.size, 0, #[], rfl, hb, heap_alloc_new w _, Nat.le_refl _, by simp [maxLen], rfl, rfl⟩⟩
theorem own_ev_alloc {b : Nat} {w : World} {v : Value} {L : List Ev} (h : OwnsEv b w v L) (o : Obj) : OwnsEv b (w.alloc o) v L := by
  unfold OwnsEv at *
  exact h.alloc o
theorem own_reads_ev {b : Nat} {w : World} {A : Option Addr} {n c : Nat} {L : List Ev} (h : OwnsEv b w (.slice A n c) L) (hd : ∀ e ∈ L, e.d.size ≤ 140737488351232) (hl : L.length ≤ 140737488351232) : ReadsEv w A L := by
  obtain ⟨A1, c1, e, _, h2⟩ := own_readsEv h hd hl
  injection e with e1 _ _
  rw [e1]
  exact h2
theorem own_ev_drew {b : Nat} {w : World} {v : Value} {L : List Ev} (h : OwnsEv b w v L) : OwnsEv b w.drew v L := h
theorem blk_second (w : World) (o o1 : Obj) : ((w.alloc o).alloc o1).heap[w.heap.size + 1]? = some o1 := by
  rw [← World.size_alloc w o]; exact blk_new _ _
/-- append of a row of events that is read, onto a row of events of the call's own: at a step of a region that draws its order -/
theorem step_app_ev {P : Program} {w : World} {ops : Array Oper} {o : Oper} {a : Act} {K : Act → World → Prop} {Q : Exit → Act → World → Prop} {E : Prop} (hgd : o.guard = none) (s x : Operand) (t : TypeId)
    (ho : o.op = .call { callee := .builtin .append, args := #[s, x], argTypes := #[t, t] }) (ht : P.underlying t = some (.slice 30)) (hinfo : (P.info? 30).map (fun i => (i.zero, i.size, i.bytes)) = some (some (evV ev0), 4, 40))
    (base : Nat) (v : Value) (L M : List Ev) (A : Option Addr) (m c : Nat) (hm : M.length = m) (hs : a.eval s = v) (hx : a.eval x = .slice A m c)
    (hown : OwnsEv base w v L) (hr : ReadsEv w A M) (hlen : L.length + m ≤ 100000) (hbase : base ≤ w.heap.size)
    (h : ∀ A1 c1 w', OwnsEv base w' (.slice A1 (L ++ M).length c1) (L ++ M) → w.grownBy w' v.ownBlock → K (a.put o.dst (.slice A1 (L ++ M).length c1)) w') :
    if Region.wanted o (yielded ops a.tmps) = true then Oper.wp P o a w K Q else E := by
  subst hm
  have hw : Region.wanted o (yielded ops a.tmps) = true := by simp [Region.wanted, hgd]
  rw [if_pos hw]
  obtain ⟨i0, hi, hzz⟩ := Option.map_eq_some_iff.1 hinfo
  simp only [Prod.mk.injEq] at hzz
  obtain ⟨hz0, hz1, hz2⟩ := hzz
  have hrun : ∃ A1 c1 w1, (Builtin.append_ #[t, t] o.type #[v, .slice A M.length c]).run P w = .ok (.slice A1 (L ++ M).length c1) w1 ∧ OwnsEv base w1 (.slice A1 (L ++ M).length c1) (L ++ M) ∧ w.grownBy w1 v.ownBlock := by
    rcases A with _ | ad
    · have h0 : M.length = 0 := by
        rcases Nat.eq_zero_or_pos M.length with h0 | h0
        · exact h0
        · obtain ⟨ad, h, _⟩ := hr.2 h0
          cases h
      obtain rfl : M = [] := List.eq_nil_of_length_eq_zero h0
      rw [List.append_nil]
      obtain ⟨A1, c1, rfl⟩ := own_slice hown
      refine ⟨A1, c1, w, ?_, hown, World.grownBy.refl w _⟩
      rcases hown.2 with ⟨hv, hn⟩ | ⟨g, cap, cur, hv, _, _, hnc, _⟩
      · simp only [Value.slice.injEq] at hv
        obtain ⟨rfl, _, rfl⟩ := hv
        rw [hn]
        simp [Builtin.append_, run_underlying ht, sizeOf, typeInfo, hi, Builtin.lenOf, Builtin.firstCells]
      · simp only [Value.slice.injEq] at hv
        obtain ⟨rfl, _, rfl⟩ := hv
        simp [Builtin.append_, run_underlying ht, sizeOf, typeInfo, hi, Builtin.lenOf, Builtin.firstCells, hnc, storeCells]
    · have hcells : ∀ j u, (evs M)[j]? = some u → w.cell? (ad.add j) = some u := by
        intro j u hu
        have hj : j < (evs M).length := by
          rcases Nat.lt_or_ge j (evs M).length with h | h
          · exact h
          · rw [List.getElem?_eq_none h] at hu; cases hu
        rw [evs_len] at hj
        obtain ⟨ad', h', hc⟩ := hr.2 (by omega)
        injection h' with h'
        subst h'
        have hq : j = j / 4 * 4 + j % 4 := by omega
        obtain ⟨h0, h1, h2, h3, _⟩ := hc (j / 4) (by omega)
        have he := evs_at M (j / 4) (j % 4) (by omega) (by omega)
        rw [← hq, hu] at he
        have h4 : j % 4 = 0 ∨ j % 4 = 1 ∨ j % 4 = 2 ∨ j % 4 = 3 := by omega
        rcases h4 with h4 | h4 | h4 | h4
        all_goals (rw [h4] at he hq; rw [hq])
        · rw [Nat.add_zero]; exact h0.trans he.symm
        · exact h1.trans he.symm
        · exact h2.trans he.symm
        · exact h3.trans he.symm
      obtain ⟨v1, w1, hr, h2, h3, _, _⟩ := run_append_own_at (P := P) w base t o.type 30 i0 (evV ev0) 4 40 ht hi hz0 hz1 hz2 rfl (by decide) v L.length (evs L) hown ad M.length c (evs M) (evs_len M) hcells
        (by
          intro u hu
          simp only [evs, List.mem_flatten, List.mem_map] at hu
          obtain ⟨l, ⟨e, _, rfl⟩, hu⟩ := hu
          exact evC_one e u hu) (by simp only [maxLen]; omega) (by omega) hbase
      rw [← evs_append', ← List.length_append] at h2
      obtain ⟨A1, c1, rfl⟩ := own_slice h2
      exact ⟨A1, c1, w1, hr, h2, h3⟩
  obtain ⟨A1, c1, w1, hr1, h2, h3⟩ := hrun
  unfold Oper.wp execOp
  simp only [ho, resolve, invoke, builtin, Sem.run_bind, Sem.run_pure, Result.andThen_ok, List.map_toArray, List.map_cons, List.map_nil, hs, hx, hr1]
  exact h A1 c1 w1 h2 h3

theorem take_bytes (A : Option Addr) (n c j : Nat) (h : j ≤ n) (hc : n ≤ c) : ∀ W : World, (Instr.slice 32 (.slice A n c) none (some (.int .i64 (j : Int))) none).run Try.prog W = .ok (.slice A j c) W := by
  intro W
  obtain ⟨i, hi, hz⟩ := Option.map_eq_some_iff.1 info5
  simp only [Prod.mk.injEq] at hz
  have ht := Try.underlying32
  have hel : Program.elem Try.prog 32 = 5 := by simp [Program.elem, ht]
  have hu : Program.underlying Try.prog 32 = some (.slice (Program.elem Try.prog 32)) := by rw [hel]; exact ht
  have ha : (A.map fun x => x.add 0) = A := by cases A <;> simp [Addr.add]
  rw [run_slice_h W 32 A n c hu .i64 (j : Int) (by omega) (by omega), hel]
  simp [sizeOf, typeInfo, hi, hz.2.1, sliced, Result.andThen, ha]
theorem cut_at (cut : Int) (n : Nat) (hn : n ≤ 100000) : ∃ k : Nat, wrap64 ((IntKind.u64.wrap cut).tmod ((n : Int) + 1)) = (k : Int) ∧ k ≤ n := by
  have h0 : 0 ≤ IntKind.u64.wrap cut := by rw [IntKind.wrap_u64]; omega
  have h1 : (IntKind.u64.wrap cut).tmod ((n : Int) + 1) = (IntKind.u64.wrap cut) % ((n : Int) + 1) := Int.tmod_eq_emod_of_nonneg h0
  have h2 := Int.emod_nonneg (IntKind.u64.wrap cut) (show ((n : Int) + 1) ≠ 0 by omega)
  have h3 := Int.emod_lt_of_pos (IntKind.u64.wrap cut) (show 0 < (n : Int) + 1 by omega)
  rw [h1]
  generalize (IntKind.u64.wrap cut) % ((n : Int) + 1) = r at *
  refine ⟨r.toNat, ?_, by omega⟩
  unfold wrap64
  omega
attribute [local go_sem ↓] Go.wp_at_zero Go.wp_at_succ
set_option maxHeartbeats 4000000 in
set_option maxRecDepth 100000 in
theorem scriptCuts_walk (c : Cf) (L : List Ev) (A : Option Addr) (cp : Nat) (m : Ev) (cut : Int) (w : World) (hr : ReadsEv w A L) (hcp : L.length ≤ cp) :
    Calls Try.prog 5 #[cfV c, .slice A L.length cp, evV m, .int .i64 cut] w fun e w' => e = .returned (.bool true) ∧ Fr nope w w' := by
  unfold cfV evV
  have hlm := hr.1
  have HR := Aside0.mk hr
  clear hr
  have HC : Aside0 (((w.alloc (.cells (cfCells c) 23)).alloc (.cells #[.int .i64 m.k, .int .i64 m.i, .int .i64 m.n, .string m.d] 30)).heap[w.heap.size]? = some (.cells (cfCells c) 23 (0, 0))) := ⟨blk_alloc (blk_new _ _) _⟩
  have HM : Aside0 (((w.alloc (.cells (cfCells c) 23)).alloc (.cells #[.int .i64 m.k, .int .i64 m.i, .int .i64 m.n, .string m.d] 30)).heap[w.heap.size + 1]? = some (.cells #[.int .i64 m.k, .int .i64 m.i, .int .i64 m.n, .string m.d] 30 (0, 0))) := ⟨by rw [← World.size_alloc w (.cells (cfCells c) 23)]; exact blk_new _ _⟩
  have HF0 : Aside0 (Fr nope w ((w.alloc (.cells (cfCells c) 23)).alloc (.cells #[.int .i64 m.k, .int .i64 m.i, .int .i64 m.n, .string m.d] 30))) := ⟨((Fr.refl _ _).alloc _).alloc _⟩
  go_enter Try.func5, Try.ntmps5
  go_wp2_with (first | (go_at_call 7; refine (head_calls _).mono ?_; rintro e1 w1 ⟨rfl, hf1⟩; have HF1 : Aside0 (Fr nope ((w.alloc (.cells (cfCells c) 23)).alloc (.cells #[.int .i64 m.k, .int .i64 m.i, .int .i64 m.n, .string m.d] 30)) w1) := ⟨hf1⟩; clear hf1))
  go_at_call 8
  refine (few_calls L A cp w1 (readsEv_fr HR.out (frT HF0.out HF1.out))).mono ?_
  rintro e2 w2 ⟨b, rfl, hfew, hb2⟩
  have HF2 : Aside0 (Fr nope ((w.alloc (.cells (cfCells c) 23)).alloc (.cells #[.int .i64 m.k, .int .i64 m.i, .int .i64 m.n, .string m.d] 30)) w2) := ⟨frT HF1.out (Fr.of_below hb2)⟩
  clear hb2 HF1
  cases b
  · clear hfew
    go_wp2
    go_returns
    exact ⟨rfl, frT HF0.out HF2.out⟩
  have H120 : Aside0 (L.length ≤ 120 ∧ sz L ≤ 6000) := ⟨hfew rfl⟩
  have hB2 := HF2.out.blk HC.out (fun h => h)
  obtain ⟨c0, c1, c2, c3, c4, c5, c6, c7⟩ := cells8 hB2
  clear hfew hB2
  by_cases hcb : cfB c = true
  case neg =>
    have hcf : cfB c = false := by simpa using hcb
    clear hcb
    go_wp2_with (first | (go_at_call 9; refine (law13_calls c _).mono ?_; rintro e3 w3 ⟨rfl, hf3⟩; rw [hcf]; have HF3 := Aside0.mk (frT HF2.out hf3); clear hf3))
    go_returns
    exact ⟨rfl, frT HF0.out HF3.out⟩
  have HCB := Aside0.mk hcb
  by_cases hmb : evB m = true
  case neg =>
    have hmf : evB m = false := by simpa using hmb
    clear hmb
    go_wp2_with (first | (go_at_call 9; refine (law13_calls c _).mono ?_; rintro e3 w3 ⟨rfl, hf3⟩; rw [hcb]; have HF3 := Aside0.mk (frT HF2.out hf3); have hM3 := HF3.out.blk HM.out (fun h => h); have m0 : w3.cell? ⟨w.heap.size + 1, 0, none⟩ = some (.int .i64 m.k) := (blk_cell hM3 0).trans rfl; have m1 : w3.cell? ⟨w.heap.size + 1, 1, none⟩ = some (.int .i64 m.i) := (blk_cell hM3 1).trans rfl; have m2 : w3.cell? ⟨w.heap.size + 1, 2, none⟩ = some (.int .i64 m.n) := (blk_cell hM3 2).trans rfl; have m3 : w3.cell? ⟨w.heap.size + 1, 3, none⟩ = some (.string m.d) := (blk_cell hM3 3).trans rfl; clear hf3 hM3) | (go_at_call 11; refine (lawRight_calls m _).mono ?_; rintro e4 w4 ⟨rfl, hw4⟩; rw [hmf]; have HF4 := Aside0.mk (HF3.out.below hw4); clear hw4))
    go_returns
    exact ⟨rfl, frT HF0.out HF4.out⟩
  have HMB := Aside0.mk hmb
  go_wp2_with (first | (go_at_call 9; refine (law13_calls c _).mono ?_; rintro e3 w3 ⟨rfl, hf3⟩; rw [hcb]; have HF3 := Aside0.mk (frT HF2.out hf3); have hM3 := HF3.out.blk HM.out (fun h => h); have m0 : w3.cell? ⟨w.heap.size + 1, 0, none⟩ = some (.int .i64 m.k) := (blk_cell hM3 0).trans rfl; have m1 : w3.cell? ⟨w.heap.size + 1, 1, none⟩ = some (.int .i64 m.i) := (blk_cell hM3 1).trans rfl; have m2 : w3.cell? ⟨w.heap.size + 1, 2, none⟩ = some (.int .i64 m.n) := (blk_cell hM3 2).trans rfl; have m3 : w3.cell? ⟨w.heap.size + 1, 3, none⟩ = some (.string m.d) := (blk_cell hM3 3).trans rfl; clear hf3 hM3) | (go_at_call 11; refine (lawRight_calls m _).mono ?_; rintro e4 w4 ⟨rfl, hw4⟩; rw [hmb]; have HF4 := Aside0.mk (HF3.out.below hw4); clear hw4))
  clear HF2 HF3 m0 m1 m2 m3 c0 c1 c2 c3 c4 c5 c6 c7
  go_loopw [35] (fun v35 wr => ∃ (k : Nat), v35 = .int .i64 k ∧ k ≤ L.length ∧ Aside0 (∀ e ∈ L.take k, evB e = true) ∧ Aside0 (Fr nope ((w.alloc (.cells (cfCells c) 23)).alloc (.cells #[.int .i64 m.k, .int .i64 m.i, .int .i64 m.n, .string m.d] 30)) wr)) (fun i _ => L.length - (intOf i).toNat)
  case atStart => exact ⟨0, rfl, Nat.zero_le _, ⟨fun e h => by simp at h⟩, HF4⟩
  case round =>
    clear HF4
    obtain ⟨k, rfl, hk, HE, HF⟩ := hrel
    by_cases hlt : k < L.length
    · obtain ⟨e, he⟩ : ∃ e, L.getD k ev0 = e := ⟨_, rfl⟩
      obtain ⟨ad, rfl, g0, g1, g2, g3, hsz⟩ := evCells HR.out k hlt e he (frT HF0.out HF.out)
      have HMT := Aside0.mk (mem_take_succ L k hlt e he)
      clear he
      by_cases hev : evB e = true
      · have HE4 : Aside0 (∀ x ∈ L.take (k + 1), evB x = true) := ⟨fun x hx => by
          rcases (HMT.out x).1 hx with hx | hx
          · exact HE.out x hx
          · rw [hx]; exact hev⟩
        go_wp2_with (first | (go_at_call 11; refine (lawRight_calls e _).mono ?_; rintro e4 w4 ⟨rfl, hw4⟩; rw [hev]; have HF4 := Aside0.mk ((HF.out.alloc _).below hw4); clear hw4))
        case roundEnd =>
          refine ⟨⟨k + 1, by push_cast; rfl, hlt, HE4, HF4⟩, ?_⟩
          simp only [intOf]
          omega
      · have hevf : evB e = false := by simpa using hev
        clear hev
        go_wp2_with (first | (go_at_call 11; refine (lawRight_calls e _).mono ?_; rintro e4 w4 ⟨rfl, hw4⟩; rw [hevf]; have HF4 := Aside0.mk ((HF.out.alloc _).below hw4); clear hw4))
        go_returns
        exact ⟨rfl, frT HF0.out HF4.out⟩
    · have hkl : k = L.length := by omega
      have HL : Aside0 (∀ e ∈ L, evB e = true) := ⟨by have := HE.out; rw [hkl, List.take_length] at this; exact this⟩
      have hB2 := HF.out.blk HC.out (fun h => h)
      obtain ⟨c0, c1, c2, c3, c4, c5, c6, c7⟩ := cells8 hB2
      obtain ⟨E, hE⟩ : ∃ E, encB c L = E := ⟨_, rfl⟩
      have HEE := Aside0.mk hE
      have hEl : E.length ≤ 100000 := by
        rw [← hE, encB_eq, List.length_append, cfBytes_len, flat_len]
        have := H120.out
        omega
      obtain ⟨kk, hkk, hkl2⟩ := cut_at cut E.length hEl
      obtain ⟨cc, j, x, at_, hj, hdec, hx, hx0⟩ := dec_cut c L HCB.out HL.out (by have := H120.out; omega) (by rw [hE]; omega) kk (by rw [hE]; exact hkl2)
      rw [hE] at hdec
      obtain ⟨M, hM⟩ : ∃ M, L.take j = M := ⟨_, rfl⟩
      rw [hM] at hdec
      have hMl : M.length ≤ L.length := by rw [← hM, List.length_take]; omega
      have HMT := Aside0.mk hM
      have HRM : Aside0 (ReadsEv w A M) := ⟨by rw [← hM]; exact readsEv_take HR.out j⟩
      have HDEC := Aside0.mk hdec
      obtain ⟨i5, hi5, hz5⟩ := Option.map_eq_some_iff.1 info5
      simp only [Prod.mk.injEq] at hz5
      have HI5 := Aside0.mk (And.intro hi5 hz5.2.1)
      obtain ⟨F, hF⟩ : ∃ F, E.take kk = F := ⟨_, rfl⟩
      rw [hF] at HDEC
      have hFl : F.length = kk := by rw [← hF, List.length_take]; omega
      have HFE := Aside0.mk (And.intro hF hFl)
      have hFE : isB F := by rw [← hF, ← hE]; exact fun x hx => isB_enc c L x (List.mem_of_mem_take hx)
      have HFB := Aside0.mk hFE
      have ht1 : decide ((L.length : Int) < (M.length : Int)) = false := decide_eq_false (by omega)
      have hsl := take_slice A L.length cp M.length hMl hcp
      clear hB2 hkl hk hE hj hdec hM hi5 hz5 hF hFl hFE
      rcases hx with rfl | rfl
      · obtain rfl : kk = at_ := (hx0 rfl).symm
        clear hx0
        go_wp2_with (first | (go_at_call 14; refine (bytes_calls c L A cp _ (readsEv_fr HR.out (frT HF0.out HF.out)) HCB.out HL.out (by have := H120.out.1; omega) (by have := H120.out.2; omega)).mono ?_; rintro e5 w5 ⟨v5, rfl, hf5, ho5⟩; rw [HEE.out] at ho5; obtain ⟨A5, c5', rfl, h51, h52, hr5⟩ := owns_reads ho5; have HF5 := Aside0.mk (frT HF.out hf5); have HR5 := Aside0.mk hr5; have hts := take_bytes A5 E.length c5' kk hkl2 h51; clear hf5 ho5 hr5 c0 c1 c2 c3 c4 c5 c6 c7) | (go_at_call 13; have hq := decode_calls F A5 c5' w5 (by have := HFE.out.2; omega) h52 (by have h := HR5.out.take_ kk hkl2; rw [HFE.out.1] at h; rw [HFE.out.2]; exact h) HFB.out; rw [HFE.out.2] at hq; (with_reducible refine hq.mono ?_); clear hq; rintro e6 w6 ⟨v6, rfl, hf6, ho6⟩; rw [HDEC.out] at ho6; rw [HDEC.out]; obtain ⟨B6, d6, rfl, h61, hr6⟩ := own_readsEv ho6 (fun e he => by have := (evB_facts (HL.out e (List.mem_of_mem_take (by rw [HMT.out]; exact he)))).2.2.2; omega) (by show M.length ≤ _; omega); unfold cfV; have HF6 := Aside0.mk (frT HF5.out hf6); have HR6 : Aside0 (ReadsEv w6 B6 M) := ⟨hr6⟩; clear hf6 ho6 hr6) | (go_at_call 15; refine (same_calls M B6 A d6 cp _ (readsEv_fr HR6.out ((Fr.refl _ _).alloc _)) (readsEv_fr HRM.out (frT HF0.out (HF6.out.alloc _)))).mono ?_; rintro e7 w7 ⟨rfl, hf7⟩; have HF7 := Aside0.mk (frT (HF6.out.alloc _) hf7); clear hf7))
        have HK : Aside0 (∀ w', Fr nope w7 w' → Fr nope w7 w' ∧ w'.cell? ⟨w.heap.size + 1, 0, none⟩ = some (.int .i64 m.k) ∧ w'.cell? ⟨w.heap.size + 1, 1, none⟩ = some (.int .i64 m.i) ∧ w'.cell? ⟨w.heap.size + 1, 2, none⟩ = some (.int .i64 m.n) ∧ w'.cell? ⟨w.heap.size + 1, 3, none⟩ = some (.string m.d)) := ⟨fun w' hF => by
          have hb := (frT HF7.out hF).blk HM.out (fun h => h)
          exact ⟨hF, (blk_cell hb 0).trans rfl, (blk_cell hb 1).trans rfl, (blk_cell hb 2).trans rfl, (blk_cell hb 3).trans rfl⟩⟩
        have HR7 : Aside0 (ReadsEv w7 A L) := ⟨readsEv_fr HR.out (frT HF0.out HF7.out)⟩
        have hmd : m.d.size ≤ 140737488351232 := by have := (evB_facts HMB.out).2.2.2; omega
        have hL120 := H120.out.1
        go_region_held3 (fun w' => Fr nope w7 w' ∧ w'.cell? ⟨w.heap.size + 1, 0, none⟩ = some (.int .i64 m.k) ∧ w'.cell? ⟨w.heap.size + 1, 1, none⟩ = some (.int .i64 m.i) ∧ w'.cell? ⟨w.heap.size + 1, 2, none⟩ = some (.int .i64 m.n) ∧ w'.cell? ⟨w.heap.size + 1, 3, none⟩ = some (.string m.d))
          (first | exact HK.out _ (Fr.refl nope w7).drew | exact HK.out _ ((Fr.refl nope w7).drew.alloc _) | exact HK.out _ ((Fr.refl nope w7).alloc _).drew | exact HK.out _ (((Fr.refl nope w7).alloc _).alloc _).drew | exact HK.out _ (((Fr.refl nope w7).alloc _).drew.alloc _) | exact HK.out _ hf9 | exact HK.out _ (hf9.alloc _) | exact HK.out _ hf10 | fail)
          (first | (refine step_app_ev (w := (w7.alloc (.cells #[] 30)).drew) (by rfl) (.tmp 94) (.tmp 95) 24 (by rfl) Try.underlying24 infoEv w7.heap.size (.slice (some ⟨w7.heap.size, 0, none⟩) 0 0) [] L A L.length cp rfl (by rfl) (by rfl) (own_ev_drew (own_ev_empty w7 w7.heap.size w7.heap.size rfl (Nat.le_refl _))) (readsEv_fr HR7.out ((Fr.refl nope w7).alloc (.cells #[] 30)).drew) (by simp only [List.length_nil]; omega) (((Fr.refl nope w7).alloc (.cells #[] 30)).drew).size ?_; intro A9 c9 w9 ho9 hg9; rw [List.nil_append] at ho9; simp only [List.nil_append]; have hf9 : Fr nope w7 w9 := (((Fr.refl nope w7).alloc (.cells #[] 30)).drew).grown hg9 (fun b hb hlt => by simp [Value.ownBlock] at hb; omega); clear hg9) | (refine step_app_ev (w := ((w7.alloc (.cells #[] 30)).alloc (.cells #[.int .i64 m.k, .int .i64 m.i, .int .i64 m.n, .string m.d] 30)).drew) (by rfl) (.tmp 94) (.tmp 95) 24 (by rfl) Try.underlying24 infoEv w7.heap.size (.slice (some ⟨w7.heap.size, 0, none⟩) 0 0) [] L A L.length cp rfl (by rfl) (by rfl) (own_ev_drew (own_ev_alloc (own_ev_empty w7 w7.heap.size w7.heap.size rfl (Nat.le_refl _)) _)) (readsEv_fr HR7.out (((Fr.refl nope w7).alloc (.cells #[] 30)).alloc (.cells #[.int .i64 m.k, .int .i64 m.i, .int .i64 m.n, .string m.d] 30)).drew) (by simp only [List.length_nil]; omega) ((((Fr.refl nope w7).alloc (.cells #[] 30)).alloc (.cells #[.int .i64 m.k, .int .i64 m.i, .int .i64 m.n, .string m.d] 30)).drew).size ?_; intro A9 c9 w9 ho9 hg9; rw [List.nil_append] at ho9; simp only [List.nil_append]; have hf9 : Fr nope w7 w9 := ((((Fr.refl nope w7).alloc (.cells #[] 30)).alloc (.cells #[.int .i64 m.k, .int .i64 m.i, .int .i64 m.n, .string m.d] 30)).drew).grown hg9 (fun b hb hlt => by simp [Value.ownBlock] at hb; omega); have hE8 := blk_grown (blk_drew (blk_second w7 (.cells #[] 30) (.cells #[.int .i64 m.k, .int .i64 m.i, .int .i64 m.n, .string m.d] 30))) hg9 (by simp [Value.ownBlock]); clear hg9) | (refine step_app_ev (w := ((w7.alloc (.cells #[.int .i64 m.k, .int .i64 m.i, .int .i64 m.n, .string m.d] 30)).alloc (.cells #[] 30)).drew) (by rfl) (.tmp 94) (.tmp 95) 24 (by rfl) Try.underlying24 infoEv w7.heap.size (.slice (some ⟨w7.heap.size + 1, 0, none⟩) 0 0) [] L A L.length cp rfl (by rfl) (by rfl) (own_ev_drew (own_ev_empty (w7.alloc (.cells #[.int .i64 m.k, .int .i64 m.i, .int .i64 m.n, .string m.d] 30)) (w7.heap.size + 1) w7.heap.size (by simp) (by omega))) (readsEv_fr HR7.out (((Fr.refl nope w7).alloc (.cells #[.int .i64 m.k, .int .i64 m.i, .int .i64 m.n, .string m.d] 30)).alloc (.cells #[] 30)).drew) (by simp only [List.length_nil]; omega) ((((Fr.refl nope w7).alloc (.cells #[.int .i64 m.k, .int .i64 m.i, .int .i64 m.n, .string m.d] 30)).alloc (.cells #[] 30)).drew).size ?_; intro A9 c9 w9 ho9 hg9; rw [List.nil_append] at ho9; simp only [List.nil_append]; have hf9 : Fr nope w7 w9 := ((((Fr.refl nope w7).alloc (.cells #[.int .i64 m.k, .int .i64 m.i, .int .i64 m.n, .string m.d] 30)).alloc (.cells #[] 30)).drew).grown hg9 (fun b hb hlt => by simp [Value.ownBlock] at hb; omega); have hE7 := blk_grown (blk_drew (blk_alloc (blk_new w7 (.cells #[.int .i64 m.k, .int .i64 m.i, .int .i64 m.n, .string m.d] 30)) (.cells #[] 30))) hg9 (by simp [Value.ownBlock]); clear hg9) | (refine step_app_ev (by rfl) (.tmp 96) (.tmp 98) 24 (by rfl) Try.underlying24 infoEv w7.heap.size _ L [m] _ 1 1 rfl (by rfl) (by rfl) (by first | exact ho9 | exact own_ev_alloc ho9 _) (by first | exact readsEv_one (blk_new w9 _) hmd | exact readsEv_one hE8 hmd | exact readsEv_one hE7 hmd) (by omega) (by first | exact hf9.size | exact (hf9.alloc _).size) ?_; intro A10 c10 w10 ho10 hg10; have hf10 : Fr nope w7 w10 := (by first | exact hf9.grown hg10 (fun b hb hlt => absurd (own_old ho9 hb).1 (by omega)) | exact (hf9.alloc _).grown hg10 (fun b hb hlt => absurd (own_old ho9 hb).1 (by omega))); clear hg10) | fail)
        all_goals
          have HF10 := Aside0.mk (frT HF7.out hf10)
          have HL10 : Aside0 (∀ e ∈ L ++ [m], evB e = true) := ⟨fun e he => by
            rcases List.mem_append.1 he with h | h
            · exact HL.out e h
            · rw [List.mem_singleton.1 h]; exact HMB.out⟩
          have HR10 : Aside0 (ReadsEv w10 A10 (L ++ [m])) := ⟨own_reads_ev ho10 (fun e he => by have := (evB_facts (HL10.out e he)).2.2.2; omega) (by rw [List.length_append, List.length_singleton]; omega)⟩
          have HS10 : Aside0 ((L ++ [m]).length ≤ 121 ∧ sz (L ++ [m]) ≤ 100000) := ⟨by
            have h1 := H120.out
            have h2 := (evB_facts HMB.out).2.2.2
            refine ⟨by rw [List.length_append, List.length_singleton]; omega, ?_⟩
            have h3 : sz (L ++ [m]) = sz L + m.d.size := by simp [sz]
            omega⟩
          have HE10 : Aside0 ((encB c (L ++ [m])).length = E.length + 7 + m.d.size) := ⟨by rw [← HEE.out, encB_eq, encB_eq, flat_append, flat_one]; simp only [List.length_append, evBytes_len]; omega⟩
          obtain ⟨c0, c1, c2, c3, c4, c5, c6, c7⟩ := cells8 (HF10.out.blk HC.out (fun h => h))
          clear hf9 hf10 ho9 ho10
          obtain ⟨G, hG⟩ : ∃ G, L ++ [m] = G := ⟨_, rfl⟩
          rw [hG] at HL10 HR10 HS10 HE10
          have HGL : Aside0 (G.length = L.length + 1) := ⟨by rw [← hG, List.length_append, List.length_singleton]⟩
          clear hG
          go_wp2_with (first | (go_at_call 14; have hq := bytes_calls c G A10 c10 w10 HR10.out HCB.out HL10.out (by have := HS10.out.1; omega) HS10.out.2; rw [HGL.out] at hq; unfold cfV at hq; (with_reducible refine hq.mono ?_); clear hq; rintro e11 w11 ⟨v11, rfl, hf11, ho11⟩; obtain ⟨A11, c11, rfl, h111, h112, hr11⟩ := owns_reads ho11; have HF11 := Aside0.mk (frT HF10.out hf11); have HFB := Aside0.mk hf11; have HR11 := Aside0.mk hr11; clear hf11 ho11 hr11 c0 c1 c2 c3 c4 c5 c6 c7) | (go_at_call 13; have hq := decode_good c G A11 c11 w11 HCB.out HL10.out (by have := HS10.out.1; omega) HS10.out.2 h111 h112 HR11.out; (with_reducible refine hq.mono ?_); clear hq; rintro e12 w12 ⟨B12, d12, rfl, hd12, hf12, hr12⟩; rw [HE10.out, HGL.out]; unfold cfV; have HF12 := Aside0.mk (frT HF11.out hf12); have HFD := Aside0.mk (frT HFB.out hf12); have HR12 := Aside0.mk hr12; clear hf12 hr12 hd12) | (go_at_call 15; have hq := same_calls G B12 A10 d12 c10 w12 HR12.out (readsEv_fr HR10.out HFD.out); rw [HGL.out] at hq; (with_reducible refine hq.mono ?_); clear hq; rintro e13 w13 ⟨rfl, hf13⟩; have HF13 := Aside0.mk (frT HF12.out hf13); have m3 : w13.cell? ⟨w.heap.size + 1, 3, none⟩ = some (.string m.d) := (blk_cell (HF13.out.blk HM.out (fun h => h)) 3).trans rfl; clear hf13))
          go_returns
          exact ⟨rfl, frT HF0.out HF13.out⟩
      · clear hx0
        go_wp2_with (first | (go_at_call 14; refine (bytes_calls c L A cp _ (readsEv_fr HR.out (frT HF0.out HF.out)) HCB.out HL.out (by have := H120.out.1; omega) (by have := H120.out.2; omega)).mono ?_; rintro e5 w5 ⟨v5, rfl, hf5, ho5⟩; rw [HEE.out] at ho5; obtain ⟨A5, c5', rfl, h51, h52, hr5⟩ := owns_reads ho5; have HF5 := Aside0.mk (frT HF.out hf5); have HR5 := Aside0.mk hr5; have hts := take_bytes A5 E.length c5' kk hkl2 h51; clear hf5 ho5 hr5 c0 c1 c2 c3 c4 c5 c6 c7) | (go_at_call 13; have hq := decode_calls F A5 c5' w5 (by have := HFE.out.2; omega) h52 (by have h := HR5.out.take_ kk hkl2; rw [HFE.out.1] at h; rw [HFE.out.2]; exact h) HFB.out; rw [HFE.out.2] at hq; (with_reducible refine hq.mono ?_); clear hq; rintro e6 w6 ⟨v6, rfl, hf6, ho6⟩; rw [HDEC.out] at ho6; rw [HDEC.out]; obtain ⟨B6, d6, rfl, h61, hr6⟩ := own_readsEv ho6 (fun e he => by have := (evB_facts (HL.out e (List.mem_of_mem_take (by rw [HMT.out]; exact he)))).2.2.2; omega) (by show M.length ≤ _; omega); unfold cfV; have HF6 := Aside0.mk (frT HF5.out hf6); have HR6 : Aside0 (ReadsEv w6 B6 M) := ⟨hr6⟩; clear hf6 ho6 hr6) | (go_at_call 15; refine (same_calls M B6 A d6 cp _ (readsEv_fr HR6.out ((Fr.refl _ _).alloc _)) (readsEv_fr HRM.out (frT HF0.out (HF6.out.alloc _)))).mono ?_; rintro e7 w7 ⟨rfl, hf7⟩; have HF7 := Aside0.mk (frT (HF6.out.alloc _) hf7); clear hf7))
        have HK : Aside0 (∀ w', Fr nope w7 w' → Fr nope w7 w' ∧ w'.cell? ⟨w.heap.size + 1, 0, none⟩ = some (.int .i64 m.k) ∧ w'.cell? ⟨w.heap.size + 1, 1, none⟩ = some (.int .i64 m.i) ∧ w'.cell? ⟨w.heap.size + 1, 2, none⟩ = some (.int .i64 m.n) ∧ w'.cell? ⟨w.heap.size + 1, 3, none⟩ = some (.string m.d)) := ⟨fun w' hF => by
          have hb := (frT HF7.out hF).blk HM.out (fun h => h)
          exact ⟨hF, (blk_cell hb 0).trans rfl, (blk_cell hb 1).trans rfl, (blk_cell hb 2).trans rfl, (blk_cell hb 3).trans rfl⟩⟩
        have HR7 : Aside0 (ReadsEv w7 A L) := ⟨readsEv_fr HR.out (frT HF0.out HF7.out)⟩
        have hmd : m.d.size ≤ 140737488351232 := by have := (evB_facts HMB.out).2.2.2; omega
        have hL120 := H120.out.1
        go_region_held3 (fun w' => Fr nope w7 w' ∧ w'.cell? ⟨w.heap.size + 1, 0, none⟩ = some (.int .i64 m.k) ∧ w'.cell? ⟨w.heap.size + 1, 1, none⟩ = some (.int .i64 m.i) ∧ w'.cell? ⟨w.heap.size + 1, 2, none⟩ = some (.int .i64 m.n) ∧ w'.cell? ⟨w.heap.size + 1, 3, none⟩ = some (.string m.d))
          (first | exact HK.out _ (Fr.refl nope w7).drew | exact HK.out _ ((Fr.refl nope w7).drew.alloc _) | exact HK.out _ ((Fr.refl nope w7).alloc _).drew | exact HK.out _ (((Fr.refl nope w7).alloc _).alloc _).drew | exact HK.out _ (((Fr.refl nope w7).alloc _).drew.alloc _) | exact HK.out _ hf9 | exact HK.out _ (hf9.alloc _) | exact HK.out _ hf10 | fail)
          (first | (refine step_app_ev (w := (w7.alloc (.cells #[] 30)).drew) (by rfl) (.tmp 94) (.tmp 95) 24 (by rfl) Try.underlying24 infoEv w7.heap.size (.slice (some ⟨w7.heap.size, 0, none⟩) 0 0) [] L A L.length cp rfl (by rfl) (by rfl) (own_ev_drew (own_ev_empty w7 w7.heap.size w7.heap.size rfl (Nat.le_refl _))) (readsEv_fr HR7.out ((Fr.refl nope w7).alloc (.cells #[] 30)).drew) (by simp only [List.length_nil]; omega) (((Fr.refl nope w7).alloc (.cells #[] 30)).drew).size ?_; intro A9 c9 w9 ho9 hg9; rw [List.nil_append] at ho9; simp only [List.nil_append]; have hf9 : Fr nope w7 w9 := (((Fr.refl nope w7).alloc (.cells #[] 30)).drew).grown hg9 (fun b hb hlt => by simp [Value.ownBlock] at hb; omega); clear hg9) | (refine step_app_ev (w := ((w7.alloc (.cells #[] 30)).alloc (.cells #[.int .i64 m.k, .int .i64 m.i, .int .i64 m.n, .string m.d] 30)).drew) (by rfl) (.tmp 94) (.tmp 95) 24 (by rfl) Try.underlying24 infoEv w7.heap.size (.slice (some ⟨w7.heap.size, 0, none⟩) 0 0) [] L A L.length cp rfl (by rfl) (by rfl) (own_ev_drew (own_ev_alloc (own_ev_empty w7 w7.heap.size w7.heap.size rfl (Nat.le_refl _)) _)) (readsEv_fr HR7.out (((Fr.refl nope w7).alloc (.cells #[] 30)).alloc (.cells #[.int .i64 m.k, .int .i64 m.i, .int .i64 m.n, .string m.d] 30)).drew) (by simp only [List.length_nil]; omega) ((((Fr.refl nope w7).alloc (.cells #[] 30)).alloc (.cells #[.int .i64 m.k, .int .i64 m.i, .int .i64 m.n, .string m.d] 30)).drew).size ?_; intro A9 c9 w9 ho9 hg9; rw [List.nil_append] at ho9; simp only [List.nil_append]; have hf9 : Fr nope w7 w9 := ((((Fr.refl nope w7).alloc (.cells #[] 30)).alloc (.cells #[.int .i64 m.k, .int .i64 m.i, .int .i64 m.n, .string m.d] 30)).drew).grown hg9 (fun b hb hlt => by simp [Value.ownBlock] at hb; omega); have hE8 := blk_grown (blk_drew (blk_second w7 (.cells #[] 30) (.cells #[.int .i64 m.k, .int .i64 m.i, .int .i64 m.n, .string m.d] 30))) hg9 (by simp [Value.ownBlock]); clear hg9) | (refine step_app_ev (w := ((w7.alloc (.cells #[.int .i64 m.k, .int .i64 m.i, .int .i64 m.n, .string m.d] 30)).alloc (.cells #[] 30)).drew) (by rfl) (.tmp 94) (.tmp 95) 24 (by rfl) Try.underlying24 infoEv w7.heap.size (.slice (some ⟨w7.heap.size + 1, 0, none⟩) 0 0) [] L A L.length cp rfl (by rfl) (by rfl) (own_ev_drew (own_ev_empty (w7.alloc (.cells #[.int .i64 m.k, .int .i64 m.i, .int .i64 m.n, .string m.d] 30)) (w7.heap.size + 1) w7.heap.size (by simp) (by omega))) (readsEv_fr HR7.out (((Fr.refl nope w7).alloc (.cells #[.int .i64 m.k, .int .i64 m.i, .int .i64 m.n, .string m.d] 30)).alloc (.cells #[] 30)).drew) (by simp only [List.length_nil]; omega) ((((Fr.refl nope w7).alloc (.cells #[.int .i64 m.k, .int .i64 m.i, .int .i64 m.n, .string m.d] 30)).alloc (.cells #[] 30)).drew).size ?_; intro A9 c9 w9 ho9 hg9; rw [List.nil_append] at ho9; simp only [List.nil_append]; have hf9 : Fr nope w7 w9 := ((((Fr.refl nope w7).alloc (.cells #[.int .i64 m.k, .int .i64 m.i, .int .i64 m.n, .string m.d] 30)).alloc (.cells #[] 30)).drew).grown hg9 (fun b hb hlt => by simp [Value.ownBlock] at hb; omega); have hE7 := blk_grown (blk_drew (blk_alloc (blk_new w7 (.cells #[.int .i64 m.k, .int .i64 m.i, .int .i64 m.n, .string m.d] 30)) (.cells #[] 30))) hg9 (by simp [Value.ownBlock]); clear hg9) | (refine step_app_ev (by rfl) (.tmp 96) (.tmp 98) 24 (by rfl) Try.underlying24 infoEv w7.heap.size _ L [m] _ 1 1 rfl (by rfl) (by rfl) (by first | exact ho9 | exact own_ev_alloc ho9 _) (by first | exact readsEv_one (blk_new w9 _) hmd | exact readsEv_one hE8 hmd | exact readsEv_one hE7 hmd) (by omega) (by first | exact hf9.size | exact (hf9.alloc _).size) ?_; intro A10 c10 w10 ho10 hg10; have hf10 : Fr nope w7 w10 := (by first | exact hf9.grown hg10 (fun b hb hlt => absurd (own_old ho9 hb).1 (by omega)) | exact (hf9.alloc _).grown hg10 (fun b hb hlt => absurd (own_old ho9 hb).1 (by omega))); clear hg10) | fail)
        all_goals
          have HF10 := Aside0.mk (frT HF7.out hf10)
          have HL10 : Aside0 (∀ e ∈ L ++ [m], evB e = true) := ⟨fun e he => by
            rcases List.mem_append.1 he with h | h
            · exact HL.out e h
            · rw [List.mem_singleton.1 h]; exact HMB.out⟩
          have HR10 : Aside0 (ReadsEv w10 A10 (L ++ [m])) := ⟨own_reads_ev ho10 (fun e he => by have := (evB_facts (HL10.out e he)).2.2.2; omega) (by rw [List.length_append, List.length_singleton]; omega)⟩
          have HS10 : Aside0 ((L ++ [m]).length ≤ 121 ∧ sz (L ++ [m]) ≤ 100000) := ⟨by
            have h1 := H120.out
            have h2 := (evB_facts HMB.out).2.2.2
            refine ⟨by rw [List.length_append, List.length_singleton]; omega, ?_⟩
            have h3 : sz (L ++ [m]) = sz L + m.d.size := by simp [sz]
            omega⟩
          have HE10 : Aside0 ((encB c (L ++ [m])).length = E.length + 7 + m.d.size) := ⟨by rw [← HEE.out, encB_eq, encB_eq, flat_append, flat_one]; simp only [List.length_append, evBytes_len]; omega⟩
          obtain ⟨c0, c1, c2, c3, c4, c5, c6, c7⟩ := cells8 (HF10.out.blk HC.out (fun h => h))
          clear hf9 hf10 ho9 ho10
          obtain ⟨G, hG⟩ : ∃ G, L ++ [m] = G := ⟨_, rfl⟩
          rw [hG] at HL10 HR10 HS10 HE10
          have HGL : Aside0 (G.length = L.length + 1) := ⟨by rw [← hG, List.length_append, List.length_singleton]⟩
          clear hG
          go_wp2_with (first | (go_at_call 14; have hq := bytes_calls c G A10 c10 w10 HR10.out HCB.out HL10.out (by have := HS10.out.1; omega) HS10.out.2; rw [HGL.out] at hq; unfold cfV at hq; (with_reducible refine hq.mono ?_); clear hq; rintro e11 w11 ⟨v11, rfl, hf11, ho11⟩; obtain ⟨A11, c11, rfl, h111, h112, hr11⟩ := owns_reads ho11; have HF11 := Aside0.mk (frT HF10.out hf11); have HFB := Aside0.mk hf11; have HR11 := Aside0.mk hr11; clear hf11 ho11 hr11 c0 c1 c2 c3 c4 c5 c6 c7) | (go_at_call 13; have hq := decode_good c G A11 c11 w11 HCB.out HL10.out (by have := HS10.out.1; omega) HS10.out.2 h111 h112 HR11.out; (with_reducible refine hq.mono ?_); clear hq; rintro e12 w12 ⟨B12, d12, rfl, hd12, hf12, hr12⟩; rw [HE10.out, HGL.out]; unfold cfV; have HF12 := Aside0.mk (frT HF11.out hf12); have HFD := Aside0.mk (frT HFB.out hf12); have HR12 := Aside0.mk hr12; clear hf12 hr12 hd12) | (go_at_call 15; have hq := same_calls G B12 A10 d12 c10 w12 HR12.out (readsEv_fr HR10.out HFD.out); rw [HGL.out] at hq; (with_reducible refine hq.mono ?_); clear hq; rintro e13 w13 ⟨rfl, hf13⟩; have HF13 := Aside0.mk (frT HF12.out hf13); have m3 : w13.cell? ⟨w.heap.size + 1, 3, none⟩ = some (.string m.d) := (blk_cell (HF13.out.blk HM.out (fun h => h)) 3).trans rfl; clear hf13))
          go_returns
          exact ⟨rfl, frT HF0.out HF13.out⟩
theorem scriptCuts_row (w : World) (a0 a1 a2 a3 a4 a5 a6 a7 : Int) {p0 p1 p2 p3 p4 p5 p6 p7 : Prop} (_ : p0) (_ : p1) (_ : p2) (_ : p3) (_ : p4) (_ : p5) (_ : p6) (_ : p7) (L : List Ev) (A : Option Addr) (cp : Nat) (hr : ReadsEv w A L) (hc : L.length ≤ cp) (k i n : Int) (d : ByteArray) (cut : Int) {q : Prop} (_ : q) : Calls Try.prog 5 #[.agg #[.int .i64 a0, .int .i64 a1, .int .i64 a2, .int .i64 a3, .int .i64 a4, .int .i64 a5, .int .i64 a6, .int .i64 a7], .slice A L.length cp, .agg #[.int .i64 k, .int .i64 i, .int .i64 n, .string d], .int .i64 cut] w fun e w' => e = .returned (.bool true) ∧ Below w.heap.size w w' :=
  (scriptCuts_walk ⟨a0, a1, a2, a3, a4, a5, a6, a7⟩ L A cp ⟨k, i, n, d⟩ cut w hr hc).mono fun e w' h => ⟨h.1, h.2.to_below (Nat.le_refl _) (fun i h => h.elim)⟩
end Cut
end Go.Proofs.Ythhibgkgbcdjnaa.ScrW

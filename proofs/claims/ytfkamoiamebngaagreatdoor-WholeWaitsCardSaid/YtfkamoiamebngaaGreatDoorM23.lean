/- kibitzertop: few. -/
import Derived.Test.YtfkamoiamebngaaGreatDoorM22
import Derived.Test.YtfkamoiamebngaaGreatDoorM03
import Derived.Test.YtfkamoiamebngaaGreatDoorM15
import Derived.BigQuiet
namespace Go.Proofs.YtfkamoiamebngaaGreatDoor.BroW
open Go.RowKit Go.Proofs.YtfkamoiamebngaaGreatDoorW.PrintWords Go.Proofs.YtfkamoiamebngaaGreatDoorW.PrintMore Go.Proofs.YtfkamoiamebngaaGreatDoor.Fr Go.Proofs.YtfkamoiamebngaaGreatDoor.ScrW Go.Proofs.YtfkamoiamebngaaGreatDoor.ScrP Go.Proofs.YtfkamoiamebngaaGreatDoor.Mod
set_option linter.unusedVariables false
set_option linter.unusedSimpArgs false

theorem all_snoc (L : List Ev) (k : Nat) (hk : k < L.length) (e : Ev) (he : L.getD k ev0 = e) (h : ∀ x ∈ L.take k, evB x = true) (hb : evB e = true) : ∀ x ∈ L.take (k + 1), evB x = true := by
  have : L.take (k + 1) = L.take k ++ [e] := by
    rw [List.take_succ_eq_append_getElem hk, ← he]
    simp [hk]
  rw [this]
  intro x hx
  rcases List.mem_append.1 hx with h1 | h1
  · exact h x h1
  · rw [List.mem_singleton.1 h1]; exact hb
set_option maxRecDepth 100000 in
set_option maxHeartbeats 4000000 in
theorem few_calls (L : List Ev) (A : Option Addr) (cp : Nat) (w : World) (hr : ReadsEv w A L) :
    Calls Tryz.prog 19 #[.slice A L.length cp] w fun e w' => ∃ b, e = .returned (.bool b) ∧ (b = true → (∀ e ∈ L, evB e = true) ∧ L.length ≤ 120 ∧ sz L ≤ 6000) ∧ Fr nope w w' := by
  have hlm := hr.1
  have HR := Aside0.mk hr
  clear hr
  go_enter Tryz.func19, Tryz.ntmps19
  go_wp2
  go_loopw [3, 8] (fun v3 v8 wr => ∃ (k n : Nat), v8 = .int .i64 k ∧ k ≤ L.length ∧ v3 = .int .i64 n ∧ Aside0 (n = sz (L.take k)) ∧ Aside0 (∀ x ∈ L.take k, evB x = true) ∧ n ≤ 4000 * k ∧ Aside0 (Fr nope w wr)) (fun _ i _ => L.length - (intOf i).toNat)
  case atStart => exact ⟨0, 0, rfl, Nat.zero_le _, rfl, ⟨rfl⟩, ⟨fun x hx => by simp at hx⟩, by omega, ⟨Fr.refl _ _⟩⟩
  case round =>
    obtain ⟨k, n, rfl, hk, rfl, HN, HE, hn, HF⟩ := hrel
    by_cases hlt : k < L.length
    · obtain ⟨e, he⟩ : ∃ e, L.getD k ev0 = e := ⟨_, rfl⟩
      obtain ⟨ad, rfl, g0, g1, g2, g3, hsz⟩ := evCells HR.out k hlt e he HF.out
      have HT := Aside0.mk (sz_take L k hlt e he)
      have HA := Aside0.mk (all_snoc L k hlt e he HE.out)
      have hadl := World.block_lt_of_cell? _ _ g0
      clear he
      have HRT : Aside0 (∀ W, Calls Tryz.prog 33 #[.agg #[.int .i64 e.k, .int .i64 e.i, .int .i64 e.n, .string e.d]] W fun r w' => r = .returned (.bool (evB e)) ∧ Below W.heap.size W w') := ⟨fun W => evRight_calls e W⟩
      cases hb : evB e
      · rw [hb] at HRT
        clear hb
        go_wp2_with (first | (go_at_call 33; refine (HRT.out _).mono ?_; rintro e1 w1 ⟨rfl, hw1⟩; have HF1 := Aside0.mk ((HF.out.alloc (.cells #[.int .i64 e.k, .int .i64 e.i, .int .i64 e.n, .string e.d] 33)).trans (Fr.of_below (S := nope) hw1) (fun _ _ h => h)); clear hw1))
        go_returns
        exact ⟨false, rfl, (fun h => by cases h), HF1.out⟩
      · rw [hb] at HRT
        have hdz : e.d.size ≤ 4000 := (evB_facts hb).2.2.2
        have HB := Aside0.mk hb
        have hkk : (k : Int) < (L.length : Int) := by omega
        have hw1 : IntKind.i64.wrap ((n : Int) + (e.d.size : Int)) = ((n + e.d.size : Nat) : Int) := by rw [IntKind.wrap_i64]; push_cast; omega
        have hw2 : IntKind.i64.wrap ((k : Int) + 1) = ((k + 1 : Nat) : Int) := by rw [IntKind.wrap_i64]; push_cast; omega
        clear hb
        go_wp2_with (first | (go_at_call 33; refine (HRT.out _).mono ?_; rintro e1 w1 ⟨rfl, hw1⟩; have hB1 := (Fr.of_below (S := nope) hw1).blk (blk_new wr (.cells #[.int .i64 e.k, .int .i64 e.i, .int .i64 e.n, .string e.d] 33)) (fun h => h); have p3 : w1.cell? ⟨wr.heap.size, 3, none⟩ = some (.string e.d) := (blk_cell hB1 3).trans rfl; have HF1 := Aside0.mk ((HF.out.alloc (.cells #[.int .i64 e.k, .int .i64 e.i, .int .i64 e.n, .string e.d] 33)).trans (Fr.of_below (S := nope) hw1) (fun _ _ h => h)); clear hw1 hB1))
        refine ⟨⟨k + 1, n + e.d.size, ?_, by omega, ?_, ⟨by rw [HT.out, ← HN.out]⟩, ⟨HA.out HB.out⟩, by omega, HF1⟩, ?_⟩
        · first | rfl | (push_cast; rfl)
        · first | rfl | (push_cast; rfl)
        · simp only [intOf]; omega
    · have hk' : k = L.length := by omega
      have HN3 : Aside0 (n = sz L) := ⟨by rw [HN.out, hk', List.take_length]⟩
      have HE3 : Aside0 (∀ x ∈ L, evB x = true) := ⟨by have h := HE.out; rw [hk', List.take_length] at h; exact h⟩
      clear HE HN
      subst hk'
      by_cases h120 : L.length ≤ 120
      · have t1 : decide ((L.length : Int) ≤ 120) = true := decide_eq_true (by omega)
        go_wp2
        go_returns
        exact ⟨_, rfl, fun h => ⟨HE3.out, h120, by rw [← HN3.out]; have := of_decide_eq_true h; omega⟩, HF.out⟩
      · have t1 : decide ((L.length : Int) ≤ 120) = false := decide_eq_false (by omega)
        go_wp2
        go_returns
        exact ⟨false, rfl, (fun h => by cases h), HF.out⟩
end Go.Proofs.YtfkamoiamebngaaGreatDoor.BroW

/- How an event, and a row of events, read as arguments. -/
namespace Go.Proofs.YtfkamoiamebngaaGreatDoor.Openers
open Go.Joins Go.ChangeShapes Go.WideShapes Go.RowKit Go.Deep Go.Proofs.YtfkamoiamebngaaGreatDoorW.PrintWords Go.Proofs.YtfkamoiamebngaaGreatDoor.ScrP Go.Proofs.YtfkamoiamebngaaGreatDoor.ScrW
set_option linter.unusedVariables false

section
variable {H : Type} {enc : TypeId × Value → H} {P : Program} {w : World} {base : Nat} {spare : Nat → Bool} {held : Bool}
theorem open_slice_fields {t e : TypeId} {fs : Array Field} {fuel : Nat} {cs : List Value} {x : DataW H × List MemPlace} (ht : P.underlying t = some (.slice e)) (he : P.underlying e = some (.struct fs))
    (hone : oneCellFields P fs = true) (hC : P.cellsOf e = fs.size) (h : DataW.trod enc P w base spare held fuel t cs = some x) :
    (cs = [.slice none 0 0] ∧ x = (.nil, [])) ∨
    ∃ (a : Addr) (len cap m : Nat) (D : Nat → DataW H) (Pl : Nat → List MemPlace), cs = [.slice (some a) len cap] ∧ base ≤ a.block ∧ len ≤ cap ∧ cap ≤ maxLen ∧ m = (if spare a.block then cap else len) ∧
      x = (.slice ((List.range len).map D) ((List.range (m - len)).map fun j => D (len + j)), MemPlace.row a (m * fs.size) ++ (List.range m).flatMap Pl) ∧
      ∀ i, i < m → ∃ (ys : List (DataW H × List MemPlace)) (n : Nat), D i = .agg (ys.map (·.1)) ∧ Pl i = ys.flatMap (·.2) ∧ ys.length = fs.size ∧
        ∀ (j : Nat) (f : Field), fs[j]? = some f → ∃ (v : Value) (y : DataW H × List MemPlace), w.cell? (a.add (i * fs.size + j)) = some v ∧ ys[j]? = some y ∧ DataW.trod enc P w base spare held n f.type [v] = some y := by
  rcases open_slice ht h with h0 | ⟨a, len, cap, m, n, D, Pl, hcs, hb, hl, hm, hmm, hx, hi⟩
  · exact .inl h0
  · refine .inr ⟨a, len, cap, m, D, Pl, hcs, hb, hl, hm, hmm, by rw [hC] at hx; exact hx, fun i him => ?_⟩
    obtain ⟨cs', hc, ht'⟩ := hi i him
    rw [hC] at hc
    obtain ⟨ys, n', hn', hy, hlen, hyl, hf⟩ := DataW.trod_struct he ht'
    obtain ⟨_, hcl, hat⟩ := World.cells?_some hc
    simp only [Prod.mk.injEq] at hy
    refine ⟨ys, n', hy.1, hy.2, hyl, fun j f hj => ?_⟩
    obtain ⟨ho, hk⟩ := hone_of hone j f hj
    have hjl : j < fs.size := (Array.getElem?_eq_some_iff.1 hj).1
    have hcell := hat j hjl
    have hv : cs'[j]? = some (cs'[j]'(by omega)) := List.getElem?_eq_getElem (by omega)
    have h1 := hf j f hj
    rw [ho, hk] at h1
    have hone' : (cs'.drop j).take 1 = [cs'[j]'(by omega)] := by
      rw [List.drop_eq_getElem_cons (by omega)]
      rfl
    rw [hone'] at h1
    have hys : ys[j]? = some (ys[j]'(by omega)) := List.getElem?_eq_getElem (by omega)
    refine ⟨_, _, ?_, hys, h1.trans hys⟩
    rw [← Go.Deep.add_add, hcell, hv]
end

section
variable {H : Type} {enc : TypeId × Value → H} {P : Program} {W : World} {t e : TypeId} {A : Option Addr} {len cap : Nat} {d : DataW H} {ps : List MemPlace} {f0 f1 f2 f3 : Field}
theorem weights_part {t : TypeId} {fs : Array Field} {ds : List (DataW H)} (hu : P.underlying t = some (.struct fs)) (h : Light P t (.agg ds)) : ∀ n ∈ DataW.weightsEach P (fs.toList.map (·.type)) ds, n ≤ reachBytes := by
  intro n hn
  refine h n ?_
  simp only [DataW.weights, hu]
  exact hn
theorem open_events (ht : P.underlying t = some (.slice e)) (he : P.underlying e = some (.struct #[f0, f1, f2, f3])) (hone : oneCellFields P #[f0, f1, f2, f3] = true) (hC : P.cellsOf e = 4) (hB : P.bytesOf e = 40)
    (k0 : P.underlying f0.type = some (.int .i64)) (k1 : P.underlying f1.type = some (.int .i64)) (k2 : P.underlying f2.type = some (.int .i64)) (k3 : P.underlying f3.type = some .string)
    (hl : Light P t d) (h : ∃ fuel, DataW.trod enc P W 0 (fun _ => true) true fuel t [.slice A len cap] = some (d, ps)) :
    ∃ L : List Ev, len = L.length ∧ len ≤ cap ∧ ReadsEv W A L := by
  obtain ⟨fuel, hf⟩ := h
  rcases open_slice_fields ht he hone hC hf with ⟨hcs, _⟩ | ⟨x, l, c, m, D, Pl, hcs, _, hlc, hm, hmm, hx, hi⟩
  · simp at hcs
    obtain ⟨rfl, rfl, rfl⟩ := hcs
    exact ⟨[], rfl, Nat.le_refl _, by simp, fun h => by simp at h⟩
  · simp at hcs
    obtain ⟨rfl, rfl, rfl⟩ := hcs
    obtain ⟨hx, _⟩ := Prod.mk.inj hx
    subst hx
    have z := light_slice hl ht
    simp only [if_true] at hmm
    have zl := z.1
    rw [hB] at zl
    simp only [List.length_map, List.length_range] at zl
    have hle : len ≤ 140737488351232 := by unfold reachBytes at zl; omega
    have each : ∀ j, j < len → ∃ ev : Ev, W.cell? (x.add (j * 4)) = some (.int .i64 ev.k) ∧ W.cell? (x.add (j * 4 + 1)) = some (.int .i64 ev.i) ∧ W.cell? (x.add (j * 4 + 2)) = some (.int .i64 ev.n) ∧ W.cell? (x.add (j * 4 + 3)) = some (.string ev.d) ∧ ev.d.size ≤ 140737488351232 := by
      intro j hj
      obtain ⟨ys, n, hD, _, hyl, hfs⟩ := hi j (by omega)
      obtain ⟨v0, y0, c0, g0, t0⟩ := hfs 0 f0 rfl
      obtain ⟨v1, y1, c1, g1, t1⟩ := hfs 1 f1 rfl
      obtain ⟨v2, y2, c2, g2, t2⟩ := hfs 2 f2 rfl
      obtain ⟨v3, y3, c3, g3, t3⟩ := hfs 3 f3 rfl
      obtain ⟨a0, e0, _, _⟩ := DataW.trod_int k0 t0
      obtain ⟨a1, e1, _, _⟩ := DataW.trod_int k1 t1
      obtain ⟨a2, e2, _, _⟩ := DataW.trod_int k2 t2
      obtain ⟨a3, e3, q3, _⟩ := DataW.trod_string k3 t3
      obtain rfl := (List.cons.inj e0).1
      obtain rfl := (List.cons.inj e1).1
      obtain rfl := (List.cons.inj e2).1
      obtain rfl := (List.cons.inj e3).1
      refine ⟨⟨a0, a1, a2, a3⟩, c0, c1, c2, c3, ?_⟩
      have zj := z.2 (D j) (List.mem_map.2 ⟨j, List.mem_range.2 hj, rfl⟩)
      rw [hD] at zj
      have hw := weights_part he zj
      have h3 : (ys.map (·.1))[3]? = some (.lit (.string a3.data.toList)) := by rw [List.getElem?_map, g3, q3]; rfl
      have := light_string (H := H) (P := P) (t := f3.type) (bytes := a3.data.toList) (fun n hn => hw n (DataW.weights_mem_each (j := 3) rfl h3 n hn))
      rw [Array.length_toList] at this
      exact this
    refine ⟨(List.range len).map fun j => if hj : j < len then (each j hj).choose else ev0, by simp, hlc, by simpa using hle, fun h0 => ⟨x, rfl, fun j hj => ?_⟩⟩
    simp at hj
    have hg : ((List.range len).map fun j => if hj : j < len then (each j hj).choose else ev0).getD j ev0 = (each j hj).choose := by
      simp [hj]
    rw [hg]
    exact (each j hj).choose_spec
end
end Go.Proofs.YtfkamoiamebngaaGreatDoor.Openers

/- kibitzertop: WholeStays, the plain law: what is refused leaves all as it was. Plain. -/
namespace Go.Proofs.YtfkamoiamebngaaGreatDoor.Mod
open Go.RowKit Go.Proofs.YtfkamoiamebngaaGreatDoorW.PrintWords Go.Proofs.YtfkamoiamebngaaGreatDoor.ScrP Go.Proofs.YtfkamoiamebngaaGreatDoor.LexP Go.Proofs.YtfkamoiamebngaaGreatDoor.BroW
set_option linter.unusedVariables false

theorem step_err (S : St) (e : Ev) (h : (step S e).2.1 ≠ 0) : (step S e).1 = S := by
  unfold step at h ⊢
  split
  · rename_i hev
    rw [if_pos hev] at h
    split
    · rename_i hk
      rw [if_pos hk] at h
      simp only at h ⊢
      unfold connectM at h ⊢
      split
      · rfl
      · rename_i h1
        rw [if_neg h1] at h
        split
        · rfl
        · rename_i h2
          rw [if_neg h2] at h
          exact absurd rfl h
    · rename_i hk
      rw [if_neg hk] at h
      split
      · rename_i hk
        rw [if_pos hk] at h
        simp only at h ⊢
        unfold bytesM at h ⊢
        split
        · rfl
        · rename_i c hc
          simp only [hc] at h
          split
          · rfl
          · rename_i h1
            rw [if_neg h1] at h
            exact absurd rfl h
      · rename_i hk
        rw [if_neg hk] at h
        split
        · rename_i hk
          rw [if_pos hk] at h
          simp only at h ⊢
          unfold writeM at h ⊢
          split
          · rfl
          · rename_i c hc
            simp only [hc] at h
            exact absurd rfl h
        · rename_i hk
          rw [if_neg hk] at h
          split
          · rename_i hk
            rw [if_pos hk] at h
            simp only at h ⊢
            unfold outputM at h ⊢
            split
            · rfl
            · rename_i h1
              rw [if_neg h1] at h
              exact absurd rfl h
          · rename_i hk
            rw [if_neg hk] at h
            split
            · rename_i hk
              rw [if_pos hk] at h
              exact absurd rfl h
            · rename_i hk
              rw [if_neg hk] at h
              split
              · rename_i hk
                rw [if_pos hk] at h
                exact absurd rfl h
              · rename_i hk
                rw [if_neg hk] at h
                split
                · rename_i hk
                  rw [if_pos hk] at h
                  simp only at h ⊢
                  unfold cutM at h ⊢
                  split
                  · rename_i h1
                    rw [if_pos h1] at h
                    exact absurd rfl h
                  · rfl
                · rename_i hk
                  rw [if_neg hk] at h
                  simp only at h ⊢
                  unfold endM at h ⊢
                  split
                  · rfl
                  · rename_i h1
                    rw [if_neg h1] at h
                    split
                    · rfl
                    · rename_i h2
                      rw [if_neg h2] at h
                      exact absurd rfl h
  · rfl
/-- the events that were not refused, and what came of these -/
def okL (Z : List (Ev × (Int × List Int))) : List Ev := (Z.filter fun p => p.2.1 == 0).map Prod.fst
def okR (Z : List (Ev × (Int × List Int))) : List (Int × List Int) := (Z.filter fun p => p.2.1 == 0).map Prod.snd
theorem okL_len (Z : List (Ev × (Int × List Int))) : (okL Z).length = (okR Z).length := by simp [okL, okR]
theorem okL_snoc (Z : List (Ev × (Int × List Int))) (p : Ev × (Int × List Int)) : okL (Z ++ [p]) = okL Z ++ (if p.2.1 = 0 then [p.1] else []) := by
  unfold okL
  rw [List.filter_append, List.map_append]
  by_cases h : p.2.1 = 0 <;> simp [h]
theorem okR_snoc (Z : List (Ev × (Int × List Int))) (p : Ev × (Int × List Int)) : okR (Z ++ [p]) = okR Z ++ (if p.2.1 = 0 then [p.2] else []) := by
  unfold okR
  rw [List.filter_append, List.map_append]
  by_cases h : p.2.1 = 0 <;> simp [h]
theorem run_len (L : List Ev) : ∀ S, (run L S).2.length = L.length := by
  induction L with
  | nil => intro S; rfl
  | cons e L ih => intro S; simp [run, ih]
/-- without what was refused all others come to the same -/
theorem stays (L : List Ev) : ∀ S, (run (okL (L.zip (run L S).2)) S).2 = okR (L.zip (run L S).2) := by
  induction L with
  | nil => intro S; rfl
  | cons e L ih =>
    intro S
    show (run (okL ((e :: L).zip ((step S e).2 :: (run L (step S e).1).2))) S).2 = okR ((e :: L).zip ((step S e).2 :: (run L (step S e).1).2))
    rw [List.zip_cons_cons]
    by_cases h : (step S e).2.1 = 0
    · have e1 : okL ((e, (step S e).2) :: L.zip (run L (step S e).1).2) = e :: okL (L.zip (run L (step S e).1).2) := by simp [okL, h]
      have e2 : okR ((e, (step S e).2) :: L.zip (run L (step S e).1).2) = (step S e).2 :: okR (L.zip (run L (step S e).1).2) := by simp [okR, h]
      rw [e1, e2]
      show (step S e).2 :: (run _ (step S e).1).2 = _
      rw [ih]
    · have e1 : okL ((e, (step S e).2) :: L.zip (run L (step S e).1).2) = okL (L.zip (run L (step S e).1).2) := by simp [okL, h]
      have e2 : okR ((e, (step S e).2) :: L.zip (run L (step S e).1).2) = okR (L.zip (run L (step S e).1).2) := by simp [okR, h]
      rw [e1, e2]
      have hs := step_err S e h
      rw [hs]
      exact ih S
theorem okL_sub (Z : List (Ev × (Int × List Int))) : (okL Z).Sublist (Z.map Prod.fst) := (List.filter_sublist).map _
theorem okL_zip (L : List Ev) (R : List (Int × List Int)) (h : L.length ≤ R.length) : (okL (L.zip R)).Sublist L := by
  have h1 := okL_sub (L.zip R)
  rw [List.map_fst_zip h] at h1
  exact h1
theorem outSum_sub {L M : List Ev} (h : L.Sublist M) : outSum L ≤ outSum M := by
  unfold outSum
  induction h with
  | slnil => exact Nat.le_refl _
  | cons a h ih => simp only [List.map_cons, List.sum_cons]; omega
  | cons_cons a h ih => simp only [List.map_cons, List.sum_cons]; omega
end Go.Proofs.YtfkamoiamebngaaGreatDoor.Mod

/- kibitzertop: WholeStays, the walk. -/
namespace Go.Proofs.YtfkamoiamebngaaGreatDoor.BroW
open Go.RowKit Go.Proofs.YtfkamoiamebngaaGreatDoorW.PrintWords Go.Proofs.YtfkamoiamebngaaGreatDoorW.PrintMore Go.Proofs.YtfkamoiamebngaaGreatDoor.Fr Go.Proofs.YtfkamoiamebngaaGreatDoor.ScrW Go.Proofs.YtfkamoiamebngaaGreatDoor.ScrP Go.Proofs.YtfkamoiamebngaaGreatDoor.Mod
set_option linter.unusedVariables false
set_option linter.unusedSimpArgs false

/-- what came of events, as it lies in memory -/
def ReadsOut (W : World) (A : Option Addr) (R : List (Int × List Int)) : Prop :=
  0 < R.length → ∃ ad, A = some ad ∧ ∀ j, j < R.length → W.cell? (ad.add (j * 2)) = some (.int .i64 (R.getD j (0, [])).1) ∧ W.cell? ⟨(ad.add (j * 2)).block, (ad.add (j * 2)).off + 1, none⟩ = some (.string (strOfNums (R.getD j (0, [])).2))
theorem outs_at0 : ∀ (L : List (Int × List Int)) (j : Nat), j < L.length → (outs L)[j * 2]? = some (.int .i64 (L.getD j (0, [])).1)
  | [], j, h => by simp at h
  | p :: L, 0, _ => by simp [outs, outC]
  | p :: L, j + 1, h => by
    have : outs (p :: L) = outC p ++ outs L := by simp [outs]
    rw [this, List.getElem?_append_right (by simp [outC]; omega), show (j + 1) * 2 - (outC p).length = j * 2 by simp [outC]; omega, outs_at0 L j (by simpa using h)]
    rfl
theorem readsOut {w : World} {base n m c : Nat} {A : Option Addr} {R : List (Int × List Int)} (h : w.ownsRow base 46 2 (.slice A m c) n (outs R)) (hn : n = R.length) : ReadsOut w A R := by
  subst hn
  intro h0
  obtain ⟨g, rfl⟩ := own_some h h0
  refine ⟨_, rfl, fun j hj => ?_⟩
  have hadd : (⟨g, 0, none⟩ : Addr).add (j * 2) = ⟨g, j * 2, none⟩ := by unfold Addr.add; split <;> simp_all
  rw [hadd]
  exact ⟨own_cellAt h (j * 2) _ (outs_at0 R j hj), own_cellAt h (j * 2 + 1) _ (outs_at R j hj)⟩
theorem ReadsOut.fr {w w1 : World} {A : Option Addr} {R : List (Int × List Int)} (h : ReadsOut w A R) (hF : Fr nope w w1) : ReadsOut w1 A R := by
  intro h0
  obtain ⟨ad, hA, hc⟩ := h h0
  exact ⟨ad, hA, fun j hj => ⟨fr_cell hF (hc j hj).1, fr_cell hF (hc j hj).2⟩⟩
theorem outSum_sz (L : List Ev) : outSum L ≤ sz L := by
  unfold outSum sz
  induction L with
  | nil => simp
  | cons e L ih =>
    simp only [List.map_cons, List.sum_cons]
    have : outLen e ≤ e.d.size := by unfold outLen; split <;> omega
    omega
theorem sz_sub {L M : List Ev} (h : L.Sublist M) : sz L ≤ sz M := by
  unfold sz
  induction h with
  | slnil => exact Nat.le_refl _
  | cons a h ih => simp only [List.map_cons, List.sum_cons]; omega
  | cons_cons a h ih => simp only [List.map_cons, List.sum_cons]; omega
theorem evs_snoc (L : List Ev) (e : Ev) : evs (L ++ [e]) = evs L ++ [.int .i64 e.k, .int .i64 e.i, .int .i64 e.n, .string e.d] := by
  simp [evs, evC]
theorem take_zip (L : List Ev) (R : List (Int × List Int)) (hl : R.length = L.length) (k : Nat) (hk : k < R.length) : (L.zip R).take (k + 1) = (L.zip R).take k ++ [(L.getD k ev0, R.getD k (0, []))] := by
  have h1 : k < (L.zip R).length := by rw [List.length_zip]; omega
  rw [List.take_succ_eq_append_getElem h1]
  congr 1
  rw [List.getElem_zip]
  simp [List.getD_eq_getElem?_getD, List.getElem?_eq_getElem, hk, show k < L.length by omega]

set_option maxRecDepth 100000 in
set_option maxHeartbeats 16000000 in
theorem stays_calls (c : Cf) (L : List Ev) (A : Option Addr) (cp : Nat) (w : World) (hlib : LibOK w) (hr : ReadsEv w A L) :
    Calls Tryz.prog 5 #[.agg #[.int .i64 c.a0, .int .i64 c.a1, .int .i64 c.a2, .int .i64 c.a3, .int .i64 c.a4, .int .i64 c.a5, .int .i64 c.a6, .int .i64 c.a7], .slice A L.length cp] w fun e w' => e = .returned (.bool true) ∧ Fr nope w w' := by
  have HLIB := Aside0.mk hlib
  have HR := Aside0.mk hr
  have HC : Aside0 ((w.alloc (.cells (cfCells c) 23)).heap[w.heap.size]? = some (.cells (cfCells c) 23 (0, 0))) := ⟨blk_new _ _⟩
  have HF0 : Aside0 (Fr nope w (w.alloc (.cells (cfCells c) 23))) := ⟨(Fr.refl _ _).alloc _⟩
  clear hlib hr
  go_enter Tryz.func5, Tryz.ntmps5
  go_wp2_with (first | (go_at_call 9; refine (alive_calls _ (HLIB.out.fr HF0.out (fun _ _ h => h))).mono ?_; rintro e1 w1 ⟨rfl, hf1⟩; have HF1 : Aside0 (Fr nope (w.alloc (.cells (cfCells c) 23)) w1) := ⟨hf1⟩; clear hf1))
  go_at_call 19
  refine (few_calls L A cp w1 (readsEv_frS HR.out (HF0.out.trans HF1.out (fun _ _ h => h)) (fun _ _ _ h => h))).mono ?_
  rintro e2 w2 ⟨b, rfl, hfew, hf2⟩
  have HF2 : Aside0 (Fr nope (w.alloc (.cells (cfCells c) 23)) w2) := ⟨HF1.out.trans hf2 (fun _ _ h => h)⟩
  clear hf2 HF1
  cases b
  · clear hfew
    go_wp2
    go_returns
    exact ⟨rfl, HF0.out.trans HF2.out (fun _ _ h => h)⟩
  · have H120 := Aside0.mk (hfew rfl)
    have hB2 := HF2.out.blk HC.out (fun h => h)
    obtain ⟨c0, c1, c2, c3, c4, c5, c6, c7⟩ := cells8 hB2
    clear hfew hB2
    have HRT : Aside0 (∀ W, Calls Tryz.prog 10 #[.agg #[.int .i64 c.a0, .int .i64 c.a1, .int .i64 c.a2, .int .i64 c.a3, .int .i64 c.a4, .int .i64 c.a5, .int .i64 c.a6, .int .i64 c.a7]] W fun e w' => e = .returned (.bool (cfB c)) ∧ Below W.heap.size W w') := ⟨fun W => confRight_calls c W⟩
    cases hcb : cfB c
    · rw [hcb] at HRT
      clear hcb
      go_wp2_with (first | (go_at_call 10; (with_reducible refine (HRT.out _).mono ?_); rintro e3 w3 ⟨rfl, hf3⟩; have HF3 := Aside0.mk (HF2.out.trans (Fr.of_below (S := nope) hf3) (fun _ _ h => h)); clear hf3))
      go_returns
      exact ⟨rfl, HF0.out.trans HF3.out (fun _ _ h => h)⟩
    · rw [hcb] at HRT
      have HCB := Aside0.mk hcb
      clear hcb
      obtain ⟨R, hR⟩ : ∃ R, R = (run L (stNew c)).2 := ⟨_, rfl⟩
      have hrl : R.length = L.length := by rw [hR]; exact run_len L _
      have HPL : Aside0 (∀ (M : List Ev) (n : Nat) (B : Option Addr) (cB : Nat) (W : World), M.Sublist L → n = M.length → Fr nope w W → ReadsEv W B M → Calls Tryz.prog 15 #[.agg #[.int .i64 c.a0, .int .i64 c.a1, .int .i64 c.a2, .int .i64 c.a3, .int .i64 c.a4, .int .i64 c.a5, .int .i64 c.a6, .int .i64 c.a7], .slice B n cB] W fun e w' => ∃ p A1 c1, e = .returned (.tuple #[p, .slice A1 n c1, .bool true]) ∧ Fr nope W w' ∧ ReadsOut w' A1 (run M (stNew c)).2) := ⟨fun M n B cB W hs hn hF hR => by
        subst hn
        obtain ⟨k1, k2, k3⟩ := H120.out
        have hq := played_calls c M B cB W (HLIB.out.fr hF (fun _ _ h => h)) HCB.out (fun e he => k1 e (hs.subset he)) (by have h1 := outSum_sz M; have h2 := sz_sub hs; omega) (by have := hs.length_le; omega) (by have h2 := sz_sub hs; omega) hR
        refine hq.mono ?_
        rintro e w' ⟨L', o', x, rfl, q1, q2, q3, q4, q5⟩
        have hl : (run M (stNew c)).2.length = M.length := run_len M _
        obtain ⟨A1, c1, rfl⟩ := own_slice q4
        exact ⟨_, A1, c1, by rw [hl], q2, readsOut q4 rfl⟩⟩
      have HR1 : Aside0 (ReadsEv w A L) := HR
      have h120 : L.length ≤ 120 := H120.out.2.1
      go_wp2_with (first | (go_at_call 10; (with_reducible refine (HRT.out _).mono ?_); rintro e3 w3 ⟨rfl, hf3⟩; have HF3 := Aside0.mk (HF2.out.trans (Fr.of_below (S := nope) hf3) (fun _ _ h => h)); have hB3 := HF3.out.blk HC.out (fun h => h); obtain ⟨c0, c1, c2, c3, c4, c5, c6, c7⟩ := cells8 hB3; clear hB3 hf3) | (go_at_call 15; (with_reducible refine (HPL.out L _ A cp w3 (List.Sublist.refl _) rfl (HF0.out.trans HF3.out (fun _ _ h => h)) (readsEv_frS HR1.out (HF0.out.trans HF3.out (fun _ _ h => h)) (fun _ _ _ h => h))).mono ?_); rintro e4 w4 ⟨p4, A4, c4', rfl, hf4, hr4⟩; have HF4 := Aside0.mk (HF3.out.trans hf4 (fun _ _ h => h)); have HO4 : Aside0 (ReadsOut w4 A4 R) := ⟨by rw [hR]; exact hr4⟩; clear hf4 hr4))
      have HR1' : Aside0 (Fr nope w w4) := ⟨HF0.out.trans HF4.out (fun _ _ h => h)⟩
      have HRL := Aside0.mk hrl
      have HRR := Aside0.mk hR
      have HSUB : Aside0 (∀ k, (okL ((L.zip R).take k)).Sublist L) := ⟨fun k => ((List.take_sublist k (L.zip R)).filter _ |>.map _).trans (okL_zip L R (by omega))⟩
      clear hR hrl
      go_loopw [8, 9, 39] (fun v8 v9 v39 wr => ∃ (k n : Nat) (A8 : Option Addr) (c8 : Nat) (A9 : Option Addr) (c9 : Nat), v39 = .int .i64 k ∧ k ≤ L.length ∧ v8 = .slice A8 n c8 ∧ v9 = .slice A9 n c9 ∧ n ≤ k ∧ Aside0 ((okR ((L.zip R).take k)).length = n) ∧ Aside0 (wr.ownsRow w4.heap.size 33 4 (.slice A8 n c8) n (evs (okL ((L.zip R).take k)))) ∧ Aside0 (wr.ownsRow w4.heap.size 46 2 (.slice A9 n c9) n (outs (okR ((L.zip R).take k)))) ∧ Aside0 (Fr nope w4 wr)) (fun _ _ v39 _ => L.length - (intOf v39).toNat)
      case atStart => exact ⟨0, 0, _, 0, _, 0, rfl, Nat.zero_le _, rfl, rfl, Nat.le_refl _, ⟨rfl⟩, ⟨(World.ownsRow_made w4 #[] 0 (Nat.le_refl _) (by unfold maxLen; omega) rfl).alloc _⟩, ⟨by have h := World.ownsRow_made (e := 46) (size := 2) (w4.alloc (.cells #[] 33)) #[] 0 (Nat.le_refl _) (by unfold maxLen; omega) rfl; rw [World.size_alloc] at h; exact own_base_le h (by omega)⟩, ⟨((Fr.refl nope w4).alloc _).alloc _⟩⟩
      case round =>
        obtain ⟨k, n, A8, c8, A9, c9, rfl, hk, rfl, rfl, hnk, HN, HO8, HO9, HF⟩ := hrel
        by_cases hlt : k < L.length
        · obtain ⟨ad, hA4, hcs⟩ := (HO4.out.fr HF.out) (by rw [HRL.out]; omega)
          obtain ⟨m0, m1⟩ := hcs k (by rw [HRL.out]; omega)
          obtain ⟨e, he⟩ : ∃ e, L.getD k ev0 = e := ⟨_, rfl⟩
          obtain ⟨ae, hA, g0, g1, g2, g3, hsz⟩ := evCells HR1.out k hlt e he (HR1'.out.trans HF.out (fun _ _ h => h))
          subst hA4 hA
          obtain ⟨q, hq⟩ : ∃ q, R.getD k (0, []) = q := ⟨_, rfl⟩
          have hz := take_zip L R HRL.out k (by rw [HRL.out]; omega)
          rw [he, hq] at hz
          rw [hq] at m0 m1
          obtain ⟨x, bs⟩ := q
          obtain ⟨s, hs⟩ : ∃ s, strOfNums bs = s := ⟨_, rfl⟩
          simp only at m0 m1
          rw [hs] at m1
          have HZ := Aside0.mk hz
          have hl1 := okL_snoc ((L.zip R).take k) (e, (x, bs))
          have hr1 := okR_snoc ((L.zip R).take k) (e, (x, bs))
          rw [← hz] at hl1 hr1
          have hkk : (k : Int) < (L.length : Int) := by omega
          have hk0 : (0 : Int) ≤ (k : Int) := by omega
          have hw2 : IntKind.i64.wrap ((k : Int) + 1) = ((k + 1 : Nat) : Int) := by rw [IntKind.wrap_i64]; push_cast; omega
          have hadl := World.block_lt_of_cell? _ _ m0
          have hael := World.block_lt_of_cell? _ _ g0
          have hnl : n ≤ 120 := by omega
          by_cases hx : x = 0
          · subst hx
            simp only [if_true] at hl1 hr1
            have HLR := Aside0.mk (And.intro hl1 hr1)
            have HS := Aside0.mk hs
            clear hl1 hr1 hz hq he hs hcs
            go_wp2_with (first | ((with_reducible refine gate_builtin (b := .append) (xs := #[.tmp 47, .tmp 52]) rfl ?_); at_builtin; refine app_lit rfl (.tmp 47) (.tmp 52) 27 33 (.agg #[.int .i64 0, .int .i64 0, .int .i64 0, .string ⟨#[]⟩]) 4 40 rfl Tryz.underlying27 infoEv4 (by decide) (by decide) w4.heap.size (.slice A8 n c8) n (evs (okL ((L.zip R).take k))) (wr.heap.size + 1) 1 #[.int .i64 e.k, .int .i64 e.i, .int .i64 e.n, .string e.d] 33 rfl rfl ?aG rfl ?a1 ?aO ?aB ?aN (by decide) ?_; (case aG => exact blk_second wr _ _); (case a1 => intro u hu; simp only [List.mem_cons, List.not_mem_nil, or_false] at hu; rcases hu with rfl | rfl | rfl | rfl <;> rfl); (case aO => exact (HO8.out.alloc _).alloc _); (case aB => exact (by have h0 := HF.out.size; rw [World.size_alloc, World.size_alloc]; omega)); (case aN => exact (by omega)); intro v5 w5 ho5 hf5 hat5; obtain ⟨A5, c5', rfl⟩ := own_slice ho5; have HO5 := Aside0.mk ho5; have HNR := Aside0.mk (ne_types HO8.out HO9.out (by decide)); have HO95 := Aside0.mk (hf5.own ((HO9.out.alloc (.cells #[.int .i64 0, .string s] 46)).alloc (.cells #[.int .i64 e.k, .int .i64 e.i, .int .i64 e.n, .string e.d] 33)) (fun b hb hs => HNR.out b hs hb)); have hB5 := hf5.blk (blk_alloc (blk_new wr (.cells #[.int .i64 0, .string s] 46)) (.cells #[.int .i64 e.k, .int .i64 e.i, .int .i64 e.n, .string e.d] 33)) (fun hs => by have := (own_old HO8.out hs).2; omega); have p0 : w5.cell? ⟨wr.heap.size, 0, none⟩ = some (.int .i64 0) := (blk_cell hB5 0).trans rfl; have p1 : w5.cell? ⟨wr.heap.size, 1, none⟩ = some (.string s) := (blk_cell hB5 1).trans rfl; have HF5 := Aside0.mk (((HF.out.alloc (.cells #[.int .i64 0, .string s] 46)).alloc (.cells #[.int .i64 e.k, .int .i64 e.i, .int .i64 e.n, .string e.d] 33)).trans hf5 (fun i hi hs => by have := (own_old HO8.out hs).1; omega)); clear ho5 hf5 hat5 hB5) | ((with_reducible refine gate_builtin (b := .append) (xs := #[.tmp 54, .tmp 56]) rfl ?_); at_builtin; refine app_lit rfl (.tmp 54) (.tmp 56) 41 46 (.agg #[.int .i64 0, .string ⟨#[]⟩]) 2 24 rfl Tryz.underlying41 infoOut (by decide) (by decide) w4.heap.size (.slice A9 n c9) n (outs (okR ((L.zip R).take k))) w5.heap.size 1 #[.int .i64 0, .string s] 46 rfl rfl ?aG rfl ?a1 ?aO ?aB ?aN (by decide) ?_; (case aG => exact blk_new w5 _); (case a1 => intro u hu; simp only [List.mem_cons, List.not_mem_nil, or_false] at hu; rcases hu with rfl | rfl <;> rfl); (case aO => exact HO95.out.alloc _); (case aB => exact (by have h0 := HF5.out.size; rw [World.size_alloc]; omega)); (case aN => exact (by omega)); intro v6 w6 ho6 hf6 hat6; obtain ⟨A6, c6', rfl⟩ := own_slice ho6; have HO6 := Aside0.mk ho6; have HO56 := Aside0.mk (hf6.own (HO5.out.alloc (.cells #[.int .i64 0, .string s] 46)) (fun b hb hs => ne_types HO5.out HO95.out (by decide) b hb hs)); have HF6 := Aside0.mk ((HF5.out.alloc (.cells #[.int .i64 0, .string s] 46)).trans hf6 (fun i hi hs => by have := (own_old HO95.out hs).1; omega)); clear ho6 hf6 hat6))
            refine ⟨⟨k + 1, n + 1, A5, c5', A6, c6', ?_, by omega, rfl, rfl, by omega, ⟨by rw [HLR.out.2, List.length_append, HN.out]; rfl⟩, ⟨by rw [HLR.out.1, evs_snoc]; exact HO56.out⟩, ⟨by rw [HLR.out.2, outs_snoc, show outC (0, bs) = [.int .i64 0, .string s] from by rw [← HS.out]; rfl]; exact HO6.out⟩, HF6⟩, ?_⟩
            · first | rfl | (push_cast; rfl)
            · simp only [intOf]; omega
          · have hx0 : (x == 0) = false := by simpa using hx
            have hLR := And.intro hl1 hr1
            simp only [hx, if_false, List.append_nil] at hLR
            have HLR := Aside0.mk hLR
            clear hl1 hr1 hz hq he hs hcs hLR hx
            go_wp2
            refine ⟨⟨k + 1, n, A8, c8, A9, c9, ?_, by omega, rfl, rfl, by omega, ⟨by rw [HLR.out.2, HN.out]⟩, ⟨by rw [HLR.out.1]; exact HO8.out.alloc _⟩, ⟨by rw [HLR.out.2]; exact HO9.out.alloc _⟩, ⟨HF.out.alloc _⟩⟩, ?_⟩
            · first | rfl | (push_cast; rfl)
            · simp only [intOf]; omega
        · have hkl : k = L.length := by omega
          have hzt : (L.zip R).take k = L.zip R := by rw [List.take_of_length_le]; rw [List.length_zip, hkl]; omega
          rw [hzt] at HN HO8 HO9
          obtain ⟨M, hM⟩ : ∃ M, M = okL (L.zip R) := ⟨_, rfl⟩
          obtain ⟨T, hT⟩ : ∃ T, T = okR (L.zip R) := ⟨_, rfl⟩
          rw [← hM] at HO8
          rw [← hT] at HO9 HN
          have hMl : n = M.length := by rw [hM, okL_len, ← hT, HN.out]
          have hMs : M.Sublist L := by rw [hM]; exact okL_zip L R (by rw [HRL.out]; omega)
          have hTn : T.length = n := HN.out
          have hst : (run M (stNew c)).2 = T := by rw [hM, hT, HRR.out]; exact stays L (stNew c)
          have hRM : ReadsEv wr A8 M := reads_of_own (base := w4.heap.size) (m := n) (c := c8) (by unfold OwnsEv; rw [← hMl]; exact HO8.out) (fun e he => H120.out.1 e (hMs.subset he)) (by have := hMs.length_le; omega)
          have HRM := Aside0.mk hRM
          have HFw : Aside0 (Fr nope w wr) := ⟨HR1'.out.trans HF.out (fun _ _ h => h)⟩
          have HMM := Aside0.mk (And.intro hMl (And.intro hMs hst))
          obtain ⟨c0, c1, c2, c3, c4, c5, c6, c7⟩ := cells8 ((HF4.out.trans HF.out (fun _ _ h => h)).blk HC.out (fun h => h))
          have hnl : n ≤ 120 := by omega
          clear hzt hM hT hMl hMs hst hRM hTn hlt hk hnk
          subst hkl
          go_wp2_with (first | (go_at_call 15; (with_reducible refine (HPL.out M n A8 c8 wr HMM.out.2.1 HMM.out.1 HFw.out HRM.out).mono ?_); rintro e6 w6 ⟨p6, A6, c6', rfl, hf6, hr6⟩; have HF6 := Aside0.mk (HFw.out.trans hf6 (fun _ _ h => h)); have HO6 : Aside0 (ReadsOut w6 A6 T) := ⟨by rw [← HMM.out.2.2]; exact hr6⟩; have HO96 := Aside0.mk (readsOut (hf6.own HO9.out (fun _ _ h => h)) HN.out.symm); clear hf6 hr6 c0 c1 c2 c3 c4 c5 c6 c7))
          go_loopw [77] (fun v77 wq => ∃ (i : Nat), v77 = .int .i64 i ∧ i ≤ n ∧ Aside0 (Fr nope w6 wq)) (fun v77 _ => n - (intOf v77).toNat)
          case atStart => exact ⟨0, rfl, Nat.zero_le _, ⟨Fr.refl nope w6⟩⟩
          case round =>
            obtain ⟨i, rfl, hi, HFq⟩ := hrel
            by_cases hlt : i < n
            · obtain ⟨ad6, hA6, hc6⟩ := (HO6.out.fr HFq.out) (by rw [HN.out]; omega)
              obtain ⟨ad9, hA9, hc9⟩ := (HO96.out.fr HFq.out) (by rw [HN.out]; omega)
              obtain ⟨a0, a1⟩ := hc6 i (by rw [HN.out]; exact hlt)
              obtain ⟨b0, b1⟩ := hc9 i (by rw [HN.out]; exact hlt)
              subst hA6 hA9
              obtain ⟨x, hx⟩ : ∃ x, (T.getD i (0, [])).1 = x := ⟨_, rfl⟩
              obtain ⟨s, hs⟩ : ∃ s, strOfNums (T.getD i (0, [])).2 = s := ⟨_, rfl⟩
              rw [hx] at a0 b0
              rw [hs] at a1 b1
              have hii : (i : Int) < (n : Int) := by omega
              have hi0 : (0 : Int) ≤ (i : Int) := by omega
              have hw2 : IntKind.i64.wrap ((i : Int) + 1) = ((i + 1 : Nat) : Int) := by rw [IntKind.wrap_i64]; push_cast; omega
              have l6 := World.block_lt_of_cell? _ _ a0
              have l9 := World.block_lt_of_cell? _ _ b0
              clear hx hs hc6 hc9
              go_wp2
              go_quiet (fail)
              go_wp2
              refine ⟨⟨i + 1, ?_, by omega, ⟨HFq.out.drewN _⟩⟩, ?_⟩
              · first | rfl | (push_cast; rfl)
              · simp only [intOf]; omega
            · have hin : i = n := by omega
              subst hin
              go_wp2
              go_returns
              exact ⟨rfl, HF6.out.trans HFq.out (fun _ _ h => h)⟩
end Go.Proofs.YtfkamoiamebngaaGreatDoor.BroW

/- Decode: bytes as a conf and events. -/
import Derived.Test.YthhibgkgbcdjnaaScrC
namespace Go.Proofs.Ythhibgkgbcdjnaa.ScrW
open Go.RowKit Go.Proofs.YthhibgkgbcdjnaaW.PrintWords Go.Proofs.YthhibgkgbcdjnaaW.PrintMore Go.Proofs.Ythhibgkgbcdjnaa.Fr Go.Proofs.Ythhibgkgbcdjnaa.ScrP Go.Proofs.Ythhibgkgbcdjnaa.Openers
set_option linter.unusedVariables false
set_option linter.unusedSimpArgs false

theorem infoEv : (Try.prog.info? 30).map (fun i => (i.zero, i.size, i.bytes)) = some (some (evV ev0), 4, 40) := by kernel_rfl
def evC (e : Ev) : List Value := [.int .i64 e.k, .int .i64 e.i, .int .i64 e.n, .string e.d]
def evs (L : List Ev) : List Value := (L.map evC).flatten
theorem evC_one (e : Ev) : ∀ u ∈ evC e, u.oneCell' = true := by
  intro u hu
  simp only [evC, List.mem_cons, List.not_mem_nil, or_false] at hu
  rcases hu with rfl | rfl | rfl | rfl <;> rfl
theorem evs_snoc (L : List Ev) (e : Ev) : evs (L ++ [e]) = evs L ++ evC e := by simp [evs]
theorem evs_len (L : List Ev) : (evs L).length = L.length * 4 := by
  induction L with
  | nil => rfl
  | cons e L ih => simp only [evs, List.map_cons, List.flatten_cons, List.length_append, List.length_cons] at *; rw [ih]; simp [evC]; omega
theorem evs_at : ∀ (L : List Ev) (j f : Nat), j < L.length → f < 4 → (evs L)[j * 4 + f]? = (evC (L.getD j ev0))[f]?
  | [], j, f, h, _ => by simp at h
  | e :: L, 0, f, _, hf => by
    have : evs (e :: L) = evC e ++ evs L := by simp [evs]
    rw [this, Nat.zero_mul, Nat.zero_add, List.getElem?_append_left (by simpa [evC] using hf)]
    rfl
  | e :: L, j + 1, f, h, hf => by
    have : evs (e :: L) = evC e ++ evs L := by simp [evs]
    rw [this, List.getElem?_append_right (by simp [evC]; omega), show (j + 1) * 4 + f - (evC e).length = j * 4 + f by simp [evC]; omega, evs_at L j f (by simpa using h) hf]
    rfl
def OwnsEv (base : Nat) (wr : World) (v : Value) (L : List Ev) : Prop := wr.ownsRow base 30 4 v L.length (evs L)
theorem own_readsEv {base : Nat} {wr : World} {v : Value} {L : List Ev} (h : OwnsEv base wr v L) (hd : ∀ e ∈ L, e.d.size ≤ 140737488351232) (hl : L.length ≤ 140737488351232) :
    ∃ A c, v = .slice A L.length c ∧ L.length ≤ c ∧ ReadsEv wr A L := by
  obtain ⟨h1, h2⟩ := h
  rcases h2 with ⟨rfl, h0⟩ | ⟨g, cap, cur, rfl, hb, hh, hn, r⟩
  · exact ⟨none, 0, by rw [h0], by omega, hl, fun h => by omega⟩
  · refine ⟨_, cap, rfl, hn, hl, fun h => ⟨_, rfl, fun j hj => ?_⟩⟩
    have hc := World.ownsRow.cells (w := wr) (base := base) (e := 30) (size := 4) (v := .slice (some ⟨g, 0, none⟩) L.length cap) (n := L.length) (xs := evs L) ⟨h1, .inr ⟨g, cap, cur, rfl, hb, hh, hn, r⟩⟩ (g := g) rfl
    refine ⟨hc (j * 4) _ ((evs_at L j 0 hj (by decide)).trans rfl), hc (j * 4 + 1) _ ((evs_at L j 1 hj (by decide)).trans rfl), hc (j * 4 + 2) _ ((evs_at L j 2 hj (by decide)).trans rfl), hc (j * 4 + 3) _ ((evs_at L j 3 hj (by decide)).trans rfl), hd _ (getD_mem L j hj _ rfl)⟩

/-- the conf so far -/
def cfPart (b : List Int) (k : Nat) : Cf :=
  ⟨if 0 < k then (cfOf b).a0 else 0, if 1 < k then (cfOf b).a1 else 0, if 2 < k then (cfOf b).a2 else 0, if 3 < k then (cfOf b).a3 else 0, if 4 < k then (cfOf b).a4 else 0, if 5 < k then (cfOf b).a5 else 0, if 6 < k then (cfOf b).a6 else 0, if 7 < k then (cfOf b).a7 else 0⟩
theorem cfPart_zero (b : List Int) : cfPart b 0 = cf0 := rfl
theorem cfPart_all (b : List Int) : cfPart b 8 = cfOf b := rfl
theorem cfPart_step (b : List Int) (k : Nat) (h : k < 8) : (cfCells (cfPart b k)).setIfInBounds k (.int .i64 (rdN ((b.take (3 * k + 3)).drop (3 * k)))) = cfCells (cfPart b (k + 1)) := by
  obtain rfl | rfl | rfl | rfl | rfl | rfl | rfl | rfl : k = 0 ∨ k = 1 ∨ k = 2 ∨ k = 3 ∨ k = 4 ∨ k = 5 ∨ k = 6 ∨ k = 7 := by omega
  all_goals rfl
def cfOfCells (c : Cf) : Array Value := cfCells c
theorem cells8 {w : World} {g : Nat} {T : TypeId} {c : Cf} (h : w.heap[g]? = some (.cells (cfCells c) T (0, 0))) :
    w.cell? ⟨g, 0, none⟩ = some (.int .i64 c.a0) ∧ w.cell? ⟨g, 1, none⟩ = some (.int .i64 c.a1) ∧ w.cell? ⟨g, 2, none⟩ = some (.int .i64 c.a2) ∧ w.cell? ⟨g, 3, none⟩ = some (.int .i64 c.a3) ∧ w.cell? ⟨g, 4, none⟩ = some (.int .i64 c.a4) ∧ w.cell? ⟨g, 5, none⟩ = some (.int .i64 c.a5) ∧ w.cell? ⟨g, 6, none⟩ = some (.int .i64 c.a6) ∧ w.cell? ⟨g, 7, none⟩ = some (.int .i64 c.a7) :=
  ⟨(blk_cell h 0).trans rfl, (blk_cell h 1).trans rfl, (blk_cell h 2).trans rfl, (blk_cell h 3).trans rfl, (blk_cell h 4).trans rfl, (blk_cell h 5).trans rfl, (blk_cell h 6).trans rfl, (blk_cell h 7).trans rfl⟩
theorem cells8o {w : World} {g : Nat} {T : TypeId} {c : Cf} (h : ∀ o, (w.alloc o).heap[g]? = some (.cells (cfCells c) T (0, 0))) :
    (∀ o, (w.alloc o).cell? ⟨g, 0, none⟩ = some (.int .i64 c.a0)) ∧ (∀ o, (w.alloc o).cell? ⟨g, 1, none⟩ = some (.int .i64 c.a1)) ∧ (∀ o, (w.alloc o).cell? ⟨g, 2, none⟩ = some (.int .i64 c.a2)) ∧ (∀ o, (w.alloc o).cell? ⟨g, 3, none⟩ = some (.int .i64 c.a3)) ∧ (∀ o, (w.alloc o).cell? ⟨g, 4, none⟩ = some (.int .i64 c.a4)) ∧ (∀ o, (w.alloc o).cell? ⟨g, 5, none⟩ = some (.int .i64 c.a5)) ∧ (∀ o, (w.alloc o).cell? ⟨g, 6, none⟩ = some (.int .i64 c.a6)) ∧ (∀ o, (w.alloc o).cell? ⟨g, 7, none⟩ = some (.int .i64 c.a7)) :=
  ⟨fun o => (blk_cell (h o) 0).trans rfl, fun o => (blk_cell (h o) 1).trans rfl, fun o => (blk_cell (h o) 2).trans rfl, fun o => (blk_cell (h o) 3).trans rfl, fun o => (blk_cell (h o) 4).trans rfl, fun o => (blk_cell (h o) 5).trans rfl, fun o => (blk_cell (h o) 6).trans rfl, fun o => (blk_cell (h o) 7).trans rfl⟩
theorem frozen8o {w : World} {g : Nat} {T : TypeId} {cs : Array Value} (h : ∀ o, (w.alloc o).heap[g]? = some (.cells cs T (0, 0))) :
    (∀ o, (w.alloc o).frozen? ⟨g, 0, none⟩ = false) ∧ (∀ o, (w.alloc o).frozen? ⟨g, 1, none⟩ = false) ∧ (∀ o, (w.alloc o).frozen? ⟨g, 2, none⟩ = false) ∧ (∀ o, (w.alloc o).frozen? ⟨g, 3, none⟩ = false) ∧ (∀ o, (w.alloc o).frozen? ⟨g, 4, none⟩ = false) ∧ (∀ o, (w.alloc o).frozen? ⟨g, 5, none⟩ = false) ∧ (∀ o, (w.alloc o).frozen? ⟨g, 6, none⟩ = false) ∧ (∀ o, (w.alloc o).frozen? ⟨g, 7, none⟩ = false) :=
  ⟨fun o => blk_frozen (h o) 0, fun o => blk_frozen (h o) 1, fun o => blk_frozen (h o) 2, fun o => blk_frozen (h o) 3, fun o => blk_frozen (h o) 4, fun o => blk_frozen (h o) 5, fun o => blk_frozen (h o) 6, fun o => blk_frozen (h o) 7⟩
theorem set8 {w1 : World} {g : Nat} {c : Cf} {T : TypeId} (hB : w1.heap[g]? = some (.cells (cfCells c) T (0, 0))) (d : Cf) :
    ∃ W4, W4 = (((((((w1.setCell ⟨g, 0, none⟩ (.int .i64 d.a0)).setCell ⟨g, 1, none⟩ (.int .i64 d.a1)).setCell ⟨g, 2, none⟩ (.int .i64 d.a2)).setCell ⟨g, 3, none⟩ (.int .i64 d.a3)).setCell ⟨g, 4, none⟩ (.int .i64 d.a4)).setCell ⟨g, 5, none⟩ (.int .i64 d.a5)).setCell ⟨g, 6, none⟩ (.int .i64 d.a6)).setCell ⟨g, 7, none⟩ (.int .i64 d.a7) ∧
      W4.heap[g]? = some (.cells (cfCells d) T (0, 0)) := by
  have s0 := blk_put (cs' := #[.int .i64 d.a0, .int .i64 c.a1, .int .i64 c.a2, .int .i64 c.a3, .int .i64 c.a4, .int .i64 c.a5, .int .i64 c.a6, .int .i64 c.a7]) hB 0 (.int .i64 d.a0) rfl
  have s1 := blk_put (cs' := #[.int .i64 d.a0, .int .i64 d.a1, .int .i64 c.a2, .int .i64 c.a3, .int .i64 c.a4, .int .i64 c.a5, .int .i64 c.a6, .int .i64 c.a7]) s0 1 (.int .i64 d.a1) rfl
  have s2 := blk_put (cs' := #[.int .i64 d.a0, .int .i64 d.a1, .int .i64 d.a2, .int .i64 c.a3, .int .i64 c.a4, .int .i64 c.a5, .int .i64 c.a6, .int .i64 c.a7]) s1 2 (.int .i64 d.a2) rfl
  have s3 := blk_put (cs' := #[.int .i64 d.a0, .int .i64 d.a1, .int .i64 d.a2, .int .i64 d.a3, .int .i64 c.a4, .int .i64 c.a5, .int .i64 c.a6, .int .i64 c.a7]) s2 3 (.int .i64 d.a3) rfl
  have s4 := blk_put (cs' := #[.int .i64 d.a0, .int .i64 d.a1, .int .i64 d.a2, .int .i64 d.a3, .int .i64 d.a4, .int .i64 c.a5, .int .i64 c.a6, .int .i64 c.a7]) s3 4 (.int .i64 d.a4) rfl
  have s5 := blk_put (cs' := #[.int .i64 d.a0, .int .i64 d.a1, .int .i64 d.a2, .int .i64 d.a3, .int .i64 d.a4, .int .i64 d.a5, .int .i64 c.a6, .int .i64 c.a7]) s4 5 (.int .i64 d.a5) rfl
  have s6 := blk_put (cs' := #[.int .i64 d.a0, .int .i64 d.a1, .int .i64 d.a2, .int .i64 d.a3, .int .i64 d.a4, .int .i64 d.a5, .int .i64 d.a6, .int .i64 c.a7]) s5 6 (.int .i64 d.a6) rfl
  have s7 := blk_put (cs' := #[.int .i64 d.a0, .int .i64 d.a1, .int .i64 d.a2, .int .i64 d.a3, .int .i64 d.a4, .int .i64 d.a5, .int .i64 d.a6, .int .i64 d.a7]) s6 7 (.int .i64 d.a7) rfl
  exact ⟨_, rfl, s7⟩
theorem fr_set8 {w w1 : World} (h : Fr nope w w1) {g : Nat} (hg : w.heap.size ≤ g) (u0 u1 u2 u3 u4 u5 u6 u7 : Value) :
    Fr nope w ((((((((w1.setCell ⟨g, 0, none⟩ u0).setCell ⟨g, 1, none⟩ u1).setCell ⟨g, 2, none⟩ u2).setCell ⟨g, 3, none⟩ u3).setCell ⟨g, 4, none⟩ u4).setCell ⟨g, 5, none⟩ u5).setCell ⟨g, 6, none⟩ u6).setCell ⟨g, 7, none⟩ u7) :=
  (((((((h.set (fun h => by omega) 0 _).set (fun h => by omega) 1 _).set (fun h => by omega) 2 _).set (fun h => by omega) 3 _).set (fun h => by omega) 4 _).set (fun h => by omega) 5 _).set (fun h => by omega) 6 _).set (fun h => by omega) 7 _

def DecOk (bs : List Int) (w : World) (e : Ending) (w' : World) : Prop :=
  ∃ v, e = .returned (.tuple #[cfV (decP bs).1, v, .int .i64 (decP bs).2.2.1, .int .i64 (decP bs).2.2.2]) ∧ Fr nope w w' ∧ OwnsEv w.heap.size w' v (decP bs).2.1

theorem dec_short {bs : List Int} {w w' : World} {n : Nat} {e : Ending} (h : decP bs = (cf0, [], 0, n)) (he : e = .returned (.tuple #[cfV cf0, .slice none 0 0, .int .i64 0, .int .i64 n])) (hF : Fr nope w w') : DecOk bs w e w' := by
  unfold DecOk
  rw [h]
  exact ⟨_, he, hF, World.ownsRow_nil _ _ _ _⟩

theorem dec_done {bs : List Int} {w w' : World} {c : Cf} {L : List Ev} {k x : Nat} {e : Ending} {v : Value} (h : decP bs = (c, L, k, x)) (he : e = .returned (.tuple #[cfV c, v, .int .i64 k, .int .i64 x])) (hF : Fr nope w w') (ho : OwnsEv w.heap.size w' v L) : DecOk bs w e w' := by
  unfold DecOk
  rw [h]
  exact ⟨_, he, hF, ho⟩
theorem own_apart {w : World} {b : Nat} {e : TypeId} {size n : Nat} {v : Value} {xs : List Value} (h : w.ownsRow b e size v n xs) {g : Nat} (hg : g < b) : some g ≠ v.ownBlock := by
  intro he
  have := (own_old h he.symm).1
  omega
theorem own_far8 {w : World} {b : Nat} {e : TypeId} {size n : Nat} {v : Value} {xs : List Value} (h : w.ownsRow b e size v n xs) {g : Nat} (hg : some g ≠ v.ownBlock) (u0 u1 u2 u3 u4 u5 u6 u7 : Value) :
    ((((((((w.setCell ⟨g, 0, none⟩ u0).setCell ⟨g, 1, none⟩ u1).setCell ⟨g, 2, none⟩ u2).setCell ⟨g, 3, none⟩ u3).setCell ⟨g, 4, none⟩ u4).setCell ⟨g, 5, none⟩ u5).setCell ⟨g, 6, none⟩ u6).setCell ⟨g, 7, none⟩ u7).ownsRow b e size v n xs :=
  own_setCell (own_setCell (own_setCell (own_setCell (own_setCell (own_setCell (own_setCell (own_setCell h hg _) hg _) hg _) hg _) hg _) hg _) hg _) hg _

set_option maxHeartbeats 2000000 in
set_option maxRecDepth 100000 in
theorem decode_calls (bs : List Int) (A : Option Addr) (cp : Nat) (w : World) (hc : bs.length ≤ cp) (hcm : cp ≤ 9223372036854775807) (hr : ReadsInt w .u8 A bs.length bs) (hb : isB bs) :
    Calls Try.prog 13 #[.slice A bs.length cp] w (DecOk bs w) := by
  have HR := Aside0.mk hr
  have HB := Aside0.mk hb
  clear hr hb
  by_cases h1 : 262144 < bs.length
  · have HE : Aside0 (decP bs = (cf0, [], 0, 6)) := ⟨by unfold decP; rw [if_pos h1]⟩
    have t1 : decide (262144 < (bs.length : Int)) = true := decide_eq_true (by omega)
    clear h1
    go_enter Try.func13, Try.ntmps13
    go_wp2
    go_returns
    exact dec_short HE.out rfl (((Fr.refl _ _).alloc _).alloc _)
  have t1 : decide (262144 < (bs.length : Int)) = false := decide_eq_false (by omega)
  by_cases h2 : bs.length < 24
  · have HE : Aside0 (decP bs = (cf0, [], 0, 5)) := ⟨by unfold decP; rw [if_neg h1, if_pos h2]⟩
    clear h1
    go_enter Try.func13, Try.ntmps13
    go_wp2
    go_returns
    exact dec_short HE.out rfl (((Fr.refl _ _).alloc _).alloc _)
  have h24 : 24 ≤ bs.length := by omega
  have HLC : Aside0 (bs.length ≤ 262144) := ⟨by omega⟩
  clear h1 h2
  go_enter Try.func13, Try.ntmps13
  go_wp2_with (first | (go_at_call 18; refine (fields_calls (w.heap.size + 1) _).mono ?_; rintro e w2 ⟨rfl, hw2⟩; have HW2 := Aside0.mk hw2; clear hw2))
  have hC6 : w2.heap[w.heap.size + 1]? = some (.cells (cfCells (cfPart bs 0)) 23 (0, 0)) := by
    rw [HW2.out]; exact blk_drew (blk_alloc (by rw [← World.size_alloc w (.cells (cfCells cf0) 23)]; exact blk_new _ _) _)
  have hC2 : w2.heap[w.heap.size]? = some (.cells (cfCells cf0) 23 (0, 0)) := by rw [HW2.out]; exact blk_drew (blk_alloc (blk_alloc (blk_new w _) _) _)
  have hP : w2.heap[w.heap.size + 1 + 1]? = some (.cells (ptrs8 (w.heap.size + 1)) 53 (0, 0)) := by
    rw [HW2.out, ← World.size_alloc w (.cells (cfCells cf0) 23), ← World.size_alloc _ (.cells (cfCells cf0) 23)]; exact blk_drew (blk_new _ _)
  have HF2 : Aside0 (Fr nope w w2) := ⟨by rw [HW2.out]; exact ((((Fr.refl _ _).alloc _).alloc _).alloc _).drew⟩
  have HC6 := Aside0.mk hC6
  have HC2 := Aside0.mk hC2
  have HP := Aside0.mk hP
  clear hC6 hC2 hP HW2
  obtain ⟨i5, hi5, hz5⟩ := Option.map_eq_some_iff.1 info5
  simp only [Prod.mk.injEq] at hz5
  have HI5 := Aside0.mk (And.intro hi5 hz5.2.1)
  clear hi5 hz5
  go_loopw [24] (fun v24 wr => ∃ (k : Nat), v24 = .int .i64 k ∧ k ≤ 8 ∧ Aside0 (wr.heap[w.heap.size + 1]? = some (.cells (cfCells (cfPart bs k)) 23 (0, 0))) ∧ Aside0 (wr.heap[w.heap.size]? = some (.cells (cfCells cf0) 23 (0, 0))) ∧ Aside0 (wr.heap[w.heap.size + 1 + 1]? = some (.cells (ptrs8 (w.heap.size + 1)) 53 (0, 0))) ∧ Aside0 (Fr nope w wr)) (fun i _ => 8 - (intOf i).toNat)
  case atStart => exact ⟨0, rfl, Nat.zero_le _, HC6, HC2, HP, HF2⟩
  case round =>
    clear HC6 HC2 HP HF2
    obtain ⟨k, rfl, hk, HC6, HC2, HP, HF⟩ := hrel
    by_cases hlt : k < 8
    · obtain ⟨A1, hs1, hr1, hl1⟩ := print_mid_int (P := Try.prog) (k := .u8) 32 5 Try.underlying32 HI5.out.1 HI5.out.2 A cp bs (3 * (k : Int)) (3 * (k : Int) + 3) (by omega) (by omega) (by omega) hc
      obtain ⟨m1, hm1⟩ : ∃ l, l = (bs.take (3 * (k : Int) + 3).toNat).drop (3 * (k : Int)).toNat := ⟨_, rfl⟩
      rw [← hm1] at hs1 hr1 hl1
      have HR1 : Aside0 (ReadsInt wr .u8 A1 m1.length m1) := ⟨hr1 wr (HF.out.reads HR.out (fun _ _ h => h))⟩
      have HL1 : Aside0 (m1.length ≤ 3) := ⟨by rw [hm1]; simp; omega⟩
      have HB1 : Aside0 (isB m1) := ⟨fun x hx => HB.out x (List.mem_of_mem_take (List.mem_of_mem_drop (by rw [← hm1]; exact hx)))⟩
      have HM1 : Aside0 (m1 = (bs.take (3 * k + 3)).drop (3 * k)) := ⟨by rw [hm1, show (3 * (k : Int) + 3).toNat = 3 * k + 3 by omega, show (3 * (k : Int)).toNat = 3 * k by omega]⟩
      have p1 : wr.cell? ⟨w.heap.size + 1 + 1, k, none⟩ = some (.pointer (some ⟨w.heap.size + 1, k, none⟩)) := (blk_cell HP.out k).trans (ptrs8_at _ k hlt)
      have c1 : wr.cell? ⟨w.heap.size + 1, k, none⟩ = some (.int .i64 ((cfL (cfPart bs k)).getD k 0)) := (blk_cell HC6.out k).trans (cfCells_at _ k hlt)
      have f1 := blk_frozen HC6.out k
      have HC6' : Aside0 ((wr.setCell ⟨w.heap.size + 1, k, none⟩ (.int .i64 (rdN m1))).heap[w.heap.size + 1]? = some (.cells (cfCells (cfPart bs (k + 1))) 23 (0, 0))) := ⟨by rw [← cfPart_step bs k hlt, ← HM1.out]; exact blk_set HC6.out k _⟩
      have HC2' : Aside0 ((wr.setCell ⟨w.heap.size + 1, k, none⟩ (.int .i64 (rdN m1))).heap[w.heap.size]? = some (.cells (cfCells cf0) 23 (0, 0))) := ⟨blk_far HC2.out (by simp) _⟩
      have HP' : Aside0 ((wr.setCell ⟨w.heap.size + 1, k, none⟩ (.int .i64 (rdN m1))).heap[w.heap.size + 1 + 1]? = some (.cells (ptrs8 (w.heap.size + 1)) 53 (0, 0))) := ⟨blk_far HP.out (by simp) _⟩
      have HF' : Aside0 (Fr nope w (wr.setCell ⟨w.heap.size + 1, k, none⟩ (.int .i64 (rdN m1)))) := ⟨HF.out.set (fun h => by omega) k _⟩
      obtain ⟨y, hy⟩ : ∃ y, (cfL (cfPart bs k)).getD k 0 = y := ⟨_, rfl⟩
      rw [hy] at c1
      clear hr1 hm1 hy
      go_wp2_with (first | (go_at_call 20; refine (read_calls m1 A1 _ _ HR1.out HB1.out HL1.out).mono ?_; rintro e w1 ⟨rfl, rfl⟩))
      case roundEnd =>
        refine ⟨⟨k + 1, by push_cast; rfl, hlt, HC6', HC2', HP', HF'⟩, ?_⟩
        simp only [intOf]
        omega
    · obtain rfl : k = 8 := by omega
      obtain ⟨c, hcf⟩ : ∃ c, cfPart bs 8 = c := ⟨_, rfl⟩
      rw [hcf] at HC6
      have HCF : Aside0 (cfOf bs = c) := ⟨hcf⟩
      clear hcf
      obtain ⟨c0, c1, c2, c3, c4, c5, c6, c7⟩ := cells8 HC6.out
      by_cases hcb : cfB c = true
      · go_wp2_with (first | (go_at_call 17; refine (confRight_calls c _).mono ?_; rintro e w5 ⟨rfl, hw5⟩; rw [hcb]; have HC6' := Aside0.mk (blk_below HC6.out hw5); have HC2' := Aside0.mk (blk_below HC2.out hw5); have HF5 := Aside0.mk (HF.out.below hw5); clear hw5))
        have HCB : Aside0 (cfB c = true) := ⟨hcb⟩
        have HDP : Aside0 (decP bs = (c, decGo bs.length bs 24 [])) := ⟨by unfold decP; rw [if_neg (by have := HLC.out; omega), if_neg (by omega), HCF.out, if_pos hcb]⟩
        clear c0 c1 c2 c3 c4 c5 c6 c7 hcb
        go_loopw [9, 10] (fun v9 v10 wq => ∃ (k f : Nat) (out : List Ev) (A9 : Option Addr) (c9 : Nat), v10 = .int .i64 k ∧ k ≤ bs.length ∧ v9 = .slice A9 out.length c9 ∧ Aside0 (bs.length ≤ k + f ∧ decGo bs.length bs 24 [] = decGo f bs k out) ∧ out.length ≤ 8192 ∧ Aside0 (OwnsEv w5.heap.size wq (.slice A9 out.length c9) out) ∧ Aside0 (Fr nope w5 wq)) (fun _ i _ => bs.length - (intOf i).toNat)
        case atStart => exact ⟨24, bs.length, [], none, 0, rfl, h24, rfl, ⟨by omega, rfl⟩, by decide, ⟨World.ownsRow_nil _ _ _ _⟩, ⟨Fr.refl _ _⟩⟩
        case round =>
          clear hk hlt HC6 HC2 HP
          obtain ⟨k, f, out, A9, c9, rfl, hk, rfl, HD, ho8, HO, HFq⟩ := hrel
          have hB6 := HFq.out.blk HC6'.out (fun h => h)
          have hB2 := HFq.out.blk HC2'.out (fun h => h)
          have HB6 := Aside0.mk hB6
          have HB2 := Aside0.mk hB2
          have hFw := HF5.out.trans HFq.out (fun i hi h => h.elim)
          have HFw := Aside0.mk hFw
          by_cases hlt : k < bs.length
          · obtain ⟨i5, hi5⟩ : ∃ i, Try.prog.info? 5 = some i ∧ i.size = 1 := ⟨_, HI5.out⟩
            obtain ⟨A1, hs1, hr1, hl1⟩ := print_drop_of (P := Try.prog) (Value.int .u8) (0 : Int) 32 5 .i64 Try.underlying32 hi5.1 hi5.2 A cp bs (k : Int) (by omega) (by omega) hc
            obtain ⟨m1, hm1⟩ : ∃ l, l = bs.drop (k : Int).toNat := ⟨_, rfl⟩
            rw [← hm1] at hs1 hr1 hl1
            have HM1 : Aside0 (m1 = bs.drop k) := ⟨by rw [hm1, Int.toNat_natCast]⟩
            have hbm : isB m1 := fun x hx => HB.out x (List.mem_of_mem_drop (by rw [← HM1.out]; exact hx))
            have HBM := Aside0.mk hbm
            have HL1 : Aside0 (m1.length = bs.length - k) := ⟨by rw [HM1.out, List.length_drop]⟩
            have hrw := hr1 wr (hFw.reads HR.out (fun _ _ h => h))
            obtain ⟨e, n, x, hone⟩ : ∃ e n x, oneP m1 = (e, n, x) := ⟨_, _, _, rfl⟩
            have hcall := one_calls m1 A1 (cp - (k : Int).toNat) wr hl1 (by omega) hrw hbm
            rw [hone] at hcall
            have HCALL : Aside0 (Calls Try.prog 21 #[.slice A1 m1.length (cp - (k : Int).toNat)] wr fun e1 w1 => e1 = .returned (.tuple #[.agg #[.int .i64 e.k, .int .i64 e.i, .int .i64 e.n, .string e.d], .int .i64 n, .int .i64 x]) ∧ Fr nope wr w1) := ⟨hcall⟩
            have HONE : Aside0 (oneP (bs.drop k) = (e, n, x)) := ⟨by rw [← HM1.out]; exact hone⟩
            have hx : x = 0 ∨ x = 5 ∨ x = 8 := by have := one_codes m1; rw [hone] at this; exact this
            clear hr1 hm1 hbm hrw hcall hone hi5 hB6 hB2 hFw
            obtain ⟨f1', rfl⟩ : ∃ f1, f = f1 + 1 := ⟨f - 1, by have := HD.out.1; omega⟩
            rcases hx with rfl | rfl | rfl
            · by_cases h92 : out.length = 8192
              · have t8 : ((out.length : Int) == 8192) = true := beq_iff_eq.2 (by omega)
                have t9 : decide ((out.length : Int) = 8192) = true := decide_eq_true (by omega)
                have H92 := Aside0.mk h92
                clear h92
                have HDD : Aside0 (decP bs = (c, out, k, 6)) := ⟨by rw [HDP.out, HD.out.2, decGo_full f1' bs k out e n hlt HONE.out H92.out]⟩
                go_wp2_with (first | (go_at_call 21; refine HCALL.out.mono ?_; rintro e1 w6 ⟨rfl, hf6⟩; have HB6o : Aside0 (∀ o, (w6.alloc o).heap[w.heap.size + 1]? = some (.cells (cfCells c) 23 (0, 0))) := ⟨fun o => blk_alloc (hf6.blk HB6.out (fun h => h)) o⟩; have HB2o : Aside0 (∀ o, (w6.alloc o).heap[w.heap.size]? = some (.cells (cfCells cf0) 23 (0, 0))) := ⟨fun o => blk_alloc (hf6.blk HB2.out (fun h => h)) o⟩; obtain ⟨c0, c1, c2, c3, c4, c5, c6, c7⟩ := cells8o HB6o.out; obtain ⟨r0, r1, r2, r3, r4, r5, r6, r7⟩ := cells8o HB2o.out; obtain ⟨f0, f1, f2, f3, f4, f5, f6, f7⟩ := frozen8o HB2o.out; have HF6 := Aside0.mk hf6; clear hf6))
                obtain ⟨W4, hW4, hb4⟩ := set8 (HB2o.out _) c
                (try dsimp only at hW4)
                rw [← hW4]
                obtain ⟨z0, z1, z2, z3, z4, z5, z6, z7⟩ := cells8 hb4
                (try dsimp only at z0 z1 z2 z3 z4 z5 z6 z7)
                refine bodyPost_ret (by simp [results, Try.results13, go_sem, z0, z1, z2, z3, z4, z5, z6, z7]; try rfl) rfl ?_
                rw [hW4]
                exact dec_done HDD.out rfl (fr_set8 ((HFw.out.trans HF6.out (fun i hi h => h.elim)).alloc _) (Nat.le_refl _) _ _ _ _ _ _ _ _) (own_far8 (((HF6.out.alloc _).own (own_base_le HO.out HF5.out.size) (fun _ _ h => h))) (own_apart HO.out (blk_lt HC2'.out)) _ _ _ _ _ _ _ _)
              · have t8 : ((out.length : Int) == 8192) = false := beq_eq_false_iff_ne.2 (by omega)
                have t9 : decide ((out.length : Int) = 8192) = false := decide_eq_false (by omega)
                have ho91 : out.length ≤ 8191 := by omega
                obtain ⟨g1, g2, g3, g4⟩ := one_back (bs.drop k) (fun x hx => HB.out x (List.mem_of_mem_drop hx)) e n HONE.out
                rw [List.length_drop] at g3
                obtain ⟨out2, hout⟩ : ∃ l, l = out ++ [e] := ⟨_, rfl⟩
                have HDN : Aside0 (bs.length ≤ (k + n) + f1' ∧ decGo bs.length bs 24 [] = decGo f1' bs (k + n) out2) := ⟨by have := HD.out.1; omega, by rw [hout, HD.out.2, decGo_step f1' bs k out e n hlt HONE.out h92]⟩
                have HOUT := Aside0.mk hout
                have hl2 : out2.length = out.length + 1 := by rw [hout]; simp
                have HL2 := Aside0.mk hl2
                have HFq2 : Aside0 (Fr nope w5 wr) := HFq
                clear g1 g4 h92 hout hl2
                go_wp2_with (first | (go_at_call 21; refine HCALL.out.mono ?_; rintro e1 w6 ⟨rfl, hf6⟩; have HF6 := Aside0.mk hf6; have hs6 : wr.heap.size ≤ w6.heap.size := hf6.size; clear hf6) | ((with_reducible refine gate_builtin (b := .append) (xs := #[.tmp 69, .tmp 71]) rfl ?_); at_builtin; refine print_append_cells (w0 := w6.alloc (.cells #[.int .i64 e.k, .int .i64 e.i, .int .i64 e.n, .string e.d] 30)) (W := w6.alloc (.cells #[.int .i64 e.k, .int .i64 e.i, .int .i64 e.n, .string e.d] 30)) w5.heap.size rfl (.tmp 69) (.tmp 71) 24 30 (evV ev0) 4 40 rfl Try.underlying24 infoEv rfl (by decide) (by decide) (.slice A9 out.length c9) out.length (evs out) (evC e) rfl (by rw [World.size_alloc]; rfl) rfl (evC_one e) ((HF6.out.alloc _).own HO.out (fun _ _ h => h)) (Below.refl _ _) (by have := HFq2.out.size; rw [World.size_alloc]; omega) (by omega) ?_; intro v1 w1 ho1 hb1 hg1 hat1; rw [← evs_snoc, ← HOUT.out, ← HL2.out] at ho1; obtain ⟨A1', c1', rfl⟩ := own_slice ho1; have HO1 := Aside0.mk (show OwnsEv w5.heap.size w1 (.slice A1' out2.length c1') out2 from ho1); have HF1 := Aside0.mk (((HFq2.out.trans HF6.out (fun i hi h => h.elim)).alloc _).grown hg1 (fun b hb hlt => absurd (own_old HO.out hb).1 (by omega))); clear ho1 hb1 hg1 hat1))
                case roundEnd =>
                  refine ⟨⟨k + n, f1', out2, A1', c1', by push_cast; rfl, by omega, rfl, HDN, by rw [HL2.out]; omega, HO1, HF1⟩, ?_⟩
                  simp only [intOf]
                  omega
            · have HDD : Aside0 (decP bs = (c, out, k, 5)) := ⟨by rw [HDP.out, HD.out.2, decGo_bad f1' bs k out 5 hlt (by rw [HONE.out]) (by decide)]⟩
              go_wp2_with (first | (go_at_call 21; refine HCALL.out.mono ?_; rintro e1 w6 ⟨rfl, hf6⟩; have HB6o : Aside0 (∀ o, (w6.alloc o).heap[w.heap.size + 1]? = some (.cells (cfCells c) 23 (0, 0))) := ⟨fun o => blk_alloc (hf6.blk HB6.out (fun h => h)) o⟩; have HB2o : Aside0 (∀ o, (w6.alloc o).heap[w.heap.size]? = some (.cells (cfCells cf0) 23 (0, 0))) := ⟨fun o => blk_alloc (hf6.blk HB2.out (fun h => h)) o⟩; obtain ⟨c0, c1, c2, c3, c4, c5, c6, c7⟩ := cells8o HB6o.out; obtain ⟨r0, r1, r2, r3, r4, r5, r6, r7⟩ := cells8o HB2o.out; obtain ⟨f0, f1, f2, f3, f4, f5, f6, f7⟩ := frozen8o HB2o.out; have HF6 := Aside0.mk hf6; clear hf6))
              obtain ⟨W4, hW4, hb4⟩ := set8 (HB2o.out _) c
              (try dsimp only at hW4)
              rw [← hW4]
              obtain ⟨z0, z1, z2, z3, z4, z5, z6, z7⟩ := cells8 hb4
              (try dsimp only at z0 z1 z2 z3 z4 z5 z6 z7)
              refine bodyPost_ret (by simp [results, Try.results13, go_sem, z0, z1, z2, z3, z4, z5, z6, z7]; try rfl) rfl ?_
              rw [hW4]
              exact dec_done HDD.out rfl (fr_set8 ((HFw.out.trans HF6.out (fun i hi h => h.elim)).alloc _) (Nat.le_refl _) _ _ _ _ _ _ _ _) (own_far8 (((HF6.out.alloc _).own (own_base_le HO.out HF5.out.size) (fun _ _ h => h))) (own_apart HO.out (blk_lt HC2'.out)) _ _ _ _ _ _ _ _)
            · have HDD : Aside0 (decP bs = (c, out, k, 8)) := ⟨by rw [HDP.out, HD.out.2, decGo_bad f1' bs k out 8 hlt (by rw [HONE.out]) (by decide)]⟩
              go_wp2_with (first | (go_at_call 21; refine HCALL.out.mono ?_; rintro e1 w6 ⟨rfl, hf6⟩; have HB6o : Aside0 (∀ o, (w6.alloc o).heap[w.heap.size + 1]? = some (.cells (cfCells c) 23 (0, 0))) := ⟨fun o => blk_alloc (hf6.blk HB6.out (fun h => h)) o⟩; have HB2o : Aside0 (∀ o, (w6.alloc o).heap[w.heap.size]? = some (.cells (cfCells cf0) 23 (0, 0))) := ⟨fun o => blk_alloc (hf6.blk HB2.out (fun h => h)) o⟩; obtain ⟨c0, c1, c2, c3, c4, c5, c6, c7⟩ := cells8o HB6o.out; obtain ⟨r0, r1, r2, r3, r4, r5, r6, r7⟩ := cells8o HB2o.out; obtain ⟨f0, f1, f2, f3, f4, f5, f6, f7⟩ := frozen8o HB2o.out; have HF6 := Aside0.mk hf6; clear hf6))
              obtain ⟨W4, hW4, hb4⟩ := set8 (HB2o.out _) c
              (try dsimp only at hW4)
              rw [← hW4]
              obtain ⟨z0, z1, z2, z3, z4, z5, z6, z7⟩ := cells8 hb4
              (try dsimp only at z0 z1 z2 z3 z4 z5 z6 z7)
              refine bodyPost_ret (by simp [results, Try.results13, go_sem, z0, z1, z2, z3, z4, z5, z6, z7]; try rfl) rfl ?_
              rw [hW4]
              exact dec_done HDD.out rfl (fr_set8 ((HFw.out.trans HF6.out (fun i hi h => h.elim)).alloc _) (Nat.le_refl _) _ _ _ _ _ _ _ _) (own_far8 (((HF6.out.alloc _).own (own_base_le HO.out HF5.out.size) (fun _ _ h => h))) (own_apart HO.out (blk_lt HC2'.out)) _ _ _ _ _ _ _ _)
          · obtain ⟨c0, c1, c2, c3, c4, c5, c6, c7⟩ := cells8 hB6
            obtain ⟨r0, r1, r2, r3, r4, r5, r6, r7⟩ := cells8 hB2
            have f0 := blk_frozen hB2 0
            have f1 := blk_frozen hB2 1
            have f2 := blk_frozen hB2 2
            have f3 := blk_frozen hB2 3
            have f4 := blk_frozen hB2 4
            have f5 := blk_frozen hB2 5
            have f6 := blk_frozen hB2 6
            have f7 := blk_frozen hB2 7
            have HDD : Aside0 (decP bs = (c, out, k, 0)) := ⟨by rw [HDP.out, HD.out.2, decGo_end f bs k out hlt]⟩
            clear hB6 hB2 hFw
            go_wp2
            obtain ⟨W4, hW4, hb4⟩ := set8 HB2.out c
            (try dsimp only at hW4)
            rw [← hW4]
            obtain ⟨z0, z1, z2, z3, z4, z5, z6, z7⟩ := cells8 hb4
            (try dsimp only at z0 z1 z2 z3 z4 z5 z6 z7)
            refine bodyPost_ret (by simp [results, Try.results13, go_sem, z0, z1, z2, z3, z4, z5, z6, z7]; try rfl) rfl ?_
            rw [hW4]
            exact dec_done HDD.out rfl (fr_set8 HFw.out (Nat.le_refl _) _ _ _ _ _ _ _ _) (own_far8 (own_base_le HO.out HF5.out.size) (own_apart HO.out (blk_lt HC2'.out)) _ _ _ _ _ _ _ _)
      · have hcbf : cfB c = false := by simpa using hcb
        clear hcb
        have HE : Aside0 (decP bs = (cf0, [], 0, 8)) := ⟨by unfold decP; rw [if_neg (by have := HLC.out; omega), if_neg (by omega), HCF.out, if_neg (by rw [hcbf]; decide)]⟩
        go_wp2_with (first | (go_at_call 17; refine (confRight_calls c _).mono ?_; rintro e w5 ⟨rfl, hw5⟩; rw [hcbf]; have hB2 := blk_below HC2.out hw5; have HB2 := Aside0.mk hB2; have HF5 := Aside0.mk (HF.out.below hw5); obtain ⟨r0, r1, r2, r3, r4, r5, r6, r7⟩ := cells8 hB2; have f0 := blk_frozen hB2 0; have f1 := blk_frozen hB2 1; have f2 := blk_frozen hB2 2; have f3 := blk_frozen hB2 3; have f4 := blk_frozen hB2 4; have f5 := blk_frozen hB2 5; have f6 := blk_frozen hB2 6; have f7 := blk_frozen hB2 7; clear hw5 hB2))
        obtain ⟨W4, hW4, hb4⟩ := set8 HB2.out ⟨0, 0, 0, 0, 0, 0, 0, 0⟩
        (try dsimp only at hW4)
        rw [← hW4]
        obtain ⟨z0, z1, z2, z3, z4, z5, z6, z7⟩ := cells8 hb4
        (try dsimp only at z0 z1 z2 z3 z4 z5 z6 z7)
        refine bodyPost_ret (by simp [results, Try.results13, go_sem, z0, z1, z2, z3, z4, z5, z6, z7]; try rfl) rfl ?_
        rw [hW4]
        exact dec_short HE.out rfl (fr_set8 HF5.out (Nat.le_refl _) _ _ _ _ _ _ _ _)
end Go.Proofs.Ythhibgkgbcdjnaa.ScrW

/- ring: the last bytes of an output. -/
import Derived.Test.YtfkamoiamebngaaGreatDoorM05
import Derived.BigRegion
namespace Go.Proofs.YtfkamoiamebngaaGreatDoor.BroW
open Go.RowKit Go.Proofs.YtfkamoiamebngaaGreatDoorW.PrintWords Go.Proofs.YtfkamoiamebngaaGreatDoorW.PrintMore Go.Proofs.YtfkamoiamebngaaGreatDoor.Fr Go.Proofs.YtfkamoiamebngaaGreatDoor.ScrW Go.Proofs.YtfkamoiamebngaaGreatDoor.ScrP
set_option linter.unusedVariables false
set_option linter.unusedSimpArgs false

/-- a row of n places that holds the last n bytes of all -/
def RingOk (al buf : List Int) (n : Nat) : Prop := buf.length = n ∧ ∀ i, i < al.length → al.length ≤ i + n → buf.getD (i % n) 0 = al.getD i 0
def rbase (al : List Int) (n : Nat) : Nat := al.length - n
/-- a ring at block g, its row at gb -/
def IsR (W : World) (g gb : Nat) (al : List Int) (n : Nat) : Prop :=
  ∃ buf, RingOk al buf n ∧ W.heap[g]? = some (.cells #[.slice (some ⟨gb, 0, none⟩) n n, .int .i64 (rbase al n), .int .i64 al.length] 154 (0, 0)) ∧ W.heap[gb]? = some (.cells (nums .u8 buf).toArray 5 (0, 0)) ∧ gb ≠ g
theorem ring_zero (n : Nat) : RingOk [] (List.replicate n 0) n := ⟨by simp, fun i h => by simp at h⟩
theorem ring_step {al buf : List Int} {n : Nat} (hn : 0 < n) (h : RingOk al buf n) (c : Int) : RingOk (al ++ [c]) (buf.set (al.length % n) c) n := by
  obtain ⟨h1, h2⟩ := h
  refine ⟨by simp [h1], fun i hi hin => ?_⟩
  simp only [List.length_append, List.length_singleton] at hi hin
  by_cases he : i = al.length
  · subst he
    have hm := Nat.mod_lt al.length hn
    have e2 : (al ++ [c]).getD al.length 0 = c := by simp
    rw [e2, List.getD_eq_getElem?_getD, List.getElem?_set_self (by omega)]
    rfl
  · have hlt : i < al.length := by omega
    have hne : al.length % n ≠ i % n := fun e => by
      have h3 : (al.length - i) % n = 0 := Nat.sub_mod_eq_zero_of_mod_eq e
      have h4 : (al.length - i) % n = al.length - i := Nat.mod_eq_of_lt (by omega)
      omega
    have e2 : (al ++ [c]).getD i 0 = al.getD i 0 := by
      rw [List.getD_eq_getElem?_getD, List.getD_eq_getElem?_getD, List.getElem?_append_left hlt]
    rw [e2, ← h2 i hlt (by omega), List.getD_eq_getElem?_getD, List.getD_eq_getElem?_getD, List.getElem?_set_ne hne]
theorem nums_at (k : IntKind) (xs : List Int) (i : Nat) (h : i < xs.length) : (nums k xs).toArray[i]? = some (.int k (xs.getD i 0)) := by
  simp [nums, h]
theorem nums_set (k : IntKind) (xs : List Int) (i : Nat) (c : Int) : (nums k xs).toArray.setIfInBounds i (.int k c) = (nums k (xs.set i c)).toArray := by
  simp [nums, List.map_set]

theorem rbase_calls (al : List Int) (n g gb : Nat) (w : World) (h : IsR w g gb al n) :
    Calls Tryz.prog 150 #[.pointer (some ⟨g, 0, none⟩)] w fun e w' => e = .returned (.int .i64 (rbase al n)) ∧ w' = w := by
  obtain ⟨buf, _, hb, _⟩ := h
  have c1 : w.cell? ⟨g, 1, none⟩ = some (.int .i64 (rbase al n)) := (blk_cell hb 1).trans rfl
  clear hb
  go_enter Tryz.func150, Tryz.ntmps150
  go_wp2
  go_returns
  exact ⟨rfl, rfl⟩
theorem rend_calls (al : List Int) (n g gb : Nat) (w : World) (h : IsR w g gb al n) :
    Calls Tryz.prog 156 #[.pointer (some ⟨g, 0, none⟩)] w fun e w' => e = .returned (.int .i64 al.length) ∧ w' = w := by
  obtain ⟨buf, _, hb, _⟩ := h
  have c2 : w.cell? ⟨g, 2, none⟩ = some (.int .i64 al.length) := (blk_cell hb 2).trans rfl
  clear hb
  go_enter Tryz.func156, Tryz.ntmps156
  go_wp2
  go_returns
  exact ⟨rfl, rfl⟩
theorem rat_calls (al : List Int) (n g gb i : Nat) (c : Int) (w : World) (h : IsR w g gb al n) (hn : 0 < n) (hnm : n ≤ 65536) (hi : i < al.length) (hin : al.length ≤ i + n) (hc : al.getD i 0 = c) (hal : al.length ≤ 1099511627776) :
    Calls Tryz.prog 169 #[.pointer (some ⟨g, 0, none⟩), .int .i64 i] w fun e w' => e = .returned (.int .u8 c) ∧ Fr nope w w' := by
  obtain ⟨buf, hk, hb, hgb, _⟩ := h
  have c0 : w.cell? ⟨g, 0, none⟩ = some (.slice (some ⟨gb, 0, none⟩) n n) := (blk_cell hb 0).trans rfl
  have hm := Nat.mod_lt i hn
  have hr := hk.2 i hi hin
  rw [hc] at hr
  have d0 : w.cell? ⟨gb, i % n, none⟩ = some (.int .u8 c) := by rw [← hr]; exact (blk_cell hgb _).trans (nums_at _ _ _ (by rw [hk.1]; exact hm))
  have hg : g < w.heap.size := blk_lt hb
  have hmod : (i : Int) % (n : Int) = ((i % n : Nat) : Int) := (Int.natCast_emod i n).symm
  have htm : Int.tmod (i : Int) (n : Int) = ((i % n : Nat) : Int) := by rw [Int.tmod_eq_emod_of_nonneg (by omega)]; exact hmod
  obtain ⟨m, hmm⟩ : ∃ m, i % n = m := ⟨_, rfl⟩
  rw [hmm] at hm d0 hmod htm
  have hn0 : ((n : Int) == 0) = false := by simp; omega
  clear hb hgb hr hk hc hmm
  go_enter Tryz.func169, Tryz.ntmps169
  go_wp2
  go_quiet (fail)
  go_wp2
  go_returns
  exact ⟨rfl, (Fr.refl _ _).drewN _⟩

set_option maxRecDepth 100000 in
set_option maxHeartbeats 1000000 in
theorem rread_calls (al xs : List Int) (n g gb off : Nat) (k : Int) (w : World) (h : IsR w g gb al n) (hn : 0 < n) (hnm : n ≤ 65536) (hal : al.length ≤ 1099511627776) (ho : rbase al n ≤ off) (ho2 : off ≤ al.length) (hk : k ≤ 65536) (hk0 : -100 ≤ k) (hx : (al.drop off).take k.toNat = xs) :
    Calls Tryz.prog 152 #[.pointer (some ⟨g, 0, none⟩), .int .i64 off, .int .i64 k] w fun e w' => ∃ A c, e = .returned (.tuple #[.slice A xs.length c, .bool true]) ∧ w'.ownsRow w.heap.size 5 1 (.slice A xs.length c) xs.length (nums .u8 xs) ∧ Fr nope w w' := by
  have HR := Aside0.mk h
  have HX := Aside0.mk hx
  obtain ⟨r, hr⟩ : ∃ r, rbase al n = r := ⟨_, rfl⟩
  have HRB := Aside0.mk hr
  have hr2 : al.length ≤ r + n := by rw [← hr]; unfold rbase; omega
  rw [hr] at ho
  have c1 : w.cell? ⟨g, 1, none⟩ = some (.int .i64 r) := by rw [← hr]; obtain ⟨buf, _, hb, _⟩ := h; exact (blk_cell hb 1).trans rfl
  have c2 : w.cell? ⟨g, 2, none⟩ = some (.int .i64 al.length) := by obtain ⟨buf, _, hb, _⟩ := h; exact (blk_cell hb 2).trans rfl
  have hg : g < w.heap.size := by obtain ⟨buf, _, hb, _⟩ := h; exact blk_lt hb
  have t1 : decide (off < r) = false := decide_eq_false (by omega)
  have t2 : decide (al.length < off) = false := decide_eq_false (by omega)
  clear h hr hx
  go_enter Tryz.func152, Tryz.ntmps152
  go_wp2
  go_loopw [1, 2, 8] (fun v1 v2 v8 wr => ∃ (j : Nat) (ys : List Int) (A8 : Option Addr) (c8 : Nat), v1 = .int .i64 ((off : Int) + (j : Int)) ∧ v2 = .int .i64 (k - (j : Int)) ∧ v8 = .slice A8 ys.length c8 ∧ off + j ≤ al.length ∧ ((j : Int) ≤ k ∨ j = 0) ∧ Aside0 (ys = (al.drop off).take j) ∧ Aside0 (ys.length = j) ∧ ys.length ≤ 2000000000000 ∧ Aside0 (wr.ownsRow w.heap.size 5 1 (.slice A8 ys.length c8) ys.length (nums .u8 ys)) ∧ Aside0 (Fr nope w wr)) (fun v1 _ _ _ => al.length - (intOf v1).toNat)
  case atStart => exact ⟨0, [], none, 0, by simp, by simp, rfl, by omega, .inr rfl, ⟨by simp⟩, ⟨rfl⟩, by simp, ⟨World.ownsRow_nil _ _ _ _⟩, ⟨Fr.refl _ _⟩⟩
  case round =>
    obtain ⟨j, ys, A8, c8, rfl, rfl, rfl, hj, hjk, HY, HYL, hylm, HO, HF⟩ := hrel
    have c1' : wr.cell? ⟨g, 1, none⟩ = some (.int .i64 r) := by rw [World.cell?_of_block (HF.out.block _ hg (fun h => h))]; exact c1
    have c2' : wr.cell? ⟨g, 2, none⟩ = some (.int .i64 al.length) := by rw [World.cell?_of_block (HF.out.block _ hg (fun h => h))]; exact c2
    by_cases hlt : (j : Int) < k ∧ off + j < al.length
    · obtain ⟨c, hc⟩ : ∃ c, al.getD (off + j) 0 = c := ⟨_, rfl⟩
      obtain ⟨zs, hz⟩ : ∃ l, l = ys ++ [c] := ⟨_, rfl⟩
      have HZ := Aside0.mk hz
      have HZL : Aside0 (zs.length = j + 1) := ⟨by rw [hz]; simp [HYL.out]⟩
      have hzl : zs.length ≤ 2000000000000 := by rw [HZL.out]; omega
      have HZ2 : Aside0 (zs = (al.drop off).take (j + 1)) := ⟨by
        rw [hz, HY.out, List.take_succ_eq_append_getElem (by rw [List.length_drop]; omega)]
        congr 2
        rw [← hc]; simp; rw [List.getElem?_eq_getElem (by omega)]; rfl⟩
      have t3 : decide ((0 : Int) < k - (j : Int)) = true := decide_eq_true (by omega)
      have t4 : decide (((off + j : Nat) : Int) < (al.length : Int)) = true := decide_eq_true (by omega)
      have HC := Aside0.mk hc
      have hsz : w.heap.size ≤ wr.heap.size := HF.out.size
      have HRR : Aside0 (IsR wr g gb al n) := ⟨by
        obtain ⟨buf, h1, h2, h3, h4⟩ := HR.out
        exact ⟨buf, h1, HF.out.blk h2 (fun h => h), HF.out.blk h3 (fun h => h), h4⟩⟩
      have hj2 : al.length ≤ off + j + n := by omega
      clear hz hc
      go_wp2_with (first | (go_at_call 169; refine (rat_calls al n g gb (off + j) c wr HRR.out hn hnm hlt.2 hj2 HC.out hal).mono ?_; rintro e1 w1 ⟨rfl, hf1⟩; have HF1 := Aside0.mk hf1; have hs1 : wr.heap.size ≤ w1.heap.size := hf1.size; clear hf1) | ((with_reducible refine gate_builtin (b := .append) (xs := #[.tmp 35, .tmp 39]) rfl ?_); at_builtin; refine app_nums rfl (.tmp 35) (.tmp 39) 29 5 .u8 1 rfl Tryz.underlying29 info5 (by decide) w.heap.size (.slice A8 ys.length c8) ys [c] _ 1 1 rfl rfl ?aO ?aR ?aB ?aL ?_; (case aO => exact (HF1.out.own HO.out (fun _ _ h => h)).alloc _); (case aR => exact reads_one w1 .u8 c 5); (case aB => exact (by rw [World.size_alloc]; omega)); (case aL => exact (by omega)); intro v2 w2 ho2 hf2 hat2; rw [← HZ.out] at ho2; obtain ⟨A2, c2, rfl⟩ := own_slice ho2; have HO2 := Aside0.mk ho2; have HF2 := Aside0.mk ((((HF.out.trans HF1.out (fun _ _ h => h.elim)).alloc _).trans hf2 (fun i hi hs => absurd (own_old HO.out hs).1 (by omega)))); clear ho2 hf2 hat2))
      case roundEnd =>
        refine ⟨⟨j + 1, zs, A2, c2, by go_num, by go_num, rfl, by omega, .inl (by omega), HZ2, HZL, hzl, HO2, HF2⟩, ?_⟩
        simp only [intOf]
        omega
    · have HE : Aside0 (ys = xs) := ⟨by
        rw [HY.out, ← HX.out]
        by_cases hjk2 : (j : Int) = k
        · rw [show k.toNat = j by omega]
        · by_cases hj0 : off + j < al.length
          · have : j = 0 := by omega
            subst this
            rw [show k.toNat = 0 by omega]
          · rw [List.take_of_length_le (by rw [List.length_drop]; omega), List.take_of_length_le (by rw [List.length_drop]; omega)]⟩
      have hle : ¬ ((0 : Int) < k - (j : Int) ∧ ((off + j : Nat) : Int) < (al.length : Int)) := by omega
      have fin : ∃ A c, (Value.slice A8 ys.length c8) = .slice A xs.length c ∧ wr.ownsRow w.heap.size 5 1 (.slice A xs.length c) xs.length (nums .u8 xs) := by
        have h1 := HO.out
        rw [HE.out] at h1
        exact ⟨A8, c8, by rw [HE.out], h1⟩
      have FIN := Aside0.mk fin
      clear fin
      by_cases t3 : (0 : Int) < k - (j : Int)
      · have t3' : decide ((0 : Int) < k - (j : Int)) = true := decide_eq_true t3
        have t4 : decide (((off + j : Nat) : Int) < (al.length : Int)) = false := decide_eq_false (by omega)
        go_wp2
        go_returns
        obtain ⟨A, c, e1, h1⟩ := FIN.out
        exact ⟨A, c, congrArg (fun v => Ending.returned (.tuple #[v, .bool true])) e1, h1, HF.out⟩
      · have t3' : decide ((0 : Int) < k - (j : Int)) = false := decide_eq_false t3
        go_wp2
        go_returns
        obtain ⟨A, c, e1, h1⟩ := FIN.out
        exact ⟨A, c, congrArg (fun v => Ending.returned (.tuple #[v, .bool true])) e1, h1, HF.out⟩
end Go.Proofs.YtfkamoiamebngaaGreatDoor.BroW

/- ring: New, Append, Line; msg.Size. -/
namespace Go.Proofs.YtfkamoiamebngaaGreatDoor.BroW
open Go.RowKit Go.Proofs.YtfkamoiamebngaaGreatDoorW.PrintWords Go.Proofs.YtfkamoiamebngaaGreatDoorW.PrintMore Go.Proofs.YtfkamoiamebngaaGreatDoor.Fr Go.Proofs.YtfkamoiamebngaaGreatDoor.ScrW Go.Proofs.YtfkamoiamebngaaGreatDoor.ScrP Go.Proofs.YtfkamoiamebngaaGreatDoor.Mod
set_option linter.unusedVariables false
set_option linter.unusedSimpArgs false

theorem nums_rep (n : Nat) : (nums .u8 (List.replicate n 0)).toArray = madeCells #[.int .u8 0] n := by
  apply Array.ext'
  simp only [nums, madeCells, List.map_replicate]
  symm
  apply List.eq_replicate_iff.2
  refine ⟨by simp, fun b hb => ?_⟩
  simp only [Array.toList_ofFn, Array.toList_map, Array.toList_range, List.mem_map, List.mem_ofFn] at hb
  obtain ⟨i, _, rfl⟩ := hb
  simp [Nat.mod_one]

theorem run_imax {P : Program} (x y m : Int) (h : max x y = m) (ts : Array TypeId) (t : TypeId) (w : World) : (Builtin.max_ ts t #[.int .i64 x, .int .i64 y]).run P w = .ok (.int .i64 m) w := by
  subst h
  show (Builtin.max2 (.int .i64 x) (.int .i64 y) >>= fun a => pure a).run P w = _
  simp only [Builtin.max2]
  by_cases hc : x < y
  · have : max x y = y := by omega
    simp [hc, this]
  · have : max x y = x := by omega
    simp [hc, this]
theorem run_imin {P : Program} (x y m : Int) (h : min x y = m) (ts : Array TypeId) (t : TypeId) (w : World) : (Builtin.min_ ts t #[.int .i64 x, .int .i64 y]).run P w = .ok (.int .i64 m) w := by
  subst h
  show (Builtin.min2 (.int .i64 x) (.int .i64 y) >>= fun a => pure a).run P w = _
  simp only [Builtin.min2]
  by_cases hc : y < x
  · have : min x y = y := by omega
    simp [hc, this]
  · have : min x y = x := by omega
    simp [hc, this]
theorem blk_other {w : World} {g b : Nat} {o : Obj} (h : w.heap[g]? = some o) (hn : g ≠ b) (j : Nat) (v : Value) : (w.setCell ⟨b, j, none⟩ v).heap[g]? = some o :=
  (Below.heap_setCell w ⟨b, j, none⟩ v g hn).trans h
set_option maxRecDepth 100000 in
theorem rnew_calls (n : Nat) (w : World) (h0 : 0 < n) (h1 : n ≤ 65536) :
    Calls Tryz.prog 94 #[.int .i64 n] w fun e w' => ∃ g gb, e = .returned (.pointer (some ⟨g, 0, none⟩)) ∧ IsR w' g gb [] n ∧ w.heap.size ≤ g ∧ w.heap.size ≤ gb ∧ Fr nope w w' := by
  have hmk := print_make_of (P := Tryz.prog) 29 5 (.int .u8 0) 1 Tryz.underlying29 info5 rfl (by decide) n (by omega)
  have fin : ∀ (x : Int), x = n → Calls Tryz.prog 94 #[.int .i64 x] w fun e w' => e = .returned (.pointer (some ⟨w.heap.size + 1, 0, none⟩)) ∧ w' = (w.alloc (.cells (madeCells #[.int .u8 0] n) 5)).alloc (.cells #[.slice (some ⟨w.heap.size, 0, none⟩) n n, .int .i64 0, .int .i64 0] 154) := by
    intro x hx
    by_cases hn : n = 1
    · subst hn
      have hx1 : x = 1 := hx
      subst hx1
      clear hx
      simp only [Int.natCast_one] at hmk
      go_enter Tryz.func94, Tryz.ntmps94
      go_wp2
      go_returns
      exact ⟨rfl, rfl⟩
    · subst hx
      have h2 : 1 < n := by omega
      go_enter Tryz.func94, Tryz.ntmps94
      go_wp2
      all_goals go_returns
      all_goals exact ⟨rfl, rfl⟩
  refine (fin n rfl).mono ?_
  rintro e w' ⟨rfl, rfl⟩
  refine ⟨_, w.heap.size, rfl, ⟨List.replicate n 0, ring_zero n, ?_, ?_, by omega⟩, by omega, Nat.le_refl _, ((Fr.refl _ _).alloc _).alloc _⟩
  · have := blk_second w (.cells (madeCells #[.int .u8 0] n) 5) (.cells #[.slice (some ⟨w.heap.size, 0, none⟩) n n, .int .i64 0, .int .i64 0] 154)
    simpa [rbase] using this
  · rw [nums_rep]
    exact blk_alloc (blk_new w _) _

theorem rappend_calls (al xs : List Int) (n g gb : Nat) (A : Option Addr) (cp : Nat) (w : World) (h : IsR w g gb al n) (hn : 0 < n) (hnm : n ≤ 65536) (hal : al.length + xs.length ≤ 1000000) (hr : ReadsInt w .u8 A xs.length xs) (hA : ∀ ad, A = some ad → ad.block ≠ g ∧ ad.block ≠ gb) :
    Calls Tryz.prog 64 #[.pointer (some ⟨g, 0, none⟩), .slice A xs.length cp] w fun e w' => e = .returned (.bool true) ∧ IsR w' g gb (al ++ xs) n ∧ Fr (fun i => i = g ∨ i = gb) w w' := by
  have HR := Aside0.mk hr
  have HI := Aside0.mk h
  have HA := Aside0.mk hA
  obtain ⟨buf, hb1, hb2, hb3, hne⟩ := h
  have HNE := Aside0.mk hne
  have c2 : w.cell? ⟨g, 2, none⟩ = some (.int .i64 al.length) := (blk_cell hb2 2).trans rfl
  have t1 : decide ((1099511627776 : Int) - (al.length : Int) < (xs.length : Int)) = false := decide_eq_false (by omega)
  have hg : g < w.heap.size := blk_lt hb2
  have hgb : gb < w.heap.size := blk_lt hb3
  clear hr hA hb1 hb2 hb3 hne
  go_enter Tryz.func64, Tryz.ntmps64
  go_wp2
  go_loopw [6, 17] (fun _ v17 wr => ∃ (j : Nat), v17 = .int .i64 j ∧ j ≤ xs.length ∧ Aside0 (∃ buf, RingOk (al ++ xs.take j) buf n ∧ wr.heap[g]? = some (.cells #[.slice (some ⟨gb, 0, none⟩) n n, .int .i64 (rbase al n), .int .i64 ((al.length + j : Nat) : Int)] 154 (0, 0)) ∧ wr.heap[gb]? = some (.cells (nums .u8 buf).toArray 5 (0, 0))) ∧ Aside0 (Fr (fun i => i = g ∨ i = gb) w wr)) (fun _ i _ => xs.length - (intOf i).toNat)
  case atStart => exact ⟨0, rfl, Nat.zero_le _, ⟨by obtain ⟨buf, h1, h2, h3, _⟩ := HI.out; exact ⟨buf, by simpa using h1, by simpa using h2, h3⟩⟩, ⟨Fr.refl _ _⟩⟩
  case round =>
    obtain ⟨j, rfl, hj, HB, HF⟩ := hrel
    by_cases hlt : j < xs.length
    · obtain ⟨buf, hk, hb, hgbk⟩ := HB.out
      obtain ⟨ad, hAd, hcs⟩ := HR.out.2.2 (by omega)
      have hAA := HA.out ad hAd
      subst hAd
      obtain ⟨c, hc⟩ : ∃ c, xs.getD j 0 = c := ⟨_, rfl⟩
      have hcell : wr.cell? (ad.add j) = some (.int .u8 c) := by
        have := hcs j hlt
        rw [hc] at this
        have hbk : (ad.add j).block = ad.block := by unfold Addr.add; split <;> rfl
        exact frCell HF.out this (fun h => by rw [hbk] at h; rcases h with h | h; exact hAA.1 h; exact hAA.2 h)
      have d0 : wr.cell? ⟨g, 0, none⟩ = some (.slice (some ⟨gb, 0, none⟩) n n) := (blk_cell hb 0).trans rfl
      obtain ⟨q, hq⟩ : ∃ q : Nat, al.length + j = q := ⟨_, rfl⟩
      have hqb : q ≤ 1000000 := by omega
      rw [hq] at hb
      have d2 : wr.cell? ⟨g, 2, none⟩ = some (.int .i64 (q : Int)) := (blk_cell hb 2).trans rfl
      have f2 := blk_frozen hb 2
      have hlen : (al ++ xs.take j).length = q := by rw [List.length_append, List.length_take]; omega
      have hm := Nat.mod_lt q hn
      have hem : (q : Int) % (n : Int) = ((q % n : Nat) : Int) := (Int.natCast_emod q n).symm
      have htm : Int.tmod (q : Int) (n : Int) = ((q % n : Nat) : Int) := by rw [Int.tmod_eq_emod_of_nonneg (by omega)]; exact hem
      have HST : Aside0 (RingOk (al ++ xs.take (j + 1)) (buf.set (q % n) c) n) := ⟨by
        have := ring_step hn hk c
        rw [hlen] at this
        rw [List.take_succ_eq_append_getElem hlt, ← List.append_assoc]
        have e : xs[j] = c := by rw [← hc]; simp [hlt]
        rw [e]
        exact this⟩
      obtain ⟨m, hmm⟩ : ∃ m, q % n = m := ⟨_, rfl⟩
      rw [hmm] at hm htm hem HST
      obtain ⟨x, hx⟩ : ∃ x, buf.getD m 0 = x := ⟨_, rfl⟩
      have e0 : wr.cell? ⟨gb, m, none⟩ = some (.int .u8 x) := by rw [← hx]; exact (blk_cell hgbk _).trans (nums_at _ _ _ (by rw [hk.1]; exact hm))
      have fe := blk_frozen hgbk m
      have hn0 : ((n : Int) == 0) = false := by simp; omega
      have hnz : ¬ n = 0 := by omega
      have hwm : IntKind.i64.wrap (m : Int) = (m : Int) := by rw [IntKind.wrap_i64]; omega
      have HBLK := Aside0.mk (And.intro hb hgbk)
      have HQ := Aside0.mk hq
      have HK : Aside0 (∀ w', Fr (only gb) wr w' → w'.cell? ⟨g, 0, none⟩ = some (.slice (some ⟨gb, 0, none⟩) n n) ∧ w'.cell? ⟨g, 2, none⟩ = some (.int .i64 (q : Int)) ∧ Fr (only gb) wr w') :=
        ⟨fun w' hF => ⟨frCell hF d0 (fun h => HNE.out h.symm), frCell hF d2 (fun h => HNE.out h.symm), hF⟩⟩
      clear hcs hc hlen hmm hx hb hgbk hk hAA hq
      go_wp2
      go_region_held3 (fun w' => w'.cell? ⟨g, 0, none⟩ = some (.slice (some ⟨gb, 0, none⟩) n n) ∧ w'.cell? ⟨g, 2, none⟩ = some (.int .i64 (q : Int)) ∧ Fr (only gb) wr w')
        (first | exact HK.out _ (Fr.refl _ wr).drew | exact HK.out _ ((Fr.refl (only gb) wr).set (g := gb) (fun _ => only_self gb) m _).drew | fail) (fail)
      all_goals go_wp2
      case roundEnd =>
        have hFF : Fr (fun i => i = g ∨ i = gb) w ((wr.setCell ⟨gb, m, none⟩ (.int .u8 c)).drew.setCell ⟨g, 2, none⟩ (.int .i64 ((q : Int) + 1))) := ((HF.out.set (fun _ => .inr rfl) m _).drew).set (fun _ => .inl rfl) 2 _
        refine ⟨⟨j + 1, by push_cast; rfl, hlt, ⟨?_⟩, ⟨hFF⟩⟩, ?_⟩
        · refine ⟨_, HST.out, ?_, ?_⟩
          · have h1 := blk_set (blk_drew (blk_other HBLK.out.1 (fun e => HNE.out e.symm) m (.int .u8 c))) 2 (.int .i64 ((q : Int) + 1))
            have e : ((al.length + (j + 1) : Nat) : Int) = (q : Int) + 1 := by have := HQ.out; omega
            rw [e]
            exact h1
          · have h1 := blk_other (blk_drew (blk_set HBLK.out.2 m (.int .u8 c))) (fun e => HNE.out e) 2 (.int .i64 ((q : Int) + 1))
            rw [nums_set] at h1
            exact h1
        · simp only [intOf]
          omega
    · have hjl : j = xs.length := by omega
      obtain ⟨buf, hk, hb, hgbk⟩ := HB.out
      rw [hjl, List.take_length] at hk
      rw [hjl] at hb
      obtain ⟨q, hq⟩ : ∃ q : Nat, al.length + xs.length = q := ⟨_, rfl⟩
      rw [hq] at hb
      have hqb : q ≤ 1000000 := by omega
      obtain ⟨r, hrr⟩ : ∃ r : Nat, rbase al n = r := ⟨_, rfl⟩
      obtain ⟨r2, hrr2⟩ : ∃ r : Nat, rbase (al ++ xs) n = r := ⟨_, rfl⟩
      have hmx : max (r : Int) ((q : Int) - (n : Int)) = (r2 : Int) := by
        rw [← hrr, ← hrr2]
        unfold rbase
        rw [List.length_append]
        omega
      have hrb : r ≤ 1000000 := by rw [← hrr]; unfold rbase; omega
      rw [hrr] at hb
      have d0 : wr.cell? ⟨g, 0, none⟩ = some (.slice (some ⟨gb, 0, none⟩) n n) := (blk_cell hb 0).trans rfl
      have d1 : wr.cell? ⟨g, 1, none⟩ = some (.int .i64 (r : Int)) := (blk_cell hb 1).trans rfl
      have d2 : wr.cell? ⟨g, 2, none⟩ = some (.int .i64 (q : Int)) := (blk_cell hb 2).trans rfl
      have f1 := blk_frozen hb 1
      have kmx := run_imax (P := Tryz.prog) _ _ _ hmx
      clear hmx
      have hws : IntKind.i64.wrap ((q : Int) - (n : Int)) = (q : Int) - (n : Int) := by rw [IntKind.wrap_i64]; omega
      have HQ := Aside0.mk (And.intro hq (And.intro hrr2 hk))
      have HBLK := Aside0.mk (And.intro hb hgbk)
      have t2 : decide (j < xs.length) = false := decide_eq_false hlt
      have HK : Aside0 (∀ w', Fr nope wr w' → w'.cell? ⟨g, 0, none⟩ = some (.slice (some ⟨gb, 0, none⟩) n n) ∧ w'.cell? ⟨g, 1, none⟩ = some (.int .i64 (r : Int)) ∧ w'.cell? ⟨g, 2, none⟩ = some (.int .i64 (q : Int))) :=
        ⟨fun w' hF => ⟨frCell hF d0 (fun h => h), frCell hF d1 (fun h => h), frCell hF d2 (fun h => h)⟩⟩
      clear hjl hq hrr hrr2 hk hb hgbk hlt
      go_wp2
      go_region
      go_wp2
      go_returns
      refine ⟨rfl, ⟨buf, HQ.out.2.2, ?_, ?_, HNE.out⟩, ?_⟩
      · have h1 := blk_drew (blk_set HBLK.out.1 1 (.int .i64 (r2 : Int)))
        rw [HQ.out.2.1, List.length_append, HQ.out.1]
        exact h1
      · exact blk_drew (blk_other HBLK.out.2 (fun e => HNE.out e) 1 _)
      · exact (HF.out.set (fun _ => .inl rfl) 1 _).drew

set_option maxRecDepth 100000 in
set_option maxHeartbeats 1000000 in
theorem rline_calls (al : List Int) (n g gb off : Nat) (w : World) (h : IsR w g gb al n) (hn : 0 < n) (hnm : n ≤ 65536) (hal : al.length ≤ 1000000) (ho : off ≤ 1000000) :
    Calls Tryz.prog 157 #[.pointer (some ⟨g, 0, none⟩), .int .i64 off] w fun e w' => e = .returned (.int .i64 (lineM al n off)) ∧ Fr nope w w' := by
  have HI := Aside0.mk h
  obtain ⟨r, hr⟩ : ∃ r : Nat, rbase al n = r := ⟨_, rfl⟩
  have hrM : rbaseM al n = r := by rw [← hr]; unfold rbaseM rbase; simp
  have HRM := Aside0.mk hrM
  have hrl : r ≤ 1000000 := by rw [← hr]; unfold rbase; omega
  have HRB := Aside0.mk hr
  obtain ⟨buf, hb1, hb2, hb3, hne⟩ := h
  rw [hr] at hb2
  have HB := Aside0.mk hb2
  have c1 : w.cell? ⟨g, 1, none⟩ = some (.int .i64 (r : Int)) := (blk_cell hb2 1).trans rfl
  have c2 : w.cell? ⟨g, 2, none⟩ = some (.int .i64 al.length) := (blk_cell hb2 2).trans rfl
  obtain ⟨s, hs⟩ : ∃ s : Nat, max off r = s := ⟨_, rfl⟩
  have hmx : max (off : Int) (r : Int) = (s : Int) := by rw [← hs]; omega
  have hsr : r ≤ s := by omega
  have kmx := run_imax (P := Tryz.prog) _ _ _ hmx
  clear hmx
  have hsl : s ≤ 1000000 := by omega
  have HE : Aside0 (lineM al n off = lineGo al r (al.length + 1) s) := ⟨by unfold lineM; rw [hrM, hs]⟩
  clear hr hrM hb1 hb2 hb3 hne hs
  go_enter Tryz.func157, Tryz.ntmps157
  go_wp2
  obtain ⟨F0, hF0⟩ : ∃ F0, F0 = al.length + 1 := ⟨_, rfl⟩
  have hF0b : al.length < F0 := by omega
  rw [← hF0] at HE
  clear hF0
  go_loopw [1] (fun v1 wr => ∃ (s1 f : Nat), v1 = .int .i64 s1 ∧ r ≤ s1 ∧ s1 ≤ 2000000 ∧ al.length < s1 + f ∧ Aside0 (lineGo al r F0 s = lineGo al r f s1) ∧ Aside0 (Fr nope w wr)) (fun i _ => al.length - (intOf i).toNat)
  case atStart => exact ⟨s, F0, rfl, hsr, by omega, by omega, ⟨rfl⟩, ⟨Fr.refl _ _⟩⟩
  case round =>
    obtain ⟨s1, f, rfl, hr1, hs1, hf, HL, HF⟩ := hrel
    have d1 : wr.cell? ⟨g, 1, none⟩ = some (.int .i64 (r : Int)) := frCell HF.out c1 (fun h => h)
    have d2 : wr.cell? ⟨g, 2, none⟩ = some (.int .i64 al.length) := frCell HF.out c2 (fun h => h)
    have HRR : Aside0 (IsR wr g gb al n) := ⟨by
      obtain ⟨buf, h1, h2, h3, h4⟩ := HI.out
      exact ⟨buf, h1, HF.out.blk h2 (fun h => h), HF.out.blk h3 (fun h => h), h4⟩⟩
    by_cases hlt : s1 < al.length
    · obtain ⟨f1, rfl⟩ : ∃ f1, f = f1 + 1 := ⟨f - 1, by omega⟩
      by_cases h0 : s1 = 0
      · have HX : Aside0 (lineGo al r (f1 + 1) s1 = s1) := ⟨by rw [lineGo, if_pos hlt, if_pos (.inl h0)]⟩
        have t0 : ((s1 : Int) == 0) = true := beq_iff_eq.2 (by omega)
        clear h0
        go_wp2
        go_returns
        exact ⟨by rw [HE.out, HL.out, HX.out]; rfl, HF.out⟩
      · have t0 : ((s1 : Int) == 0) = false := beq_eq_false_iff_ne.2 (by omega)
        by_cases hb : r < s1
        · have t1 : decide (r < s1) = true := decide_eq_true hb
          obtain ⟨c, hc⟩ : ∃ c, al.getD (s1 - 1) 0 = c := ⟨_, rfl⟩
          obtain ⟨s2, hs2⟩ : ∃ s2 : Nat, s2 + 1 = s1 := ⟨s1 - 1, by omega⟩
          have hcs : (s1 : Int) - 1 = (s2 : Int) := by omega
          have hc2 : al.getD s2 0 = c := by rw [← hc]; congr 1; omega
          have HC : Aside0 (∀ W, Fr nope wr W → Calls Tryz.prog 169 #[.pointer (some ⟨g, 0, none⟩), .int .i64 ((s1 : Int) - 1)] W fun e w' => e = .returned (.int .u8 c) ∧ Fr nope W w') := ⟨fun W hW => by
            rw [hcs]
            refine rat_calls al n g gb s2 c W ?_ hn hnm (by omega) ?_ hc2 (by omega)
            · obtain ⟨buf, h1, h2, h3, h4⟩ := HRR.out
              exact ⟨buf, h1, hW.blk h2 (fun h => h), hW.blk h3 (fun h => h), h4⟩
            · have := HRB.out; unfold rbase at this; omega⟩
          by_cases hc10 : c = 10
          · have HX : Aside0 (lineGo al r (f1 + 1) s1 = s1) := ⟨by rw [lineGo, if_pos hlt, if_pos (.inr ⟨hb, by rw [hc]; exact hc10⟩)]⟩
            have t2 : (c == 10) = true := beq_iff_eq.2 hc10
            clear hc10 hc hs2 hcs hc2 h0
            go_wp2_with (first | (go_at_call 169; refine (HC.out wr (Fr.refl _ _)).mono ?_; rintro e1 w1 ⟨rfl, hf1⟩; have HF1 := Aside0.mk hf1; clear hf1))
            go_returns
            exact ⟨by rw [HE.out, HL.out, HX.out]; rfl, frThru HF.out HF1.out⟩
          · have HX : Aside0 (lineGo al r (f1 + 1) s1 = lineGo al r f1 (s1 + 1)) := ⟨by rw [lineGo, if_pos hlt, if_neg (by rintro (h | ⟨_, h⟩); exact h0 h; exact hc10 (by rw [← hc]; exact h))]⟩
            have t2 : (c == 10) = false := beq_eq_false_iff_ne.2 hc10
            clear hc10 hc hs2 hcs hc2 h0
            go_wp2_with (first | (go_at_call 169; refine (HC.out wr (Fr.refl _ _)).mono ?_; rintro e1 w1 ⟨rfl, hf1⟩; have HF1 := Aside0.mk hf1; clear hf1))
            case roundEnd =>
              refine ⟨⟨s1 + 1, f1, by push_cast; rfl, by omega, by omega, by omega, ⟨by rw [HL.out, HX.out]⟩, ⟨frThru HF.out HF1.out⟩⟩, ?_⟩
              simp only [intOf]
              omega
        · have t1 : decide (r < s1) = false := decide_eq_false hb
          have HX : Aside0 (lineGo al r (f1 + 1) s1 = lineGo al r f1 (s1 + 1)) := ⟨by rw [lineGo, if_pos hlt, if_neg (by rintro (h | ⟨h, _⟩); exact h0 h; exact hb h)]⟩
          clear h0
          go_wp2
          case roundEnd =>
            refine ⟨⟨s1 + 1, f1, by push_cast; rfl, by omega, by omega, by omega, ⟨by rw [HL.out, HX.out]⟩, HF⟩, ?_⟩
            simp only [intOf]
            omega
    · have HX : Aside0 (lineGo al r f s1 = al.length) := ⟨by
        cases f with
        | zero => rfl
        | succ f => rw [lineGo, if_neg hlt]⟩
      have t3 : decide (s1 < al.length) = false := decide_eq_false hlt
      clear hlt
      go_wp2
      go_returns
      exact ⟨by rw [HE.out, HL.out, HX.out]; rfl, HF.out⟩

theorem msize_calls (m : Mg) (w : World) (ht : m.t.size ≤ 1000000) :
    Calls Tryz.prog 151 #[mgV m] w fun e w' => e = .returned (.int .i64 (mSize m)) ∧ Fr nope w w' := by
  unfold mgV
  have hn := shN_b m.k
  obtain ⟨n, hn1⟩ : ∃ n, shN m.k = n := ⟨_, rfl⟩
  have HN := Aside0.mk hn1
  rw [hn1] at hn
  have HE : Aside0 (mSize m = 5 + 6 * n + m.t.size) := ⟨by unfold mSize; rw [hn1]⟩
  clear hn1
  go_enter Tryz.func151, Tryz.ntmps151
  go_wp2_with (first | (go_at_call 30; refine (shape_calls m.k _).mono ?_; rintro e w1 ⟨rfl, hw1⟩; have hw1 := hw1.symm; subst hw1; rw [HN.out]))
  go_returns
  exact ⟨by rw [HE.out]; rfl, (Fr.refl _ _).alloc _⟩
end Go.Proofs.YtfkamoiamebngaaGreatDoor.BroW

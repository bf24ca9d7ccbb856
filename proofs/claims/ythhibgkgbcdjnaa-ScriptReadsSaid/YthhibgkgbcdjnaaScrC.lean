/- Encode: a conf and events as bytes. -/
import Derived.Test.YthhibgkgbcdjnaaScrO
import Derived.Test.YthhibgkgbcdjnaaScrL
namespace Go.Proofs.Ythhibgkgbcdjnaa.ScrW
open Go.RowKit Go.Proofs.YthhibgkgbcdjnaaW.PrintWords Go.Proofs.YthhibgkgbcdjnaaW.PrintMore Go.Proofs.Ythhibgkgbcdjnaa.Fr Go.Proofs.Ythhibgkgbcdjnaa.ScrP Go.Proofs.Ythhibgkgbcdjnaa.Openers
set_option linter.unusedVariables false
set_option linter.unusedSimpArgs false

def Owns (w wr : World) (v : Value) (xs : List Int) : Prop := wr.ownsRow w.heap.size 5 1 v xs.length (nums .u8 xs)
def EncOk (c : Cf) (L : List Ev) (w w' : World) (v : Value) (x : Int) : Prop :=
  (8192 < L.length ∧ v = .slice none 0 0 ∧ x = 6) ∨ (L.length ≤ 8192 ∧ ¬ (cfB c = true ∧ ∀ e ∈ L, evB e = true) ∧ v = .slice none 0 0 ∧ x = 1) ∨
  (L.length ≤ 8192 ∧ cfB c = true ∧ (∀ e ∈ L, evB e = true) ∧ x = 0 ∧ Owns w w' v (encB c L))
/-- the bytes of the conf's first parts -/
def cfPre (c : Cf) (k : Nat) : List Int := (((cfL c).take k).map be3).flatten
theorem cfPre_succ (c : Cf) (k : Nat) (x : Int) (h : k < 8) (hx : (cfL c).getD k 0 = x) : cfPre c (k + 1) = cfPre c k ++ be3 x := by
  obtain rfl | rfl | rfl | rfl | rfl | rfl | rfl | rfl : k = 0 ∨ k = 1 ∨ k = 2 ∨ k = 3 ∨ k = 4 ∨ k = 5 ∨ k = 6 ∨ k = 7 := by omega
  all_goals (subst hx; rfl)
theorem cfPre_len (c : Cf) (k : Nat) (h : k ≤ 8) : (cfPre c k).length = 3 * k := by
  obtain rfl | rfl | rfl | rfl | rfl | rfl | rfl | rfl | rfl : k = 0 ∨ k = 1 ∨ k = 2 ∨ k = 3 ∨ k = 4 ∨ k = 5 ∨ k = 6 ∨ k = 7 ∨ k = 8 := by omega
  all_goals rfl
theorem cf_bound {c : Cf} (h : cfB c = true) (k : Nat) (hk : k < 8) : 0 ≤ (cfL c).getD k 0 ∧ (cfL c).getD k 0 ≤ 65536 := by
  obtain ⟨h0, h1, h2, h3, h4, h5, h6, h7⟩ := cfB_facts h
  obtain rfl | rfl | rfl | rfl | rfl | rfl | rfl | rfl : k = 0 ∨ k = 1 ∨ k = 2 ∨ k = 3 ∨ k = 4 ∨ k = 5 ∨ k = 6 ∨ k = 7 := by omega
  all_goals (simp only [cfL, List.getD_cons_zero, List.getD_cons_succ]; omega)
def ptrs8 (g : Nat) : Array Value := #[.pointer (some ⟨g, 0, none⟩), .pointer (some ⟨g, 1, none⟩), .pointer (some ⟨g, 2, none⟩), .pointer (some ⟨g, 3, none⟩), .pointer (some ⟨g, 4, none⟩), .pointer (some ⟨g, 5, none⟩), .pointer (some ⟨g, 6, none⟩), .pointer (some ⟨g, 7, none⟩)]
def cfCells (c : Cf) : Array Value := #[.int .i64 c.a0, .int .i64 c.a1, .int .i64 c.a2, .int .i64 c.a3, .int .i64 c.a4, .int .i64 c.a5, .int .i64 c.a6, .int .i64 c.a7]
theorem ptrs8_at (g k : Nat) (h : k < 8) : (ptrs8 g)[k]? = some (.pointer (some ⟨g, k, none⟩)) := by
  obtain rfl | rfl | rfl | rfl | rfl | rfl | rfl | rfl : k = 0 ∨ k = 1 ∨ k = 2 ∨ k = 3 ∨ k = 4 ∨ k = 5 ∨ k = 6 ∨ k = 7 := by omega
  all_goals rfl
theorem cfCells_at (c : Cf) (k : Nat) (h : k < 8) : (cfCells c)[k]? = some (.int .i64 ((cfL c).getD k 0)) := by
  obtain rfl | rfl | rfl | rfl | rfl | rfl | rfl | rfl : k = 0 ∨ k = 1 ∨ k = 2 ∨ k = 3 ∨ k = 4 ∨ k = 5 ∨ k = 6 ∨ k = 7 := by omega
  all_goals rfl
/-- the cells of an event that stands in a row that is read -/
theorem evCells {W : World} {A : Option Addr} {L : List Ev} (h : ReadsEv W A L) (k : Nat) (hk : k < L.length) (e : Ev) (he : L.getD k ev0 = e) {W1 : World} (hF : Fr nope W W1) :
    ∃ ad, A = some ad ∧ W1.cell? (ad.add (k * 4)) = some (.int .i64 e.k) ∧ W1.cell? ⟨(ad.add (k * 4)).block, (ad.add (k * 4)).off + 1, none⟩ = some (.int .i64 e.i) ∧ W1.cell? ⟨(ad.add (k * 4)).block, (ad.add (k * 4)).off + 2, none⟩ = some (.int .i64 e.n) ∧ W1.cell? ⟨(ad.add (k * 4)).block, (ad.add (k * 4)).off + 3, none⟩ = some (.string e.d) ∧ e.d.size ≤ 140737488351232 := by
  obtain ⟨ad, rfl, hcs⟩ := h.2 (by omega)
  obtain ⟨h0, h1, h2, h3, h4⟩ := hcs k hk
  rw [he] at h0 h1 h2 h3 h4
  rw [add_field _ _ _ (by decide)] at h1 h2 h3
  have back : ∀ {a : Addr} {v : Value}, W.cell? a = some v → W1.cell? a = some v := fun {a v} h => by
    rw [World.cell?_of_block (hF.block _ (World.block_lt_of_cell? W _ h) (fun h => h))]; exact h
  exact ⟨ad, rfl, back h0, back h1, back h2, back h3, h4⟩
theorem sz_le (L : List Ev) (k : Nat) (h : k < L.length) (e : Ev) (he : L.getD k ev0 = e) : sz (L.take k) + e.d.size ≤ sz L := by
  have h1 := sz_take L k h e he
  have h2 : sz L = sz (L.take (k + 1)) + sz (L.drop (k + 1)) := by
    unfold sz
    rw [← List.sum_append, ← List.map_append, List.take_append_drop]
  omega
theorem flat_len (L : List Ev) : (flat L).length = 7 * L.length + sz L := by
  induction L with
  | nil => rfl
  | cons e L ih => rw [flat_cons, List.length_append, ih, evBytes_len]; simp [sz]; omega
theorem flat_take (L : List Ev) (k : Nat) (h : k < L.length) (e : Ev) (he : L.getD k ev0 = e) : flat (L.take (k + 1)) = flat (L.take k) ++ evBytes e := by
  have : L.take (k + 1) = L.take k ++ [e] := by
    rw [List.take_succ_eq_append_getElem h, ← he]
    simp [h]
  rw [this, flat_append, flat_one]
theorem mem_take_succ (L : List Ev) (k : Nat) (h : k < L.length) (e : Ev) (he : L.getD k ev0 = e) (x : Ev) : x ∈ L.take (k + 1) ↔ x ∈ L.take k ∨ x = e := by
  have : L.take (k + 1) = L.take k ++ [e] := by
    rw [List.take_succ_eq_append_getElem h, ← he]
    simp [h]
  rw [this]; simp
theorem getD_mem (L : List Ev) (k : Nat) (h : k < L.length) (e : Ev) (he : L.getD k ev0 = e) : e ∈ L := by
  rw [← he]; simp [h]

theorem ne_row {w : World} {v v1 : Value} {g : Nat} (h : AtRow w v1 v) (hne : ∀ b, v.ownBlock = some b → b ≠ g) (hg : g < w.heap.size) : ∀ b, v1.ownBlock = some b → b ≠ g := by
  intro b hb
  rcases h with h | ⟨b2, h, h2⟩
  · rw [h] at hb; exact hne b hb
  · rw [h] at hb; cases hb; omega
theorem own_base_le {w : World} {b b1 : Nat} {e : TypeId} {size n : Nat} {v : Value} {xs : List Value} (h : w.ownsRow b1 e size v n xs) (hb : b ≤ b1) : w.ownsRow b e size v n xs := by
  obtain ⟨h1, h2⟩ := h
  refine ⟨h1, ?_⟩
  rcases h2 with h2 | ⟨g, cap, cur, e1, hg, r⟩
  · exact .inl h2
  · exact .inr ⟨g, cap, cur, e1, by omega, r⟩

set_option maxHeartbeats 2000000 in
set_option maxRecDepth 100000 in
theorem encode_calls (c : Cf) (L : List Ev) (A : Option Addr) (cp : Nat) (w : World) (hr : ReadsEv w A L) (hs : 8192 < L.length ∨ sz L ≤ 100000) :
    Calls Try.prog 12 #[cfV c, .slice A L.length cp] w fun e w' => ∃ v x, e = .returned (.tuple #[v, .int .i64 x]) ∧ Fr nope w w' ∧ EncOk c L w w' v x := by
  unfold cfV
  have hlm := hr.1
  have HR := Aside0.mk hr
  clear hr
  by_cases h8 : 8192 < L.length
  · have t1 : decide (8192 < (L.length : Int)) = true := decide_eq_true (by omega)
    have HP : Aside0 (∀ w', EncOk c L w w' (.slice none 0 0) 6) := ⟨fun w' => .inl ⟨h8, rfl, rfl⟩⟩
    clear h8 hs
    go_enter Try.func12, Try.ntmps12
    go_wp2
    go_returns
    exact ⟨_, _, rfl, (Fr.refl _ _).alloc _, HP.out _⟩
  have t1 : decide (8192 < (L.length : Int)) = false := decide_eq_false (by omega)
  have HS : Aside0 (sz L ≤ 100000) := ⟨by omega⟩
  have H8 : Aside0 (L.length ≤ 8192) := ⟨by omega⟩
  clear h8 hs
  by_cases hcb : cfB c = true
  case neg =>
    have hcf : cfB c = false := by simpa using hcb
    have HP : Aside0 (∀ w', EncOk c L w w' (.slice none 0 0) 1) := ⟨fun w' => .inr (.inl ⟨H8.out, fun h => hcb h.1, rfl, rfl⟩)⟩
    clear hcb
    go_enter Try.func12, Try.ntmps12
    go_wp2_with (first | (go_at_call 17; refine (confRight_calls c _).mono ?_; rintro e w1 ⟨rfl, hw1⟩; rw [hcf]; have HW1 := Aside0.mk hw1; clear hw1))
    go_returns
    exact ⟨_, _, rfl, ((Fr.refl _ _).alloc _).below HW1.out, HP.out _⟩
  have HCB := Aside0.mk hcb
  go_enter Try.func12, Try.ntmps12
  go_wp2_with (first | (go_at_call 17; refine (confRight_calls c _).mono ?_; rintro e w1 ⟨rfl, hw1⟩; rw [hcb]; have HW1 := Aside0.mk hw1; clear hw1) | (go_at_call 18; refine (fields_calls w.heap.size _).mono ?_; rintro e w2 ⟨rfl, hw2⟩; have HW2 := Aside0.mk hw2; clear hw2))
  have hC : w2.heap[w.heap.size]? = some (.cells (cfCells c) 23 (0, 0)) := by rw [HW2.out]; exact blk_drew (blk_alloc (blk_below (blk_new w _) HW1.out) _)
  have hP : w2.heap[w1.heap.size]? = some (.cells (ptrs8 w.heap.size) 53 (0, 0)) := by rw [HW2.out]; exact blk_drew (blk_new w1 _)
  have HF2 : Aside0 (Fr nope w w2) := ⟨by rw [HW2.out]; exact ((((Fr.refl _ _).alloc _).below HW1.out).alloc _).drew⟩
  have HC := Aside0.mk hC
  have HP := Aside0.mk hP
  clear hC hP HW2 HW1
  go_loopw [6, 19] (fun v6 v19 wr => ∃ (k : Nat) (xs : List Int) (A6 : Option Addr) (c6 : Nat), v19 = .int .i64 k ∧ k ≤ 8 ∧ v6 = .slice A6 xs.length c6 ∧ Aside0 (xs = cfPre c k) ∧ xs.length ≤ 24 ∧ Aside0 (wr.ownsRow w2.heap.size 5 1 (.slice A6 xs.length c6) xs.length (nums .u8 xs)) ∧ Aside0 (Fr nope w2 wr)) (fun _ i _ => 8 - (intOf i).toNat)
  case atStart => exact ⟨0, [], none, 0, rfl, Nat.zero_le _, rfl, ⟨rfl⟩, Nat.zero_le _, ⟨World.ownsRow_nil _ _ _ _⟩, ⟨Fr.refl _ _⟩⟩
  case round =>
    obtain ⟨k, xs, A6, c6, rfl, hk, rfl, HX, hxl, HO, HF⟩ := hrel
    by_cases hlt : k < 8
    · have hx := cf_bound HCB.out k hlt
      have p1 : wr.cell? ⟨w1.heap.size, k, none⟩ = some (.pointer (some ⟨w.heap.size, k, none⟩)) := (blk_cell (HF.out.blk HP.out (fun h => h)) k).trans (ptrs8_at _ k hlt)
      have p2 : wr.cell? ⟨w.heap.size, k, none⟩ = some (.int .i64 ((cfL c).getD k 0)) := (blk_cell (HF.out.blk HC.out (fun h => h)) k).trans (cfCells_at _ k hlt)
      obtain ⟨x, hxe⟩ : ∃ x, (cfL c).getD k 0 = x := ⟨_, rfl⟩
      rw [hxe] at hx p2
      obtain ⟨ys, hys⟩ : ∃ l, l = xs ++ be3 x := ⟨_, rfl⟩
      have HX2 : Aside0 (ys = cfPre c (k + 1)) := ⟨by rw [hys, cfPre_succ c k x hlt hxe, HX.out]⟩
      have hyl : ys.length ≤ 24 := by rw [HX2.out, cfPre_len c (k + 1) (by omega)]; omega
      have HYS := Aside0.mk hys
      clear hxe hys
      go_wp2_with (first | (go_at_call 19; refine (number3_calls x hx.1 hx.2 w2.heap.size A6 c6 xs _ HF.out.size (by omega) HO.out).mono ?_; rintro e w3 ⟨v1, rfl, ho1, hf1, hat1⟩; rw [← HYS.out] at ho1; obtain ⟨A1, c1, rfl⟩ := own_slice ho1; have HO1 := Aside0.mk ho1; have HF1 := Aside0.mk (HF.out.trans hf1 (fun i hi hs => absurd (own_old HO.out hs).1 (by omega))); clear ho1 hf1 hat1))
      case roundEnd =>
        refine ⟨⟨k + 1, ys, A1, c1, by push_cast; rfl, by omega, rfl, HX2, hyl, HO1, HF1⟩, ?_⟩
        simp only [intOf]
        omega
    · have hk8 : k = 8 := by omega
      have HX8 : Aside0 (xs = cfBytes c ++ flat (L.take 0)) := ⟨by rw [HX.out, hk8]; simp [flat]; rfl⟩
      go_wp2
      go_loopw [6, 31] (fun v6 v31 wq => ∃ (j : Nat) (ys : List Int) (A7 : Option Addr) (c7 : Nat), v31 = .int .i64 j ∧ j ≤ L.length ∧ v6 = .slice A7 ys.length c7 ∧ Aside0 (ys = cfBytes c ++ flat (L.take j)) ∧ Aside0 (∀ e ∈ L.take j, evB e = true) ∧ Aside0 (wq.ownsRow w2.heap.size 5 1 (.slice A7 ys.length c7) ys.length (nums .u8 ys)) ∧ Aside0 (Fr nope w2 wq)) (fun _ i _ => L.length - (intOf i).toNat)
      case atStart => exact ⟨0, xs, A6, c6, rfl, Nat.zero_le _, rfl, HX8, ⟨fun e h => by simp at h⟩, HO, HF⟩
      case round =>
        clear HX8 HX HO HF hxl hk8 hlt hk
        obtain ⟨j, ys, A7, c7, rfl, hj, rfl, HX, HE, HO, HF⟩ := hrel
        by_cases hlt : j < L.length
        · obtain ⟨e, he⟩ : ∃ e, L.getD j ev0 = e := ⟨_, rfl⟩
          obtain ⟨ad, rfl, g0, g1, g2, g3, hsz⟩ := evCells HR.out j hlt e he (HF2.out.trans HF.out (fun i hi h => h.elim))
          have hyl : ys.length ≤ 200000 := by
            rw [HX.out, List.length_append, cfBytes_len, flat_len, List.length_take]
            have := sz_le L j hlt e he
            have := HS.out
            have := H8.out
            omega
          have hesz : e.d.size ≤ 100000 := by
            have := sz_le L j hlt e he
            have := HS.out
            omega
          have HMEM := Aside0.mk (getD_mem L j hlt e he)
          have HFT := Aside0.mk (flat_take L j hlt e he)
          have HMT := Aside0.mk (mem_take_succ L j hlt e he)
          clear he
          by_cases hev : evB e = true
          · obtain ⟨⟨hk1, hk2⟩, ⟨hi1, hi2⟩, ⟨hn1, hn2⟩, hd4⟩ := evB_facts hev
            obtain ⟨y1, hy1⟩ : ∃ l, l = ys ++ [e.k, e.i] := ⟨_, rfl⟩
            obtain ⟨y2, hy2⟩ : ∃ l, l = y1 ++ be3 e.n := ⟨_, rfl⟩
            obtain ⟨y3, hy3⟩ : ∃ l, l = y2 ++ be2 e.d.size := ⟨_, rfl⟩
            obtain ⟨y4, hy4⟩ : ∃ l, l = y3 ++ bytesOf e.d := ⟨_, rfl⟩
            have hl1 : y1.length ≤ ys.length + 2 := by rw [hy1]; simp
            have hl2 : y2.length ≤ y1.length + 3 := by rw [hy2]; simp [be3]
            have hl3 : y3.length ≤ y2.length + 2 := by rw [hy3]; simp [be2]
            have HX4 : Aside0 (y4 = cfBytes c ++ flat (L.take (j + 1))) := ⟨by rw [HFT.out, hy4, hy3, hy2, hy1, HX.out]; simp only [evBytes]; rw [show e.k % 256 = e.k by omega, show e.i % 256 = e.i by omega]; simp⟩
            have HE4 : Aside0 (∀ x ∈ L.take (j + 1), evB x = true) := ⟨fun x hx => by
              rcases (HMT.out x).1 hx with hx | hx
              · exact HE.out x hx
              · rw [hx]; exact hev⟩
            have HY1 := Aside0.mk hy1
            have HY2 := Aside0.mk hy2
            have HY3 := Aside0.mk hy3
            have HY4 := Aside0.mk hy4
            have hsw : w2.heap.size ≤ wr.heap.size := HF.out.size
            clear hy1 hy2 hy3 hy4 hcb
            go_wp2_with (first | (go_at_call 10; refine (evRight_calls e _).mono ?_; rintro e3 w3 ⟨rfl, hw3⟩; rw [hev]; have hs3 : wr.heap.size + 1 ≤ w3.heap.size := (by have := hw3.size; simp at this; omega); have hB3 : w3.heap[wr.heap.size]? = some (.cells #[.int .i64 e.k, .int .i64 e.i, .int .i64 e.n, .string e.d] 30 (0, 0)) := blk_below (blk_new wr _) hw3; have HB3 := Aside0.mk hB3; have d0 : w3.cell? ⟨wr.heap.size, 0, none⟩ = some (.int .i64 e.k) := (blk_cell hB3 0).trans rfl; have d1 : w3.cell? ⟨wr.heap.size, 1, none⟩ = some (.int .i64 e.i) := (blk_cell hB3 1).trans rfl; have HF3 := Aside0.mk ((HF.out.alloc _).below hw3); have HO3 := Aside0.mk ((((Fr.refl nope wr).alloc _).below hw3).own HO.out (fun _ _ h => h)); clear hw3 hB3) | ((with_reducible refine gate_builtin (b := .append) (xs := #[.tmp 38, .tmp 45]) rfl ?_); at_builtin; refine app_nums rfl (.tmp 38) (.tmp 45) 32 5 .u8 1 rfl Try.underlying32 info5 (by decide) w2.heap.size (.slice A7 ys.length c7) ys [e.k, e.i] _ 2 2 rfl rfl ?aO ?aR ?aB ?aL ?_; (case aO => exact HO3.out.alloc _); (case aR => exact reads_lit w3 .u8 [e.k, e.i] 5 (0, 0) (by simp)); (case aB => exact (by rw [World.size_alloc]; omega)); (case aL => exact (by omega)); intro v4 w4 ho4 hf4 hat4; rw [← HY1.out] at ho4; obtain ⟨A4, c4, rfl⟩ := own_slice ho4; have HO4 := Aside0.mk ho4; have HF4 := Aside0.mk ((HF3.out.alloc _).trans hf4 (fun i hi hs => absurd (own_old HO3.out hs).1 (by omega))); have hne4 : ∀ b, (Value.slice A4 y1.length c4).ownBlock = some b → b ≠ wr.heap.size := (fun b hb => by rcases hat4 with h | ⟨b2, h, h2⟩; exact (by rw [h] at hb; have := (own_old HO.out hb).2; omega); exact (by rw [h] at hb; cases hb; rw [World.size_alloc] at h2; omega)); have HNE4 := Aside0.mk hne4; have hB4 := hf4.blk (blk_alloc HB3.out _) (fun hs => absurd (own_old HO.out hs).2 (by omega)); have HB4 := Aside0.mk hB4; clear ho4 hf4 hat4 hne4 hB4 d0 d1))
            have q2 : w4.cell? ⟨wr.heap.size, 2, none⟩ = some (.int .i64 e.n) := (blk_cell HB4.out 2).trans rfl
            have q3 : w4.cell? ⟨wr.heap.size, 3, none⟩ = some (.string e.d) := (blk_cell HB4.out 3).trans rfl
            go_region_held3 (fun w' => w'.cell? ⟨wr.heap.size, 2, none⟩ = some (.int .i64 e.n) ∧ w'.cell? ⟨wr.heap.size, 3, none⟩ = some (.string e.d))
              (first | exact ⟨q2, q3⟩ | exact ⟨q52, q53⟩ | exact ⟨q62, q63⟩ | fail)
              (first | (go_at_call 19; have hq5 := number3_calls e.n hn1 hn2 w2.heap.size A4 c4 y1 w4.drew HF4.out.size (by omega) HO4.out; (with_reducible refine hq5.mono ?_); clear hq5; rintro e5 w5 ⟨v5, rfl, ho5, hf5, hat5⟩; rw [← HY2.out] at ho5; obtain ⟨A5, c5, rfl⟩ := own_slice ho5; have HO5 := Aside0.mk ho5; have HF5 := Aside0.mk (HF4.out.drew.trans hf5 (fun i hi hs => absurd (own_old HO4.out hs).1 (by omega))); have HB5 := Aside0.mk (hf5.blk (blk_drew HB4.out) (fun hs => HNE4.out _ hs rfl)); have HNE5 := Aside0.mk (ne_row hat5 HNE4.out (blk_lt HB4.out)); have q52 : w5.cell? ⟨wr.heap.size, 2, none⟩ = some (.int .i64 e.n) := (blk_cell HB5.out 2).trans rfl; have q53 : w5.cell? ⟨wr.heap.size, 3, none⟩ = some (.string e.d) := (blk_cell HB5.out 3).trans rfl; clear ho5 hf5 hat5) | (go_at_call 19; have hq6 := number2_calls e.d.size (by omega) (by omega) w2.heap.size A5 c5 y2 w5 HF5.out.size (by omega) HO5.out; (with_reducible refine hq6.mono ?_); clear hq6; rintro e6 w6 ⟨v6, rfl, ho6, hf6, hat6⟩; rw [← HY3.out] at ho6; obtain ⟨A6', c6', rfl⟩ := own_slice ho6; have HO6 := Aside0.mk ho6; have HF6 := Aside0.mk (HF5.out.trans hf6 (fun i hi hs => absurd (own_old HO5.out hs).1 (by omega))); have HB6 := Aside0.mk (hf6.blk HB5.out (fun hs => HNE5.out _ hs rfl)); have q62 : w6.cell? ⟨wr.heap.size, 2, none⟩ = some (.int .i64 e.n) := (blk_cell HB6.out 2).trans rfl; have q63 : w6.cell? ⟨wr.heap.size, 3, none⟩ = some (.string e.d) := (blk_cell HB6.out 3).trans rfl; clear ho6 hf6 hat6) | fail)
            go_wp2_with (first | ((with_reducible refine gate_builtin (b := .append) (xs := #[.tmp 55, .tmp 57]) rfl ?_); at_builtin; refine print_append_str (w0 := w6) w2.heap.size rfl (.tmp 55) (.tmp 57) 32 9 5 rfl Try.underlying32 Try.underlying9 info5 (.slice A6' y3.length c6') y3 e.d rfl rfl HO6.out (Below.refl _ _) HF6.out.size (by omega) ?_; intro v7 w7 ho7 hb7 hg7; rw [← HY4.out] at ho7; obtain ⟨A7', c7', rfl⟩ := own_slice ho7; have HO7 := Aside0.mk ho7; have HF7 := Aside0.mk (HF6.out.grown hg7 (fun b hb hlt => absurd (own_old HO6.out hb).1 (by omega))); clear ho7 hb7 hg7))
            case roundEnd =>
              refine ⟨⟨j + 1, y4, A7', c7', by push_cast; rfl, hlt, rfl, HX4, HE4, HO7, HF7⟩, ?_⟩
              simp only [intOf]
              omega
          · have hevf : evB e = false := by simpa using hev
            have HPP : Aside0 (∀ w', EncOk c L w w' (.slice none 0 0) 1) := ⟨fun w' => .inr (.inl ⟨H8.out, fun h => hev (h.2 e HMEM.out), rfl, rfl⟩)⟩
            clear hev
            go_wp2_with (first | (go_at_call 10; refine (evRight_calls e _).mono ?_; rintro e3 w3 ⟨rfl, hw3⟩; rw [hevf]; have HW3 := Aside0.mk hw3; clear hw3))
            go_returns
            exact ⟨_, _, rfl, ((HF2.out.trans HF.out (fun i hi h => h.elim)).alloc _).below HW3.out, HPP.out _⟩
        · have hjl : j = L.length := by omega
          have HX9 : Aside0 (ys = encB c L) := ⟨by rw [HX.out, hjl, List.take_length]; rfl⟩
          have HE9 : Aside0 (∀ e ∈ L, evB e = true) := ⟨by have := HE.out; rw [hjl, List.take_length] at this; exact this⟩
          clear hjl
          go_wp2
          go_returns
          exact ⟨_, _, rfl, HF2.out.trans HF.out (fun i hi h => h.elim), .inr (.inr ⟨H8.out, HCB.out, HE9.out, rfl, by rw [← HX9.out]; exact own_base_le HO.out HF2.out.size⟩)⟩
end Go.Proofs.Ythhibgkgbcdjnaa.ScrW
